/- The reference's at: the position of an index in a list of entries. -/
import Derived.Test.YtmdmbnpgdkmklaaRs4
namespace Go.Proofs.Ytmdmbnpgdkmklaa
open Go.RowKit
set_option linter.unusedVariables false
set_option linter.unusedSimpArgs false

def atE : List En → Int → Nat
  | [], _ => 0
  | e :: l, i => if (e.i : Int) < i then atE l i + 1 else 0

theorem atE_eq : ∀ (l : List En) (i : Int) (k : Nat), k ≤ l.length → (∀ j (h : j < l.length), j < k → (l[j].i : Int) < i) → (∀ h : k < l.length, ¬ (l[k].i : Int) < i) → atE l i = k
  | [], i, k, h1, _, _ => by simp at h1; rw [h1]; rfl
  | e :: l, i, 0, _, _, h3 => by
    unfold atE
    rw [if_neg (show ¬ (e.i : Int) < i from h3 (by simp))]
  | e :: l, i, k + 1, h1, h2, h3 => by
    unfold atE
    rw [if_pos (show (e.i : Int) < i from h2 0 (by simp) (by omega)), atE_eq l i k (by simpa using h1) (fun j hj hjk => h2 (j + 1) (by simpa using hj) (by omega)) (fun h => h3 (by simpa using h))]

set_option maxRecDepth 100000 in
set_option maxHeartbeats 2000000 in
theorem at_spec {w : World} {base : Nat} {v : Value} {l : List En} (h : w.ownsRow base 83 3 v l.length (enCells l)) (hl : l.length ≤ 1073741824) (i : Int) (hi : inI64 i) :
    Calls Try.prog 79 #[v, .int .i64 i] w fun e w' => e = .returned (.int .i64 (atE l i : Int)) ∧ w = w' := by
  obtain ⟨M, hM⟩ : ∃ M, M = l.length := ⟨_, rfl⟩
  obtain ⟨p, cp, rfl⟩ : ∃ p cp, v = .slice p M cp := by
    rcases h.2 with ⟨h1, h0⟩ | ⟨g, cap, cur, h1, _⟩
    · exact ⟨none, 0, by rw [hM, h0]; exact h1⟩
    · exact ⟨_, _, by rw [hM]; exact h1⟩
  have H := Lib.hid h
  have HM := Lib.hid hM
  have hM30 : M ≤ 1073741824 := by omega
  obtain ⟨R, hR⟩ : ∃ R, R = atE l i := ⟨_, rfl⟩
  rw [← hR]
  have HR := Lib.hid hR
  unfold inI64 at hi
  obtain ⟨hi1, hi2⟩ := hi
  clear h hM hl hR
  go_enter Try.func79, Try.ntmps79
  go_wp2_with fail
  go_loopw [5] (fun kv wr => ∃ k : Nat, k ≤ M ∧ kv = .int .i64 k ∧ Hid (∀ j (h : j < l.length), j < k → (l[j].i : Int) < i) ∧ wr = w) (fun kv _ => M - (intOf kv).toNat)
  case atStart => exact ⟨0, by omega, rfl, Lib.hid (fun j _ hj => by omega), rfl⟩
  case round =>
    obtain ⟨k, hk, rfl, Hb, rfl⟩ := hrel
    by_cases hlt : k < M
    · have hkl : k < l.length := by rw [← HM.out]; exact hlt
      obtain ⟨g, rfl⟩ : ∃ g, p = some ⟨g, 0, none⟩ := by
        rcases H.out.2 with ⟨_, h0⟩ | ⟨g, cap, cur, h1, _⟩
        · omega
        · simp only [Value.slice.injEq] at h1
          exact ⟨g, h1.1⟩
      have hvv := H.out
      rw [show M = l.length from HM.out] at hvv
      obtain ⟨c0, -, -⟩ := own_cell hvv k hkl
      obtain ⟨ei, hei⟩ : ∃ ei : Nat, ei = l[k].i := ⟨_, rfl⟩
      rw [← hei] at c0
      have hkM : (k : Int) < (M : Int) := by omega
      by_cases hlt2 : (ei : Int) < i
      · have hd : decide ((ei : Int) < i) = true := by simpa using hlt2
        have Hb2 : Hid (∀ j (h : j < l.length), j < k + 1 → (l[j].i : Int) < i) := Lib.hid (fun j h hj => by
          rcases Nat.lt_or_ge j k with q | q
          · exact Hb.out j h q
          · obtain rfl : j = k := by omega
            rw [← hei]; exact hlt2)
        clear hvv hei
        go_wp2_with fail
        go_roundw
        case rel => exact ⟨k + 1, by omega, by go_num, Hb2, by simp⟩
        case measure => simp [intOf]; omega
      · have hd : decide ((ei : Int) < i) = false := by simpa using hlt2
        have hres : R = k := by rw [HR.out]; exact atE_eq l i k (by omega) Hb.out (fun h => by rw [← hei]; exact hlt2)
        subst hres
        clear hvv hei
        go_wp2_with fail
        go_ret
        exact ⟨rfl, rfl⟩
    · obtain rfl : k = M := by omega
      have hres : R = k := by rw [HR.out]; exact atE_eq l i k (by rw [← HM.out]; exact Nat.le_refl _) Hb.out (fun h => by have := HM.out; omega)
      subst hres
      have hd : decide ((R : Int) < (R : Int)) = false := by simp
      go_wp2_with fail
      go_ret
      exact ⟨rfl, rfl⟩

set_option maxRecDepth 100000 in
set_option maxHeartbeats 2000000 in
theorem has_spec (w : World) (ei : Nat) (ev et tag : Int) (h1 : -1 ≤ tag) (h2 : tag ≤ 1) :
    Calls Try.prog 89 #[.agg #[.int .i64 ei, .int .i64 ev, .int .i64 et], .int .i64 tag] w fun e w' => e = .returned (.bool (selT tag et)) ∧ Below w.heap.size w w' := by
  have hbb : Below w.heap.size w (w.alloc (.cells #[.int .i64 ei, .int .i64 ev, .int .i64 et] 83)) := (Below.refl _ _).alloc (Nat.le_refl _) _
  have Hbb := Lib.hid hbb
  clear hbb
  have hb := bit01_bd et 0
  have hb1 := bit01_bd et 1
  unfold bit01 at hb hb1
  have h3 : tag = -1 ∨ tag = 0 ∨ tag = 1 := by omega
  rcases h3 with rfl | rfl | rfl
  · have hs : selT (-1) et = true := by unfold selT; simp
    rw [hs]
    clear hb hb1 hs
    go_enter Try.func89, Try.ntmps89
    go_wp2_with fail
    go_ret
    exact ⟨rfl, Hbb.out⟩
  · have hs : selT 0 et = (bits .and .i64 et 1 == 1) := by
      unfold selT
      simp only [Int.pow_zero, Int.ediv_one] at hb
      simp only [Int.toNat_zero, Int.pow_zero, Int.ediv_one]
      generalize bits .and .i64 et 1 = x at hb ⊢
      have : x = 0 ∨ x = 1 := by omega
      rcases this with rfl | rfl <;> decide
    have Hs := Lib.hid hs
    clear hs hb hb1
    go_enter Try.func89, Try.ntmps89
    go_wp2_with fail
    go_ret
    exact ⟨congrArg (fun x => Ending.returned (Value.bool x)) Hs.out.symm, Hbb.out⟩
  · have hs : selT 1 et = (bits .and .i64 (et / 2) 1 == 1) := by
      unfold selT
      rw [show (2 : Int) ^ 1 = 2 by rfl] at hb1
      rw [show (1 : Int).toNat = 1 by rfl, show (2 : Int) ^ 1 = 2 by rfl]
      generalize bits .and .i64 (et / 2) 1 = x at hb1 ⊢
      have : x = 0 ∨ x = 1 := by omega
      rcases this with rfl | rfl <;> decide
    have Hs := Lib.hid hs
    clear hs hb hb1
    go_enter Try.func89, Try.ntmps89
    go_wp2_with fail
    go_ret
    exact ⟨congrArg (fun x => Ending.returned (Value.bool x)) Hs.out.symm, Hbb.out⟩
end Go.Proofs.Ytmdmbnpgdkmklaa
