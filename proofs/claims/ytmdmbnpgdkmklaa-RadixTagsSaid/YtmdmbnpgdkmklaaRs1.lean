/- The reference's span, index: small functions. -/
import Derived.Test.YtmdmbnpgdkmklaaSg
import Derived.Test.YtmdmbnpgdkmklaaRg4
namespace Go.Proofs.Ytmdmbnpgdkmklaa
open Go.RowKit
set_option linter.unusedVariables false
set_option linter.unusedSimpArgs false

set_option maxRecDepth 100000 in
set_option maxHeartbeats 2000000 in
theorem span_spec (w : World) (l : Nat) (hl : l ≤ 10) : Calls Try.prog 102 #[.int .i64 l] w fun e w' => e = .returned (.int .i64 ((8 ^ l : Nat) : Int)) ∧ w = w' := by
  have hl' : (l : Int) ≤ 10 := by omega
  go_enter Try.func102, Try.ntmps102
  go_wp2_with fail
  go_loopw [3, 4] (fun n i wr => ∃ k : Nat, k ≤ l ∧ i = .int .i64 k ∧ n = .int .i64 ((8 ^ k : Nat) : Int) ∧ wr = w) (fun _ i _ => l - (intOf i).toNat)
  case atStart => exact ⟨0, by omega, rfl, rfl, rfl⟩
  case round =>
    obtain ⟨k, hk, rfl, rfl, rfl⟩ := hrel
    obtain ⟨P, hP⟩ : ∃ P : Int, P = ((8 ^ k : Nat) : Int) := ⟨_, rfl⟩
    have hpk : 8 ^ k ≤ 8 ^ 10 := Nat.pow_le_pow_right (by omega) (by omega)
    have hP1 : P ≤ 1073741824 := by rw [hP]; have : (8 : Nat) ^ 10 = 1073741824 := by decide
                                    omega
    have hP0 : 0 ≤ P := by rw [hP]; exact Int.natCast_nonneg _
    have HP := Lib.hid hP
    rw [← hP]
    clear hP hpk
    by_cases hlt : k < l
    · have h1 : decide ((k : Int) < (l : Int)) = true := by simp; omega
      have h2 : decide ((k : Int) < 10) = true := by simp; omega
      go_wp2_with fail
      go_roundw
      case rel => exact ⟨k + 1, by omega, by go_num, by rw [HP.out, Nat.pow_succ]; push_cast; rfl, by simp⟩
      case measure => simp [intOf]; omega
    · obtain rfl : k = l := by omega
      have h1 : decide ((k : Int) < (k : Int)) = false := by simp
      go_wp2_with fail
      go_ret
      exact ⟨congrArg (fun x => Ending.returned (Value.int .i64 x)) HP.out, rfl⟩

set_option maxRecDepth 100000 in
set_option maxHeartbeats 4000000 in
theorem index_spec {w : World} {r : Rx} {c : Array Value} {i : Int} (h : IsR w r c) (hi : inI64 i) :
    Calls Try.prog 77 #[.agg c, .int .i64 i] w fun e w' => e = .returned (.int .i64 (if r.check ≠ 0 then r.check else if i < 0 ∨ 1073741824 ≤ i then 2 else 0)) ∧ Below w.heap.size w w' := by
  have hch := fun (W : World) (k : Keeps w W) => RCheck_spec (h.keeps k)
  obtain ⟨hh, nc, rfl, hn0⟩ := h
  obtain ⟨x0, x1, x2, x3, x4, x5, x6, x7, xp, xl, xc, rfl⟩ := hn0.lit
  simp only [List.append_toArray, List.cons_append, List.nil_append] at hch ⊢
  obtain ⟨ck, hck⟩ : ∃ ck, ck = r.check := ⟨_, rfl⟩
  rw [← hck] at hch ⊢
  obtain ⟨res, hres⟩ : ∃ res : Int, res = if ck ≠ 0 then ck else if i < 0 ∨ 1073741824 ≤ i then 2 else 0 := ⟨_, rfl⟩
  rw [← hres]
  have Hres := Lib.hid hres
  have Hch := Lib.hid hch
  unfold inI64 at hi
  obtain ⟨hi1, hi2⟩ := hi
  clear hch hn0 hh hck hres
  have hg := heap_alloc_new w (.cells #[.int .i64 r.h, .int .i64 x0, .int .i64 x1, .int .i64 x2, .int .i64 x3, .int .i64 x4, .int .i64 x5, .int .i64 x6, .int .i64 x7, .int .i64 r.root.t0, .int .i64 r.root.t1, .slice xp xl xc] 28)
  have Hg := Lib.hid hg
  clear hg
  go_enter Try.func77, Try.ntmps77
  go_wp2_with fail
  (with_reducible refine (Hch.out _ (Keeps.alloc _ _)).mono ?_)
  rintro e w2 ⟨rfl, hB2⟩
  have hbb : Below w.heap.size w w2 := ((Below.refl w.heap.size w).alloc (Nat.le_refl _) _).trans (hB2.mono (by simp))
  have hkw : Keeps w w2 := Keeps.of_below hbb
  have hg2 := (hB2.block w.heap.size (by simp)).trans Hg.out
  have Hkw := Lib.hid hkw
  clear hkw hB2
  by_cases h0 : ck = 0
  · subst h0
    by_cases hx : i < 0
    · have hr : res = 2 := by rw [Hres.out, if_neg (by simp), if_pos (.inl hx)]
      subst hr
      clear hg2
      go_wp2_with fail
      go_ret
      exact ⟨rfl, hbb⟩
    · by_cases hy : 1073741824 ≤ i
      · have hr : res = 2 := by rw [Hres.out, if_neg (by simp), if_pos (.inr hy)]
        subst hr
        clear hg2
        go_wp2_with fail
        go_ret
        exact ⟨rfl, hbb⟩
      · have hr : res = 0 := by rw [Hres.out, if_neg (by simp), if_neg (by omega)]
        subst hr
        clear hg2
        go_wp2_with fail
        go_ret
        exact ⟨rfl, hbb⟩
  · have h0' : (ck == 0) = false := by simpa using h0
    have hr : res = ck := by rw [Hres.out, if_pos h0]
    subst hr
    have hca := fun q => cell_of_row w2 w.heap.size q _ _ _ hg2
    have hd0 : w2.cell? ⟨w.heap.size, 0, none⟩ = some (.int .i64 r.h) := hca 0
    have hd1 : w2.cell? ⟨w.heap.size, 1, none⟩ = some (.int .i64 x0) := hca 1
    have hd2 : w2.cell? ⟨w.heap.size, 2, none⟩ = some (.int .i64 x1) := hca 2
    have hd3 : w2.cell? ⟨w.heap.size, 3, none⟩ = some (.int .i64 x2) := hca 3
    have hd4 : w2.cell? ⟨w.heap.size, 4, none⟩ = some (.int .i64 x3) := hca 4
    have hd5 : w2.cell? ⟨w.heap.size, 5, none⟩ = some (.int .i64 x4) := hca 5
    have hd6 : w2.cell? ⟨w.heap.size, 6, none⟩ = some (.int .i64 x5) := hca 6
    have hd7 : w2.cell? ⟨w.heap.size, 7, none⟩ = some (.int .i64 x6) := hca 7
    have hd8 : w2.cell? ⟨w.heap.size, 8, none⟩ = some (.int .i64 x7) := hca 8
    have hd9 : w2.cell? ⟨w.heap.size, 9, none⟩ = some (.int .i64 r.root.t0) := hca 9
    have hd10 : w2.cell? ⟨w.heap.size, 10, none⟩ = some (.int .i64 r.root.t1) := hca 10
    have hd11 : w2.cell? ⟨w.heap.size, 11, none⟩ = some (.slice xp xl xc) := hca 11
    clear hca hg2
    go_wp2_with fail
    (with_reducible refine (Hch.out _ Hkw.out).mono ?_)
    rintro e w3 ⟨rfl, hB3⟩
    have Hfin := Lib.hid (hbb.trans (hB3.mono hbb.size))
    clear hB3
    go_wp2_with fail
    go_ret
    exact ⟨rfl, Hfin.out⟩
end Go.Proofs.Ytmdmbnpgdkmklaa
