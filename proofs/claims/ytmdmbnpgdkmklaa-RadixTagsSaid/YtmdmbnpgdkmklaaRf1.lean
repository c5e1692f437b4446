/- The reference's small tests of a node: bit, values, Absent, leaf. -/
import Derived.Test.YtmdmbnpgdkmklaaSa
import Derived.Handy
namespace Go.Proofs.Ytmdmbnpgdkmklaa
open Go.RowKit
set_option linter.unusedVariables false
set_option linter.unusedSimpArgs false

theorem bit_spec (m : Int) (i : Nat) (hi : i < 8) (w : World) :
    Calls Try.prog 99 #[.int .i64 m, .int .i64 i] w fun e w' => e = .returned (.bool (tb m i)) ∧ w = w' := by
  go_enter Try.func99, Try.ntmps99
  go_wp2
  go_ret
  exact ⟨rfl, rfl⟩

theorem all_false {v : List Int} {k : Nat} (hk : k < v.length) (h : v.getD k 0 ≠ 0) : v.all (· == 0) = false := by
  rw [List.all_eq_false]
  refine ⟨v[k], List.getElem_mem hk, ?_⟩
  rw [List.getD_eq_getElem?_getD, List.getElem?_eq_getElem hk] at h
  simpa using h
theorem all_true {v : List Int} (h : ∀ j, j < v.length → v.getD j 0 = 0) : v.all (· == 0) = true := by
  rw [List.all_eq_true]
  intro x hx
  obtain ⟨j, hj, rfl⟩ := List.mem_iff_getElem.1 hx
  have := h j hj
  rw [List.getD_eq_getElem?_getD, List.getElem?_eq_getElem hj] at this
  simpa using this

set_option maxRecDepth 100000 in
set_option maxHeartbeats 2000000 in
theorem values_spec {w : World} {n : Nd} {c : Array Value} (h : IsN w n c) :
    Calls Try.prog 98 #[.agg c] w fun e w' => e = .returned (.bool (n.vs.all (· == 0))) ∧ Below w.heap.size w w' := by
  have hrow := rowAt_new w c 26
  cases h with
  | mk v t0 t1 ks a b o cap f hv hvb h0 h1 haa hl hcp hf hk =>
    obtain ⟨v0, v1, v2, v3, v4, v5, v6, v7, rfl⟩ := list8 hv
    simp only [ndCells, List.map_cons, List.map_nil, List.cons_append, List.nil_append] at hrow ⊢
    obtain ⟨V, hV⟩ : ∃ V, V = [v0, v1, v2, v3, v4, v5, v6, v7] := ⟨_, rfl⟩
    have hcellV := fun (k : Nat) (hk : k < 8) => cellV hrow hk
    simp only [Nd.vs]
    rw [← hV] at hv hcellV ⊢
    have Hcell := Lib.hid hcellV
    clear hrow hcellV hV hvb hf hk haa
    go_enter Try.func98, Try.ntmps98
    go_wp2_with fail
    go_loop [3] (fun i => ∃ k : Nat, k ≤ 8 ∧ i = .int .i64 k ∧ (∀ j, j < k → V.getD j 0 = 0)) (fun i => 8 - (intOf i).toNat)
    case atStart => exact ⟨0, by omega, rfl, fun j hj => by omega⟩
    case round =>
      obtain ⟨k, hk8, rfl, hgood⟩ := hrel
      have Hgood := Lib.hid hgood
      clear hgood
      by_cases hlt : k < 8
      · have hcell := Hcell.out k hlt
        clear Hcell
        obtain ⟨x, hx⟩ : ∃ x, x = V.getD k 0 := ⟨_, rfl⟩
        rw [← hx] at hcell
        have Hx := Lib.hid hx
        clear hx
        by_cases hx0 : x = 0
        · subst hx0
          go_wp2_with fail
          go_round
          case rel => exact ⟨k + 1, by omega, by go_num, fun j hj => by
            rcases Nat.lt_or_ge j k with h1 | h1
            · exact Hgood.out j h1
            · rw [show j = k by omega]; exact Hx.out.symm⟩
          case measure => simp [intOf]; omega
        · have hx1 : (x != 0) = true := by simpa using hx0
          go_wp2_with fail
          go_ret
          exact ⟨ret_bool (all_false (k := k) (by omega) (by rw [← Hx.out]; exact hx0)).symm, (Below.refl _ _).alloc (Nat.le_refl _) _⟩
      · obtain rfl : k = 8 := by omega
        clear Hcell
        go_wp2_with fail
        go_ret
        exact ⟨ret_bool (all_true (fun j hj => Hgood.out j (by omega))).symm, (Below.refl _ _).alloc (Nat.le_refl _) _⟩

set_option maxRecDepth 100000 in
set_option maxHeartbeats 2000000 in
theorem Absent_spec {w : World} {n : Nd} {c : Array Value} (h : IsN w n c) :
    Calls Try.prog 69 #[.agg c] w fun e w' => e = .returned (.bool n.absent) ∧ Below w.heap.size w w' := by
  have hrow := rowAt_new w c 26
  cases h with
  | mk v t0 t1 ks a b o cap f hv hvb h0 h1 haa hl hcp hf hk =>
    obtain ⟨v0, v1, v2, v3, v4, v5, v6, v7, rfl⟩ := list8 hv
    simp only [ndCells, List.map_cons, List.map_nil, List.cons_append, List.nil_append] at hrow ⊢
    obtain ⟨V, hV⟩ : ∃ V, V = [v0, v1, v2, v3, v4, v5, v6, v7] := ⟨_, rfl⟩
    have hcellV := fun (k : Nat) (hk : k < 8) => cellV hrow hk
    rw [← hV] at hv hcellV ⊢
    have Hcell := Lib.hid hcellV
    clear hrow hcellV hV hvb hf hk haa
    by_cases hks : ks.length = 0
    · by_cases ht0 : t0 = 0
      · by_cases ht1 : t1 = 0
        · obtain rfl := ht0
          obtain rfl := ht1
          have hab : (Nd.mk V 0 0 ks).absent = V.all (· == 0) := by simp [Nd.absent, Nd.ks, Nd.t0, Nd.t1, Nd.vs, List.length_eq_zero_iff.1 hks]
          rw [hab]
          have hks' : ((ks.length : Int) != 0) = false := by simp [hks]
          clear hab hks
          go_enter Try.func69, Try.ntmps69
          go_wp2_with fail
          go_loop [3] (fun i => ∃ k : Nat, k ≤ 8 ∧ i = .int .i64 k ∧ (∀ j, j < k → V.getD j 0 = 0)) (fun i => 8 - (intOf i).toNat)
          case atStart => exact ⟨0, by omega, rfl, fun j hj => by omega⟩
          case round =>
            obtain ⟨k, hk8, rfl, hgood⟩ := hrel
            have Hgood := Lib.hid hgood
            clear hgood
            by_cases hlt : k < 8
            · have hcell := Hcell.out k hlt
              clear Hcell
              obtain ⟨x, hx⟩ : ∃ x, x = V.getD k 0 := ⟨_, rfl⟩
              rw [← hx] at hcell
              have Hx := Lib.hid hx
              clear hx
              by_cases hx0 : x = 0
              · subst hx0
                go_wp2_with fail
                go_round
                case rel => exact ⟨k + 1, by omega, by go_num, fun j hj => by
                  rcases Nat.lt_or_ge j k with h1 | h1
                  · exact Hgood.out j h1
                  · rw [show j = k by omega]; exact Hx.out.symm⟩
                case measure => simp [intOf]; omega
              · have hx1 : (x != 0) = true := by simpa using hx0
                go_wp2_with fail
                go_ret
                exact ⟨ret_bool (all_false (k := k) (by omega) (by rw [← Hx.out]; exact hx0)).symm, (Below.refl _ _).alloc (Nat.le_refl _) _⟩
            · obtain rfl : k = 8 := by omega
              clear Hcell
              go_wp2_with fail
              go_ret
              exact ⟨ret_bool (all_true (fun j hj => Hgood.out j (by omega))).symm, (Below.refl _ _).alloc (Nat.le_refl _) _⟩
        · have ht1' : (t1 != 0) = true := by simpa using ht1
          have hab : (Nd.mk V t0 t1 ks).absent = false := by simp [Nd.absent, Nd.ks, Nd.t0, Nd.t1, ht1]
          rw [hab]
          obtain rfl := ht0
          clear hab
          go_enter Try.func69, Try.ntmps69
          go_wp2_with fail
          go_ret
          exact ⟨rfl, (Below.refl _ _).alloc (Nat.le_refl _) _⟩
      · have ht0' : (t0 != 0) = true := by simpa using ht0
        have hab : (Nd.mk V t0 t1 ks).absent = false := by simp [Nd.absent, Nd.ks, Nd.t0, Nd.t1, ht0]
        rw [hab]
        clear hab
        go_enter Try.func69, Try.ntmps69
        go_wp2_with fail
        go_ret
        exact ⟨rfl, (Below.refl _ _).alloc (Nat.le_refl _) _⟩
    · have hab : (Nd.mk V t0 t1 ks).absent = false := by simp [Nd.absent, Nd.ks, show ks ≠ [] by rintro rfl; simp at hks]
      rw [hab]
      clear hab
      go_enter Try.func69, Try.ntmps69
      go_wp2_with fail
      go_ret
      exact ⟨rfl, (Below.refl _ _).alloc (Nat.le_refl _) _⟩

def Nd.leafB (n : Nd) : Bool := (List.range 8).all (leafGood n.vs n.t0 n.t1) && n.vs.any (· != 0)
theorem leafB_false {V : List Int} {t0 t1 : Int} {ks : List Nd} {k : Nat} (hk : k < 8) (h : leafGood V t0 t1 k = false) : (Nd.mk V t0 t1 ks).leafB = false := by
  have : (List.range 8).all (leafGood V t0 t1) = false := by
    rw [List.all_eq_false]; exact ⟨k, by simpa using hk, by simp [h]⟩
  simp [Nd.leafB, Nd.vs, Nd.t0, Nd.t1, this]
theorem leafB_end {V : List Int} {t0 t1 : Int} {ks : List Nd} (hv : V.length = 8) (h : ∀ j, j < 8 → leafGood V t0 t1 j = true) :
    (Nd.mk V t0 t1 ks).leafB = (V.take 8).any (· != 0) := by
  have : (List.range 8).all (leafGood V t0 t1) = true := by
    rw [List.all_eq_true]; intro j hj; exact h j (by simpa using hj)
  rw [List.take_of_length_le (by omega)]
  simp [Nd.leafB, Nd.vs, Nd.t0, Nd.t1, Nd.ks, this]

set_option maxRecDepth 100000 in
set_option maxHeartbeats 4000000 in
theorem leaf_spec {w : World} {n : Nd} {c : Array Value} (h : IsN w n c) :
    Calls Try.prog 97 #[.agg c] w fun e w' => e = .returned (.bool n.leafB) ∧ Below w.heap.size w w' := by
  have hrow := rowAt_new w c 26
  cases h with
  | mk v t0 t1 ks a b o cap f hv hvb h0 h1 haa hl hcp hf hk =>
    obtain ⟨v0, v1, v2, v3, v4, v5, v6, v7, rfl⟩ := list8 hv
    simp only [ndCells, List.map_cons, List.map_nil, List.cons_append, List.nil_append] at hrow ⊢
    obtain ⟨V, hV⟩ : ∃ V, V = [v0, v1, v2, v3, v4, v5, v6, v7] := ⟨_, rfl⟩
    have hcellV := fun (k : Nat) (hk : k < 8) => cellV hrow hk
    rw [← hV] at hv hcellV ⊢
    have Hcell := Lib.hid hcellV
    clear hrow hcellV hV hvb hf hk haa
    go_enter Try.func97, Try.ntmps97
    go_wp2_with fail
    go_loop [3, 4] (fun s i => ∃ k : Nat, k ≤ 8 ∧ i = .int .i64 k ∧ s = .bool ((V.take k).any (· != 0)) ∧ (∀ j, j < k → leafGood V t0 t1 j = true)) (fun _ i => 8 - (intOf i).toNat)
    case atStart => exact ⟨0, by omega, rfl, by simp, fun j hj => by omega⟩
    case round =>
      obtain ⟨k, hk8, rfl, rfl, hgood⟩ := hrel
      have Hgood := Lib.hid hgood
      clear hgood
      by_cases hlt : k < 8
      · have hcell := Hcell.out k hlt
        clear Hcell
        obtain ⟨x, hx⟩ : ∃ x, x = V.getD k 0 := ⟨_, rfl⟩
        rw [← hx] at hcell
        have Hx := Lib.hid hx
        clear hx
        obtain ⟨sm, hsm⟩ : ∃ s, s = (V.take k).any (· != 0) := ⟨_, rfl⟩
        rw [← hsm]
        have Hsm := Lib.hid hsm
        obtain ⟨e0, he0⟩ : ∃ e, tb t0 k = e := ⟨_, rfl⟩
        obtain ⟨e1, he1⟩ : ∃ e, tb t1 k = e := ⟨_, rfl⟩
        have htake := take_any V hv k hlt
        have Htake := Lib.hid htake
        have hgd : leafGood V t0 t1 k = (x != 0 || (!e0 && !e1)) := by unfold leafGood; rw [he0, he1, ← Hx.out]
        have Hgd := Lib.hid hgd
        have hb0 := fun w => bit_spec t0 k hlt w
        have hb1 := fun w => bit_spec t1 k hlt w
        rw [he0] at hb0
        rw [he1] at hb1
        have Hb0 := Lib.hid hb0
        have Hb1 := Lib.hid hb1
        have hnext : leafGood V t0 t1 k = true → ∀ j, j < k + 1 → leafGood V t0 t1 j = true := fun h j hj => by
          rcases Nat.lt_or_ge j k with h1 | h1
          · exact Hgood.out j h1
          · rw [show j = k by omega]; exact h
        have Hnext := Lib.hid hnext
        clear hsm htake hgd hb0 hb1 hnext Hgood he0 he1
        by_cases hx0 : x = 0
        · subst hx0
          cases sm <;> cases e0 <;> cases e1 <;>
          · go_wp2_with fail
            (with_reducible refine (Hb0.out _).mono ?_)
            rintro e w' ⟨rfl, rfl⟩
            go_wp2_with fail
            first
            | (go_ret
               exact ⟨ret_bool (leafB_false hlt (by rw [Hgd.out]; rfl)).symm, (Below.refl _ _).alloc (Nat.le_refl _) _⟩)
            | ((with_reducible refine (Hb1.out _).mono ?_)
               rintro e w' ⟨rfl, rfl⟩
               go_wp2_with fail
               first
               | (go_ret
                  exact ⟨ret_bool (leafB_false hlt (by rw [Hgd.out]; rfl)).symm, (Below.refl _ _).alloc (Nat.le_refl _) _⟩)
               | (go_round
                  case rel => exact ⟨k + 1, by omega, by go_num, by rw [Htake.out, ← Hsm.out, ← Hx.out]; rfl, Hnext.out (by rw [Hgd.out]; rfl)⟩
                  case measure => simp [intOf]; omega))
        · have hx1 : (x != 0) = true := by simpa using hx0
          have hx2 : (x == 0) = false := by simpa using hx0
          cases sm <;>
          · go_wp2_with fail
            go_round
            case rel => exact ⟨k + 1, by omega, by go_num, by rw [Htake.out, ← Hsm.out, ← Hx.out, hx1]; rfl, Hnext.out (by rw [Hgd.out, hx1]; rfl)⟩
            case measure => simp [intOf]; omega
      · obtain rfl : k = 8 := by omega
        clear Hcell
        go_wp2_with fail
        go_ret
        exact ⟨ret_bool (leafB_end hv Hgood.out).symm, (Below.refl _ _).alloc (Nat.le_refl _) _⟩
end Go.Proofs.Ytmdmbnpgdkmklaa
