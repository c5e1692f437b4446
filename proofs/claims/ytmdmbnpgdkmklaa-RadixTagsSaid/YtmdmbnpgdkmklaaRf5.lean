/- The reference's shape at every level: the contract. -/
import Derived.Test.YtmdmbnpgdkmklaaRf4
namespace Go.Proofs.Ytmdmbnpgdkmklaa
open Go.RowKit
set_option linter.unusedVariables false
set_option linter.unusedSimpArgs false

set_option maxRecDepth 100000 in
set_option maxHeartbeats 4000000 in
/-- Where the node has not eight children, or a value that is not 0. -/
theorem shape_short (l : Nat) (hl9 : l ≤ 8) {w : World} {n : Nd} {c : Array Value} (h : IsN w n c) (ha : n.absent = false) (ht0 : tagOk n.t0 = true) (ht1 : tagOk n.t1 = true) (h8 : n.ks.length ≠ 8 ∨ n.vs.all (· == 0) = false) :
    Calls Try.prog 70 #[.agg c, .int .i64 ((l : Int) + 2)] w fun e w' => e = .returned (.bool false) ∧ Below w.heap.size w w' := by
  have hab := Absent_spec (h.keeps (Keeps.alloc w (.cells c 26)))
  rw [ha] at hab
  have hvl := fun (W : World) (k : Keeps w W) => values_spec (h.keeps k)
  have hrow := rowAt_new w c 26
  cases h with
  | mk v t0 t1 ks a b o cap f hv hvb h0 h1 haa hl hcp hf hk =>
    obtain ⟨p0, p1⟩ := tagOk_iff.1 (show tagOk t0 = true from ht0)
    obtain ⟨p2, p3⟩ := tagOk_iff.1 (show tagOk t1 = true from ht1)
    obtain ⟨v0, v1, v2, v3, v4, v5, v6, v7, rfl⟩ := list8 hv
    simp only [ndCells, List.map_cons, List.map_nil, List.cons_append, List.nil_append] at hab hrow hvl ⊢
    replace h8 : ks.length ≠ 8 ∨ [v0, v1, v2, v3, v4, v5, v6, v7].all (· == 0) = false := h8
    simp only [Nd.vs] at hvl
    have H8 := Lib.hid h8
    have Hab := Lib.hid hab
    have Hrow := Lib.hid hrow
    have Hvl := Lib.hid hvl
    have hl1 : ((l : Int) + 2 == 1) = false := by simp; omega
    clear hv hvb hf hk haa h0 h1 hab ha h8 hrow hvl ht0 ht1
    go_enter Try.func70, Try.ntmps70
    go_wp2_with fail
    (with_reducible refine Hab.out.mono ?_)
    rintro e w' ⟨rfl, hB⟩
    have hz : w.heap.size < w'.heap.size := by have := hB.size; simp at this; omega
    have hbb : Below w.heap.size w w' := ((Below.refl w.heap.size w).alloc (Nat.le_refl _) _).trans (hB.mono (by simp))
    have hrw := Hrow.out.keeps (Keeps.of_below hB)
    have hkw : Keeps w w' := (Keeps.alloc w _).trans (Keeps.of_below hB)
    obtain ⟨hc0, hc8, hc9, hc10⟩ := cells11 hrw
    have Hrw := Lib.hid hrw
    have Hkw := Lib.hid hkw
    clear hB hrw hkw Hrow Hab
    by_cases hq : ks.length = 8
    · have hq' : ((ks.length : Int) != 8) = false := by rw [hq]; rfl
      have hva := H8.out.resolve_left (fun h => h hq)
      have Hva := Lib.hid hva
      clear hq hva
      go_wp2_with (first | (refine wpList_load_nd _ rfl rfl w.heap.size 0 rfl _ rfl Hrw.out ?_))
      (with_reducible refine (Hvl.out _ Hkw.out).mono ?_)
      rw [Hva.out]
      rintro e w2 ⟨rfl, hB2⟩
      go_wp2_with fail
      go_ret
      exact ⟨rfl, hbb.trans (hB2.mono (Nat.le_of_lt hz))⟩
    · have hq' : ((ks.length : Int) != 8) = true := by simp; omega
      clear hq
      go_wp2_with fail
      go_ret
      exact ⟨rfl, hbb⟩

theorem shape_spec (l : Nat) : l ≤ 9 → ∀ (w : World) (n : Nd) (c : Array Value), IsN w n c →
    Calls Try.prog 70 #[.agg c, .int .i64 ((l : Int) + 1)] w fun e w' => e = .returned (.bool (n.ok (l + 1))) ∧ Below w.heap.size w w' := by
  induction l with
  | zero =>
    intro _ w n c h
    cases ht : (tagOk n.t0 && tagOk n.t1) with
    | false => rw [ok_tags ht]; exact shape_tags _ h ht
    | true =>
      rw [Bool.and_eq_true] at ht
      cases ha : n.absent with
      | true => rw [ok_absent ha]; exact shape_absent _ h ha
      | false => exact shape_leaf h ha ht.1 ht.2
  | succ l ih =>
    intro hl w n c h
    rw [show ((l + 1 : Nat) : Int) + 1 = (l : Int) + 2 by omega]
    cases ht : (tagOk n.t0 && tagOk n.t1) with
    | false => rw [ok_tags ht]; exact shape_tags _ h ht
    | true =>
      rw [Bool.and_eq_true] at ht
      cases ha : n.absent with
      | true => rw [ok_absent ha]; exact shape_absent _ h ha
      | false =>
        by_cases h8 : n.ks.length = 8
        · cases hva : n.vs.all (· == 0) with
          | true => exact shape_inner l (by omega) (ih (by omega)) h ha h8 hva ht.1 ht.2
          | false =>
            have hv8 : n.vs.length = 8 := by cases h; assumption
            have : n.ok (l + 1 + 1) = false := by cases n; exact ok_vals hv8 hva
            rw [this]; exact shape_short l (by omega) h ha ht.1 ht.2 (.inr hva)
        · rw [show n.ok (l + 1 + 1) = false by simp [Nd.ok, h8]]; exact shape_short l (by omega) h ha ht.1 ht.2 (.inl h8)
end Go.Proofs.Ytmdmbnpgdkmklaa
