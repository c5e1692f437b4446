/- radix.valid at every level of a tree: the contract. -/
import Derived.Test.YtmdmbnpgdkmklaaRd3
import Derived.Test.YtmdmbnpgdkmklaaRd4
namespace Go.Proofs.Ytmdmbnpgdkmklaa
open Go.RowKit
set_option linter.unusedVariables false
set_option linter.unusedSimpArgs false

set_option maxRecDepth 100000 in
set_option maxHeartbeats 4000000 in
theorem valid_absent {w : World} {n : Nd} {c : Array Value} (L : Int) (h : IsN w n c) (ha : n.absent = true) :
    Calls Try.prog 68 #[.agg c, .int .i64 L] w fun e w' => e = .returned (.bool false) ∧ Below w.heap.size w w' := by
  have hab := absent_spec (h.keeps (Keeps.alloc w (.cells c 26)))
  rw [ha] at hab
  cases h with
  | mk v t0 t1 ks a b o cap f hv hvb h0 h1 haa hl hcp hf hk =>
    obtain ⟨v0, v1, v2, v3, v4, v5, v6, v7, rfl⟩ := list8 hv
    simp only [ndCells, List.map_cons, List.map_nil, List.cons_append, List.nil_append] at hab ⊢
    have Hab := Lib.hid hab
    clear hv hvb hf hk haa h0 h1 hab ha
    go_enter Try.func68, Try.ntmps68
    go_wp2_with fail
    (with_reducible refine Hab.out.mono ?_)
    rintro e w' ⟨rfl, hB⟩
    go_wp2_with fail
    go_ret
    exact ⟨rfl, ((Below.refl w.heap.size w).alloc (Nat.le_refl _) _).trans (hB.mono (by simp))⟩

set_option maxRecDepth 100000 in
set_option maxHeartbeats 4000000 in
/-- Where the node has not eight children. -/
theorem valid_short (l : Nat) (hl9 : l ≤ 8) {w : World} {n : Nd} {c : Array Value} (h : IsN w n c) (ha : n.absent = false) (h8 : n.ks.length ≠ 8) :
    Calls Try.prog 68 #[.agg c, .int .i64 ((l : Int) + 2)] w fun e w' => e = .returned (.bool false) ∧ Below w.heap.size w w' := by
  have hab := absent_spec (h.keeps (Keeps.alloc w (.cells c 26)))
  rw [ha] at hab
  have hrow := rowAt_new w c 26
  cases h with
  | mk v t0 t1 ks a b o cap f hv hvb h0 h1 haa hl hcp hf hk =>
    have h8' : ((ks.length : Int) != 8) = true := by
      have : ks.length ≠ 8 := h8
      simp; omega
    obtain ⟨v0, v1, v2, v3, v4, v5, v6, v7, rfl⟩ := list8 hv
    simp only [ndCells, List.map_cons, List.map_nil, List.cons_append, List.nil_append] at hab hrow ⊢
    have Hab := Lib.hid hab
    have Hrow := Lib.hid hrow
    clear hv hvb hf hk haa h0 h1 hab ha h8 hrow
    go_enter Try.func68, Try.ntmps68
    go_wp2_with fail
    (with_reducible refine Hab.out.mono ?_)
    rintro e w' ⟨rfl, hB⟩
    have hz : w.heap.size < w'.heap.size := by have := hB.size; simp at this; omega
    have hbb : Below w.heap.size w w' := ((Below.refl w.heap.size w).alloc (Nat.le_refl _) _).trans (hB.mono (by simp))
    obtain ⟨hc0, hc8, hc9, hc10⟩ := cells11 (Hrow.out.keeps (Keeps.of_below hB))
    clear hB
    go_wp2_with fail
    refine wp_loop_rounds 1 ?_
    rw [rounds_succ]
    go_wp2_with fail
    go_ret
    exact ⟨rfl, hbb.alloc (Nat.le_of_lt hz) _⟩

theorem valid_spec (l : Nat) : l ≤ 9 → ∀ (w : World) (n : Nd) (c : Array Value), IsN w n c →
    Calls Try.prog 68 #[.agg c, .int .i64 ((l : Int) + 1)] w fun e w' => e = .returned (.bool (n.ok (l + 1))) ∧ Below w.heap.size w w' := by
  induction l with
  | zero =>
    intro _ w n c h
    cases ha : n.absent with
    | true => rw [show n.ok (0 + 1) = false by simp [Nd.ok, ha]]; exact valid_absent _ h ha
    | false => rw [show n.ok (0 + 1) = n.okLeaf by simp [Nd.ok, ha]]; exact valid_leaf h ha
  | succ l ih =>
    intro hl w n c h
    rw [show ((l + 1 : Nat) : Int) + 1 = (l : Int) + 2 by omega]
    cases ha : n.absent with
    | true => rw [show n.ok (l + 1 + 1) = false by simp [Nd.ok, ha]]; exact valid_absent _ h ha
    | false =>
      by_cases h8 : n.ks.length = 8
      · exact valid_inner l (by omega) (ih (by omega)) h ha h8
      · rw [show n.ok (l + 1 + 1) = false by simp [Nd.ok, h8]]; exact valid_short l (by omega) h ha h8
end Go.Proofs.Ytmdmbnpgdkmklaa
