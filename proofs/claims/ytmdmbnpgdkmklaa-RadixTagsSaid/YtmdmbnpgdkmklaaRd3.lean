/- radix.valid at a leaf. -/
import Derived.Test.YtmdmbnpgdkmklaaSa
import Derived.Handy
namespace Go.Proofs.Ytmdmbnpgdkmklaa
open Go.RowKit
set_option linter.unusedVariables false
set_option linter.unusedSimpArgs false
set_option maxRecDepth 100000 in
set_option maxHeartbeats 4000000 in
theorem valid_leaf {w : World} {n : Nd} {c : Array Value} (h : IsN w n c) (ha : n.absent = false) :
    Calls Try.prog 68 #[.agg c, .int .i64 1] w fun e w' => e = .returned (.bool n.okLeaf) ∧ Below w.heap.size w w' := by
  have hab := absent_spec (h.keeps (Keeps.alloc w (.cells c 26)))
  rw [ha] at hab
  have hrow := rowAt_new w c 26
  cases h with
  | mk v t0 t1 ks a b o cap f hv hvb h0 h1 haa hl hcp hf hk =>
    obtain ⟨v0, v1, v2, v3, v4, v5, v6, v7, rfl⟩ := list8 hv
    simp only [ndCells, List.map_cons, List.map_nil, List.cons_append, List.nil_append] at hab hrow ⊢
    obtain ⟨V, hV⟩ : ∃ V, V = [v0, v1, v2, v3, v4, v5, v6, v7] := ⟨_, rfl⟩
    have HV := Lib.hid hV
    have hcellV := fun (W : World) (k : Nat) (hk : k < 8) (hr : RowAt W w.heap.size 0 _) => cellV (b := w.heap.size) (v0 := v0) (v1 := v1) (v2 := v2) (v3 := v3) (v4 := v4) (v5 := v5) (v6 := v6) (v7 := v7) (c8 := .int .i64 t0) (c9 := .int .i64 t1) (c10 := .slice a ks.length cap) hr hk
    rw [← hV] at hv hcellV ⊢
    have Hcell := Lib.hid hcellV
    clear hcellV hV hvb hf hk haa ha
    have hcc := Lib.hid hab
    clear hab
    go_enter Try.func68, Try.ntmps68
    go_wp2_with fail
    refine hcc.out.mono ?_
    rintro e w' ⟨rfl, hb⟩
    have hrow' := hrow.keeps (Keeps.of_below hb)
    have hbb : Below w.heap.size w w' := ((Below.refl _ w).alloc (Nat.le_refl _) _).trans (hb.mono (by simp))
    have hz : w.heap.size < w'.heap.size := by have := hb.size; simp at this; omega
    clear hrow hb hcc
    go_wp2_with fail
    go_loopw [5, 14] (fun s i wr => ∃ k : Nat, k ≤ 8 ∧ i = .int .i64 k ∧ s = .bool ((V.take k).any (· != 0)) ∧ (∀ j, j < k → leafGood V t0 t1 j = true) ∧ Keeps w' wr ∧ Below w.heap.size w wr ∧ w.heap.size < wr.heap.size) (fun _ i _ => 8 - (intOf i).toNat)
    case atStart => exact ⟨0, by omega, rfl, by simp, fun j hj => by omega, Keeps.refl _, hbb, hz⟩
    case round =>
      obtain ⟨k, hk8, rfl, rfl, hgood, hkeep, hbe, hz2⟩ := hrel
      have Hgood := Lib.hid hgood
      have hrow2 := hrow'.keeps hkeep
      obtain ⟨hc0, hc8, hc9, hc10⟩ := cells11 hrow2
      have Hrow' := Lib.hid hrow'
      clear hgood hrow'
      by_cases hlt : k < 8
      · have hcell := Hcell.out wr k hlt hrow2
        clear hrow2 Hcell
        obtain ⟨x, hx⟩ : ∃ x, x = V.getD k 0 := ⟨_, rfl⟩
        rw [← hx] at hcell
        obtain ⟨sm, hsm⟩ : ∃ s, s = (V.take k).any (· != 0) := ⟨_, rfl⟩
        rw [← hsm]
        have Hx := Lib.hid hx
        have Hsm := Lib.hid hsm
        obtain ⟨e0, he0⟩ : ∃ e, (bits .and .i64 (t0 / 2 ^ k) 1 == 1) = e := ⟨_, rfl⟩
        obtain ⟨e1, he1⟩ : ∃ e, (bits .and .i64 (t1 / 2 ^ k) 1 == 1) = e := ⟨_, rfl⟩
        have hi2 := fun w => (index2 w (.int .i64 t0) (.int .i64 t1)).1
        have hi3 := fun w => (index2 w (.int .i64 t0) (.int .i64 t1)).2
        clear hx hsm
        have hfalse : leafGood V t0 t1 k = false → (Nd.mk V t0 t1 ks).okLeaf = false := fun h => okLeaf_false hlt h
        have hnext : leafGood V t0 t1 k = true → ∀ j, j < k + 1 → leafGood V t0 t1 j = true := fun h j hj => by
          rcases Nat.lt_or_ge j k with h1 | h1
          · exact Hgood.out j h1
          · rw [show j = k by omega]; exact h
        have htake := take_any V hv k hlt
        have Htake := Lib.hid htake
        have Hfalse := Lib.hid hfalse
        have Hnext := Lib.hid hnext
        clear htake hfalse hnext Hgood
        have Hk : Hid (Keeps w' wr) := Lib.hid hkeep
        clear hkeep
        have hgd : leafGood V t0 t1 k = (x != 0 || (!e0 && !e1)) := by unfold leafGood tb; rw [he0, he1, ← Hx.out]
        have Hgd := Lib.hid hgd
        clear hgd
        by_cases hx0 : x = 0
        · subst hx0
          cases sm <;> cases e0 <;> cases e1 <;>
          · go_wp2_with fail
            refine wp_loop_rounds 3 ?_
            repeat any_goals (rw [rounds_succ]; go_wp2_with fail)
            first
            | (go_roundw
               case rel => exact ⟨k + 1, by omega, by go_num, by rw [Htake.out, ← Hsm.out, ← Hx.out]; rfl, Hnext.out (by rw [Hgd.out]; rfl), Hk.out.trans (Keeps.alloc _ _), hbe.alloc (by omega) _, by simp; omega⟩
               case measure => simp [intOf]; omega)
            | (go_ret
               exact ⟨ret_bool (Hfalse.out (by rw [Hgd.out]; rfl)).symm, hbe.alloc (by omega) _⟩)
        · have hx1 : (x != 0) = true := by simpa using hx0
          cases sm <;> cases e0 <;> cases e1 <;>
          · go_wp2_with fail
            refine wp_loop_rounds 3 ?_
            repeat any_goals (rw [rounds_succ]; go_wp2_with fail)
            go_roundw
            case rel => exact ⟨k + 1, by omega, by go_num, by rw [Htake.out, ← Hsm.out, ← Hx.out, hx1]; rfl, Hnext.out (by rw [Hgd.out, hx1]; rfl), Hk.out.trans (Keeps.alloc _ _), hbe.alloc (by omega) _, by simp; omega⟩
            case measure => simp [intOf]; omega
      · obtain rfl : k = 8 := by omega
        clear Hcell hrow2
        obtain ⟨sm, hsm⟩ : ∃ s, s = (V.take 8).any (· != 0) := ⟨_, rfl⟩
        rw [← hsm]
        have Hfin : Hid ((Nd.mk V t0 t1 ks).okLeaf = (sm && tagOk t0 && tagOk t1 && ks.isEmpty)) := Lib.hid (by rw [hsm]; exact okLeaf_end hv Hgood.out)
        clear hsm Hgood
        cases sm with
        | false =>
          go_wp2_with fail
          go_ret
          exact ⟨ret_bool (by rw [Hfin.out]; rfl), hbe⟩
        | true =>
          by_cases p0 : 0 ≤ t0
          · by_cases p1 : t0 < 256
            · by_cases p2 : 0 ≤ t1
              · by_cases p3 : t1 < 256
                · by_cases p4 : ks.length = 0
                  · go_wp2_with fail
                    go_ret
                    exact ⟨ret_bool (by rw [Hfin.out]; simp [tagOk, p0, p1, p2, p3, List.length_eq_zero_iff.1 p4]), hbe⟩
                  · go_wp2_with fail
                    go_ret
                    exact ⟨ret_bool (by rw [Hfin.out, show ks.isEmpty = false by cases ks <;> simp at p4 ⊢]; simp only [Bool.and_false]; simpa using p4), hbe⟩
                · go_wp2_with fail
                  go_ret
                  exact ⟨ret_bool (by rw [Hfin.out]; unfold tagOk; rw [decide_eq_false (show ¬ t1 < 256 by omega)]; simp only [Bool.and_false, Bool.false_and]), hbe⟩
              · go_wp2_with fail
                go_ret
                exact ⟨ret_bool (by rw [Hfin.out]; unfold tagOk; rw [decide_eq_false (show ¬ 0 ≤ t1 by omega)]; simp only [Bool.and_false, Bool.false_and]), hbe⟩
            · go_wp2_with fail
              go_ret
              exact ⟨ret_bool (by rw [Hfin.out]; unfold tagOk; rw [decide_eq_false (show ¬ t0 < 256 by omega)]; simp only [Bool.and_false, Bool.false_and]), hbe⟩
          · go_wp2_with fail
            go_ret
            exact ⟨ret_bool (by rw [Hfin.out]; unfold tagOk; rw [decide_eq_false (show ¬ 0 ≤ t0 by omega)]; simp only [Bool.and_false, Bool.false_and]), hbe⟩

end Go.Proofs.Ytmdmbnpgdkmklaa
