/- radix.valid at every level. -/
import Derived.Test.YtmdmbnpgdkmklaaSa
import Derived.Handy
namespace Go.Proofs.Ytmdmbnpgdkmklaa
open Go.RowKit
set_option linter.unusedVariables false
set_option linter.unusedSimpArgs false

set_option maxRecDepth 100000 in
set_option maxHeartbeats 8000000 in
theorem valid_inner (l : Nat) (hl9 : l ≤ 8) (ih : ∀ (w : World) (n : Nd) (c : Array Value), IsN w n c →
    Calls Try.prog 68 #[.agg c, .int .i64 ((l : Int) + 1)] w fun e w' => e = .returned (.bool (n.ok (l + 1))) ∧ Below w.heap.size w w')
    {w : World} {n : Nd} {c : Array Value} (h : IsN w n c) (ha : n.absent = false) (h8 : n.ks.length = 8) :
    Calls Try.prog 68 #[.agg c, .int .i64 ((l : Int) + 2)] w fun e w' => e = .returned (.bool (n.ok (l + 2))) ∧ Below w.heap.size w w' := by
  have hab := absent_spec (h.keeps (Keeps.alloc w (.cells c 26)))
  rw [ha] at hab
  have hrow := rowAt_new w c 26
  cases h with
  | mk v t0 t1 ks a b o cap f hv hvb h0 h1 haa hl hcp hf hk =>
    replace h8 : ks.length = 8 := h8
    rw [h8] at hf
    obtain rfl : a = some ⟨b, o, none⟩ := haa (by intro h; simp [h] at h8)
    obtain ⟨v0, v1, v2, v3, v4, v5, v6, v7, rfl⟩ := list8 hv
    simp only [ndCells, List.map_cons, List.map_nil, List.cons_append, List.nil_append, h8] at hab hrow ⊢
    obtain ⟨V, hV⟩ : ∃ V, V = [v0, v1, v2, v3, v4, v5, v6, v7] := ⟨_, rfl⟩
    have HV := Lib.hid hV
    have hcellV := fun (W : World) (k : Nat) (hk : k < 8) (hr : RowAt W w.heap.size 0 _) => cellV (b := w.heap.size) (v0 := v0) (v1 := v1) (v2 := v2) (v3 := v3) (v4 := v4) (v5 := v5) (v6 := v6) (v7 := v7) (c8 := .int .i64 t0) (c9 := .int .i64 t1) (c10 := .slice (some ⟨b, o, none⟩) 8 cap) hr hk
    rw [← hV] at hv hcellV ⊢
    have Hcell := Lib.hid hcellV
    have H8 := Lib.hid h8
    have Hf := Lib.hid hf
    have Hkk := Lib.hid hk
    have Ih := Lib.hid ih
    have haf : (Nd.mk V t0 t1 ks).absent = false := by rw [hV]; exact ha
    clear hcellV hV hvb hf hk haa ha h8 hl ih
    have Haf := Lib.hid haf
    clear haf
    have hcc := Lib.hid hab
    clear hab
    go_enter Try.func68, Try.ntmps68
    go_wp2_with fail
    refine hcc.out.mono ?_
    rintro e w' ⟨rfl, hb⟩
    have hkw : Keeps w w' := (Keeps.alloc w _).trans (Keeps.of_below hb)
    have hrow' := hrow.keeps (Keeps.of_below hb)
    have hbb : Below w.heap.size w w' := ((Below.refl _ w).alloc (Nat.le_refl _) _).trans (hb.mono (by simp))
    have hz : w.heap.size < w'.heap.size := by have := hb.size; simp at this; omega
    clear hrow hb hcc
    go_wp2_with fail
    go_loopw [5, 14] (fun s i wr => ∃ k : Nat, k ≤ 8 ∧ i = .int .i64 k ∧ s = .bool ((List.range k).any (fun i => !((Nd.mk V t0 t1 ks).kid i).absent)) ∧ (∀ j, j < k → kidGood (Nd.ok (l + 1)) (.mk V t0 t1 ks) j = true) ∧ Below w'.heap.size w' wr) (fun _ i _ => 8 - (intOf i).toNat)
    case atStart => exact ⟨0, by omega, rfl, by simp, fun j hj => by omega, Below.refl _ _⟩
    case round =>
      obtain ⟨k, hk8, rfl, rfl, hgood, hbe⟩ := hrel
      have hkeep := Keeps.of_below hbe
      have hz2 : w.heap.size < wr.heap.size := Nat.lt_of_lt_of_le hz hbe.size
      have hzz : w'.heap.size ≤ wr.heap.size := hbe.size
      have hend : ∀ W, Below w'.heap.size w' W → Below w.heap.size w W := fun W hW => hbb.trans (hW.mono (Nat.le_of_lt hz))
      have Hend := Lib.hid hend
      clear hend
      have Hgood := Lib.hid hgood
      have hrow2 := hrow'.keeps hkeep
      obtain ⟨hc0, hc8, hc9, hc10⟩ := cells11 hrow2
      have Hrow' := Lib.hid hrow'
      clear hgood hrow'
      by_cases hlt : k < 8
      · have hcell := Hcell.out wr k hlt hrow2
        clear hrow2 Hcell
        have hkk : k < ks.length := by rw [H8.out]; exact hlt
        obtain ⟨kd, hkd⟩ : ∃ kd, kd = (Nd.mk V t0 t1 ks).kid k := ⟨_, rfl⟩
        have hkn : IsN wr kd (f k) := by
          have := (Hkk.out k hkk).keeps (hkw.trans hkeep)
          rwa [show ks[k] = kd by rw [hkd]; simp [Nd.kid, Nd.ks, hkk]] at this
        have hkr : RowAt wr b (o + k * 11) (f k) := (Hf.out k hlt).keeps (hkw.trans hkeep)
        obtain ⟨hk0, hk1⟩ := kid_tags hkn hkr
        obtain ⟨x, hx⟩ : ∃ x, x = V.getD k 0 := ⟨_, rfl⟩
        rw [← hx] at hcell
        obtain ⟨sm, hsm⟩ : ∃ s, s = (List.range k).any (fun i => !((Nd.mk V t0 t1 ks).kid i).absent) := ⟨_, rfl⟩
        rw [← hsm]
        have Hx := Lib.hid hx
        have Hsm := Lib.hid hsm
        have Hkd := Lib.hid hkd
        obtain ⟨e0, he0⟩ : ∃ e, (bits .and .i64 (t0 / 2 ^ k) 1 == 1) = e := ⟨_, rfl⟩
        obtain ⟨e1, he1⟩ : ∃ e, (bits .and .i64 (t1 / 2 ^ k) 1 == 1) = e := ⟨_, rfl⟩
        obtain ⟨d0, hd0⟩ : ∃ e, (kd.t0 != 0) = e := ⟨_, rfl⟩
        obtain ⟨d1, hd1⟩ : ∃ e, (kd.t1 != 0) = e := ⟨_, rfl⟩
        have hi2 := fun w => (index2 w (.int .i64 t0) (.int .i64 t1)).1
        have hi3 := fun w => (index2 w (.int .i64 t0) (.int .i64 t1)).2
        have habs := fun (W : World) (hK : Keeps wr W) => absent_spec (hkn.keeps hK)
        have hval := fun (W : World) (hK : Keeps wr W) => Ih.out W kd (f k) (hkn.keeps hK)
        have Habs := Lib.hid habs
        have Hval := Lib.hid hval
        have Hkr := Lib.hid hkr
        clear hx hsm hkd habs hval hkr
        have hfalse : kidGood (Nd.ok (l + 1)) (.mk V t0 t1 ks) k = false → (Nd.mk V t0 t1 ks).ok (l + 2) = false := fun h => ok_false hlt h
        have hnext : kidGood (Nd.ok (l + 1)) (.mk V t0 t1 ks) k = true → ∀ j, j < k + 1 → kidGood (Nd.ok (l + 1)) (.mk V t0 t1 ks) j = true := fun h j hj => by
          rcases Nat.lt_or_ge j k with h1 | h1
          · exact Hgood.out j h1
          · rw [show j = k by omega]; exact h
        have Hfalse := Lib.hid hfalse
        have Hnext := Lib.hid hnext
        have hgd : kidGood (Nd.ok (l + 1)) (.mk V t0 t1 ks) k = (x == 0 && (kd.absent || kd.ok (l + 1)) && (e0 == d0) && (e1 == d1)) := by
          unfold kidGood tb; simp only [Nd.t0, Nd.t1, Nd.vs]; rw [he0, he1, ← Hx.out, ← Hkd.out, ← hd0, ← hd1]; rfl
        have Hgd := Lib.hid hgd
        clear hfalse hnext Hgood hgd hkeep
        have hany : ((List.range (k + 1)).any fun i => !((Nd.mk V t0 t1 ks).kid i).absent) = (sm || !kd.absent) := by
          rw [List.range_succ, List.any_append, ← Hsm.out, Hkd.out]; simp
        have Hany := Lib.hid hany
        clear hany
        by_cases hx0 : x = 0
        · subst hx0
          have hbk : b < wr.heap.size := lt_of_cell hk0
          cases hab : kd.absent with
          | true =>
            obtain ⟨z0, z1⟩ := absent_tags hab
            rw [z0] at hd0 hk0
            rw [z1] at hd1 hk1
            rw [hab] at Habs
            have Hab := Lib.hid hab
            clear hab z0 z1
            go_wp2_with (first | (refine wpList_load_nd _ rfl rfl b (o + k * 11) rfl (f k) hkn.size (Hkr.out.keeps (Keeps.alloc _ _)) ?_))
            refine (Habs.out _ (Keeps.alloc _ _)).mono ?_
            rintro e W ⟨rfl, hB⟩
            obtain ⟨hcB, hfB⟩ := bcell hB
            have hzB : w.heap.size < W.heap.size := by have := hB.size; simp at this; omega
            have hBW : Below w'.heap.size w' W := (hbe.alloc hzz _).trans (hB.mono (by simp; omega))
            go_wp2_with fail
            go_region
            obtain rfl : false = d0 := hd0
            obtain rfl : false = d1 := hd1
            cases sm <;> cases e0 <;> cases e1 <;>
            · go_wp2_with fail
              refine wp_loop_rounds 3 ?_
              repeat any_goals (rw [rounds_succ]; go_wp2_with fail)
              first
              | (go_roundw
                 case rel => exact ⟨k + 1, by omega, by go_num, by rw [Hany.out, Hab.out]; rfl, Hnext.out (by rw [Hgd.out, Hab.out]; rfl), ((hBW.setCell (p := ⟨wr.heap.size, 0, none⟩) hzz _).setCell (p := ⟨wr.heap.size, 1, none⟩) hzz _).drew⟩
                 case measure => simp [intOf]; omega)
              | (go_ret
                 exact ⟨ret_bool (Hfalse.out (by rw [Hgd.out, Hab.out]; rfl)).symm, Hend.out _ ((hBW.setCell (p := ⟨wr.heap.size, 0, none⟩) hzz _).setCell (p := ⟨wr.heap.size, 1, none⟩) hzz _).drew⟩)
          | false =>
            rw [hab] at Habs
            have Hab := Lib.hid hab
            clear hab
            go_wp2_with (first | (refine wpList_load_nd _ rfl rfl b (o + k * 11) rfl (f k) hkn.size (Hkr.out.keeps (Keeps.alloc _ _)) ?_))
            refine (Habs.out _ (Keeps.alloc _ _)).mono ?_
            rintro e W ⟨rfl, hB⟩
            obtain ⟨hcB, hfB⟩ := bcell hB
            have hzB : wr.heap.size + 1 ≤ W.heap.size := by have := hB.size; simp at this; omega
            have hkW : Keeps wr W := (Keeps.alloc wr _).trans (Keeps.of_below hB)
            have hBW : Below w'.heap.size w' W := (hbe.alloc hzz _).trans (hB.mono (by simp; omega))
            have HkW := Lib.hid hkW
            clear hkW
            go_wp2_with (first | (refine wpList_load_nd _ rfl rfl b (o + k * 11) rfl (f k) hkn.size (Hkr.out.keeps HkW.out) ?_))
            rw [show ((l : Int) + 2 - 1) = (l : Int) + 1 from by omega]
            (with_reducible refine (Hval.out _ HkW.out).mono ?_)
            rintro e W2 ⟨rfl, hB2⟩
            obtain ⟨hcB2, hfB2⟩ := bcell hB2
            have hzB2 : wr.heap.size + 1 ≤ W2.heap.size := Nat.le_trans hzB hB2.size
            have hz5 : w.heap.size < W.heap.size := by omega
            have hz6 : b < W.heap.size := by omega
            have hz7 : wr.heap.size < W.heap.size := by omega
            have hBW2 : Below w'.heap.size w' W2 := hBW.trans (hB2.mono (by omega))
            cases hok : kd.ok (l + 1) with
            | false =>
              go_wp2_with fail
              go_ret
              exact ⟨ret_bool (Hfalse.out (by rw [Hgd.out, Hab.out, hok]; rfl)).symm, Hend.out _ hBW2⟩
            | true =>
              have Hok := Lib.hid hok
              clear hok
              go_wp2_with fail
              go_region
              cases sm <;> cases e0 <;> cases d0 <;> cases e1 <;> cases d1 <;>
              · go_wp2_with fail
                refine wp_loop_rounds 3 ?_
                repeat any_goals (rw [rounds_succ]; go_wp2_with fail)
                first
                | (go_roundw
                   case rel => exact ⟨k + 1, by omega, by go_num, by rw [Hany.out, Hab.out]; rfl, Hnext.out (by rw [Hgd.out, Hab.out, Hok.out]; rfl), ((hBW2.setCell (p := ⟨wr.heap.size, 0, none⟩) hzz _).setCell (p := ⟨wr.heap.size, 1, none⟩) hzz _).drew⟩
                   case measure => simp [intOf]; omega)
                | (go_ret
                   exact ⟨ret_bool (Hfalse.out (by rw [Hgd.out, Hab.out, Hok.out]; rfl)).symm, Hend.out _ ((hBW2.setCell (p := ⟨wr.heap.size, 0, none⟩) hzz _).setCell (p := ⟨wr.heap.size, 1, none⟩) hzz _).drew⟩)
        · have hx1 : (x == 0) = false := by simpa using hx0
          have hx2 : (x != 0) = true := by simpa using hx0
          go_wp2_with fail
          go_ret
          exact ⟨ret_bool (Hfalse.out (by rw [Hgd.out, hx1]; rfl)).symm, Hend.out _ (hbe.alloc hzz _)⟩
      · obtain rfl : k = 8 := by omega
        clear Hcell hrow2
        obtain ⟨sm, hsm⟩ : ∃ s, s = (List.range 8).any (fun i => !((Nd.mk V t0 t1 ks).kid i).absent) := ⟨_, rfl⟩
        rw [← hsm]
        have Hfin : Hid ((Nd.mk V t0 t1 ks).ok (l + 2) = (sm && tagOk t0 && tagOk t1)) := Lib.hid (by rw [hsm]; exact ok_end Haf.out H8.out Hgood.out)
        clear hsm Hgood
        cases sm with
        | false =>
          go_wp2_with fail
          go_ret
          exact ⟨ret_bool (by rw [Hfin.out]; rfl), Hend.out _ hbe⟩
        | true =>
          by_cases p0 : 0 ≤ t0
          · by_cases p1 : t0 < 256
            · by_cases p2 : 0 ≤ t1
              · by_cases p3 : t1 < 256
                · go_wp2_with fail
                  go_ret
                  exact ⟨ret_bool (by rw [Hfin.out]; simp [tagOk, p0, p1, p2, p3]), Hend.out _ hbe⟩
                · go_wp2_with fail
                  go_ret
                  exact ⟨ret_bool (by rw [Hfin.out]; unfold tagOk; rw [decide_eq_false (show ¬ t1 < 256 by omega)]; simp only [Bool.and_false, Bool.false_and]), Hend.out _ hbe⟩
              · go_wp2_with fail
                go_ret
                exact ⟨ret_bool (by rw [Hfin.out]; unfold tagOk; rw [decide_eq_false (show ¬ 0 ≤ t1 by omega)]; simp only [Bool.and_false, Bool.false_and]), Hend.out _ hbe⟩
            · go_wp2_with fail
              go_ret
              exact ⟨ret_bool (by rw [Hfin.out]; unfold tagOk; rw [decide_eq_false (show ¬ t0 < 256 by omega)]; simp only [Bool.and_false, Bool.false_and]), Hend.out _ hbe⟩
          · go_wp2_with fail
            go_ret
            exact ⟨ret_bool (by rw [Hfin.out]; unfold tagOk; rw [decide_eq_false (show ¬ 0 ≤ t0 by omega)]; simp only [Bool.and_false, Bool.false_and]), Hend.out _ hbe⟩
end Go.Proofs.Ytmdmbnpgdkmklaa
