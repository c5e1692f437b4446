/- The reference's shape of an inner node. -/
import Derived.Test.YtmdmbnpgdkmklaaRf3
namespace Go.Proofs.Ytmdmbnpgdkmklaa
open Go.RowKit
set_option linter.unusedVariables false
set_option linter.unusedSimpArgs false

theorem all_getD {V : List Int} (hv : V.length = 8) (h : V.all (· == 0) = true) {k : Nat} (hk : k < 8) : (V.getD k 0 == 0) = true := by
  rw [List.all_eq_true] at h
  rw [List.getD_eq_getElem?_getD, List.getElem?_eq_getElem (by omega)]
  exact h _ (List.getElem_mem _)

theorem ok_vals {l : Nat} {V : List Int} {t0 t1 : Int} {ks : List Nd} (hv : V.length = 8) (h : V.all (· == 0) = false) : (Nd.mk V t0 t1 ks).ok (l + 2) = false := by
  rw [List.all_eq_false] at h
  obtain ⟨x, hx, h0⟩ := h
  obtain ⟨k, hk, rfl⟩ := List.mem_iff_getElem.1 hx
  refine ok_false (k := k) (by omega) ?_
  have : (V.getD k 0 == 0) = false := by
    rw [List.getD_eq_getElem?_getD, List.getElem?_eq_getElem hk]; simpa using h0
  simp only [kidGood, Nd.vs, this, Bool.false_and]

set_option maxRecDepth 100000 in
set_option maxHeartbeats 8000000 in
theorem shape_inner (l : Nat) (hl9 : l ≤ 8) (ih : ∀ (w : World) (n : Nd) (c : Array Value), IsN w n c →
    Calls Try.prog 70 #[.agg c, .int .i64 ((l : Int) + 1)] w fun e w' => e = .returned (.bool (n.ok (l + 1))) ∧ Below w.heap.size w w')
    {w : World} {n : Nd} {c : Array Value} (h : IsN w n c) (ha : n.absent = false) (h8 : n.ks.length = 8) (hva : n.vs.all (· == 0) = true) (ht0 : tagOk n.t0 = true) (ht1 : tagOk n.t1 = true) :
    Calls Try.prog 70 #[.agg c, .int .i64 ((l : Int) + 2)] w fun e w' => e = .returned (.bool (n.ok (l + 2))) ∧ Below w.heap.size w w' := by
  have hab := Absent_spec (h.keeps (Keeps.alloc w (.cells c 26)))
  rw [ha] at hab
  have hvl := fun (W : World) (k : Keeps w W) => values_spec (h.keeps k)
  rw [hva] at hvl
  have hrow := rowAt_new w c 26
  have hcs := h.size
  cases h with
  | mk v t0 t1 ks a b o cap f hv hvb h0 h1 haa hl hcp hf hk =>
    replace h8 : ks.length = 8 := h8
    rw [h8] at hf
    obtain ⟨p0, p1⟩ := tagOk_iff.1 (show tagOk t0 = true from ht0)
    obtain ⟨p2, p3⟩ := tagOk_iff.1 (show tagOk t1 = true from ht1)
    obtain rfl : a = some ⟨b, o, none⟩ := haa (by intro h; simp [h] at h8)
    obtain ⟨v0, v1, v2, v3, v4, v5, v6, v7, rfl⟩ := list8 hv
    simp only [ndCells, List.map_cons, List.map_nil, List.cons_append, List.nil_append, h8] at hab hrow hvl ⊢
    obtain ⟨V, hV⟩ : ∃ V, V = [v0, v1, v2, v3, v4, v5, v6, v7] := ⟨_, rfl⟩
    have hva' : V.all (· == 0) = true := by rw [hV]; exact hva
    have haf : (Nd.mk V t0 t1 ks).absent = false := by rw [hV]; exact ha
    rw [← hV] at hv ⊢
    have Hva := Lib.hid hva'
    have Haf := Lib.hid haf
    have H8 := Lib.hid h8
    have Hf := Lib.hid hf
    have Hkk := Lib.hid hk
    have Ih := Lib.hid ih
    have Hvl := Lib.hid hvl
    have Hrow := Lib.hid hrow
    have Ht0 := Lib.hid ht0
    have Ht1 := Lib.hid ht1
    clear hV hvb hf hk haa ha h8 hl ih hva hva' haf hvl hrow h0 h1 hcs ht0 ht1
    have Hcc := Lib.hid hab
    clear hab
    go_enter Try.func70, Try.ntmps70
    go_wp2_with fail
    (with_reducible refine Hcc.out.mono ?_)
    rintro e w' ⟨rfl, hb⟩
    have hkw : Keeps w w' := (Keeps.alloc w _).trans (Keeps.of_below hb)
    have hrow' := Hrow.out.keeps (Keeps.of_below hb)
    have hbb : Below w.heap.size w w' := ((Below.refl _ w).alloc (Nat.le_refl _) _).trans (hb.mono (by simp))
    have hz : w.heap.size < w'.heap.size := by have := hb.size; simp at this; omega
    obtain ⟨hc0, hc8, hc9, hc10⟩ := cells11 hrow'
    have Hrow' := Lib.hid hrow'
    have Hkw := Lib.hid hkw
    clear hb Hcc hrow' hkw
    have hl1 : ((l : Int) + 2 == 1) = false := by simp; omega
    go_wp2_with (first | (refine wpList_load_nd _ rfl rfl w.heap.size 0 rfl _ rfl Hrow'.out ?_))
    (with_reducible refine (Hvl.out _ Hkw.out).mono ?_)
    rintro e w2 ⟨rfl, hB2⟩
    have hk2 := Keeps.of_below hB2
    replace hc8 := hk2 _ _ hc8
    replace hc9 := hk2 _ _ hc9
    replace hc10 := hk2 _ _ hc10
    replace hbb : Below w.heap.size w w2 := hbb.trans (hB2.mono (Nat.le_of_lt hz))
    replace hz : w.heap.size < w2.heap.size := Nat.lt_of_lt_of_le hz hB2.size
    have hkw2 : Keeps w w2 := Hkw.out.trans hk2
    have Hkw2 := Lib.hid hkw2
    clear hc0 hk2 hB2 Hkw hkw2 Hvl hl1 Hrow'
    go_wp2_with fail
    go_loopw [5, 6] (fun s i wr => ∃ k : Nat, k ≤ 8 ∧ i = .int .i64 k ∧ s = .bool ((List.range k).any (fun i => !((Nd.mk V t0 t1 ks).kid i).absent)) ∧ (∀ j, j < k → kidGood (Nd.ok (l + 1)) (.mk V t0 t1 ks) j = true) ∧ Below w2.heap.size w2 wr) (fun _ i _ => 8 - (intOf i).toNat)
    case atStart => exact ⟨0, by omega, rfl, by simp, fun j hj => by omega, Below.refl _ _⟩
    case round =>
      obtain ⟨k, hk8, rfl, rfl, hgood, hbe⟩ := hrel
      have hkeep := Keeps.of_below hbe
      have hz2 : w.heap.size < wr.heap.size := Nat.lt_of_lt_of_le hz hbe.size
      have hzz : w2.heap.size ≤ wr.heap.size := hbe.size
      have hend : ∀ W, Below w2.heap.size w2 W → Below w.heap.size w W := fun W hW => hbb.trans (hW.mono (Nat.le_of_lt hz))
      have Hend := Lib.hid hend
      have Hgood := Lib.hid hgood
      replace hc8 := hkeep _ _ hc8
      replace hc9 := hkeep _ _ hc9
      replace hc10 := hkeep _ _ hc10
      clear hgood hend
      by_cases hlt : k < 8
      · have hkk : k < ks.length := by rw [H8.out]; exact hlt
        obtain ⟨kd, hkd⟩ : ∃ kd, kd = (Nd.mk V t0 t1 ks).kid k := ⟨_, rfl⟩
        have hkn : IsN wr kd (f k) := by
          have := (Hkk.out k hkk).keeps (Hkw2.out.trans hkeep)
          rwa [show ks[k] = kd by rw [hkd]; simp [Nd.kid, Nd.ks, hkk]] at this
        have hkr : RowAt wr b (o + k * 11) (f k) := (Hf.out k hlt).keeps (Hkw2.out.trans hkeep)
        obtain ⟨hk0, hk1⟩ := kid_tags hkn hkr
        have hbk : b < wr.heap.size := lt_of_cell hk0
        obtain ⟨sm, hsm⟩ : ∃ s, s = (List.range k).any (fun i => !((Nd.mk V t0 t1 ks).kid i).absent) := ⟨_, rfl⟩
        rw [← hsm]
        have Hsm := Lib.hid hsm
        have Hkd := Lib.hid hkd
        obtain ⟨e0, he0⟩ : ∃ e, tb t0 k = e := ⟨_, rfl⟩
        obtain ⟨e1, he1⟩ : ∃ e, tb t1 k = e := ⟨_, rfl⟩
        obtain ⟨d0, hd0⟩ : ∃ e, (kd.t0 != 0) = e := ⟨_, rfl⟩
        obtain ⟨d1, hd1⟩ : ∃ e, (kd.t1 != 0) = e := ⟨_, rfl⟩
        have hb0 := fun w => bit_spec t0 k hlt w
        have hb1 := fun w => bit_spec t1 k hlt w
        rw [he0] at hb0
        rw [he1] at hb1
        have Hb0 := Lib.hid hb0
        have Hb1 := Lib.hid hb1
        obtain ⟨okk, hokk⟩ : ∃ q, kd.ok (l + 1) = q := ⟨_, rfl⟩
        have habs := fun (W : World) (hK : Keeps wr W) => Absent_spec (hkn.keeps hK)
        have hval := fun (W : World) (hK : Keeps wr W) => Ih.out W kd (f k) (hkn.keeps hK)
        rw [hokk] at hval
        have Habs := Lib.hid habs
        have Hval := Lib.hid hval
        have Hkr := Lib.hid hkr
        have hfalse : kidGood (Nd.ok (l + 1)) (.mk V t0 t1 ks) k = false → (Nd.mk V t0 t1 ks).ok (l + 2) = false := fun h => ok_false hlt h
        have hnext : kidGood (Nd.ok (l + 1)) (.mk V t0 t1 ks) k = true → ∀ j, j < k + 1 → kidGood (Nd.ok (l + 1)) (.mk V t0 t1 ks) j = true := fun h j hj => by
          rcases Nat.lt_or_ge j k with h1 | h1
          · exact Hgood.out j h1
          · rw [show j = k by omega]; exact h
        have Hfalse := Lib.hid hfalse
        have Hnext := Lib.hid hnext
        have hgd : kidGood (Nd.ok (l + 1)) (.mk V t0 t1 ks) k = ((kd.absent || okk) && (e0 == d0) && (e1 == d1)) := by
          show ((V.getD k 0 == 0) && (((Nd.mk V t0 t1 ks).kid k).absent || Nd.ok (l + 1) ((Nd.mk V t0 t1 ks).kid k)) && (tb t0 k == (((Nd.mk V t0 t1 ks).kid k).t0 != 0)) && (tb t1 k == (((Nd.mk V t0 t1 ks).kid k).t1 != 0))) = _
          rw [← Hkd.out, he0, he1, all_getD hv Hva.out hlt, hd0, hd1, hokk, Bool.true_and]
        have Hgd := Lib.hid hgd
        have hany : ((List.range (k + 1)).any fun i => !((Nd.mk V t0 t1 ks).kid i).absent) = (sm || !kd.absent) := by
          rw [List.range_succ, List.any_append, ← Hsm.out, Hkd.out]; simp
        have Hany := Lib.hid hany
        clear hokk hany hsm hkd hb0 hb1 habs hval hkr hfalse hnext hgd Hgood he0 he1
        cases hab : kd.absent with
        | true =>
          obtain ⟨z0, z1⟩ := absent_tags hab
          have hd0' : d0 = false := by rw [← hd0, z0]; rfl
          have hd1' : d1 = false := by rw [← hd1, z1]; rfl
          subst hd0' hd1'
          rw [hab] at Habs
          have Hab := Lib.hid hab
          have Hkeep := Lib.hid hkeep
          clear hab z0 z1 hd0 hd1 hk0 hk1 hkeep
          go_wp2_with (first | (refine wpList_load_nd _ rfl rfl b (o + k * 11) rfl (f k) hkn.size Hkr.out ?_))
          (with_reducible refine (Habs.out _ (Keeps.refl _)).mono ?_)
          rintro e W ⟨rfl, hB⟩
          obtain ⟨hcB, hfB⟩ := bcell hB
          have hBW : Below w2.heap.size w2 W := hbe.trans (hB.mono hzz)
          cases e0 <;> cases e1 <;>
          · go_wp2_with fail
            (with_reducible refine (Hb0.out _).mono ?_)
            rintro e w3 ⟨rfl, rfl⟩
            go_wp2_with fail
            first
            | (go_ret
               exact ⟨ret_bool (Hfalse.out (by rw [Hgd.out, Hab.out]; rfl)).symm, Hend.out _ hBW⟩)
            | ((with_reducible refine (Hb1.out _).mono ?_)
               rintro e w3 ⟨rfl, rfl⟩
               go_wp2_with fail
               first
               | (go_ret
                  exact ⟨ret_bool (Hfalse.out (by rw [Hgd.out, Hab.out]; rfl)).symm, Hend.out _ hBW⟩)
               | (go_roundw
                  case rel => exact ⟨k + 1, by omega, by go_num, by rw [Hany.out, Hab.out, Bool.not_true, Bool.or_false], Hnext.out (by rw [Hgd.out, Hab.out]; rfl), hBW⟩
                  case measure => simp [intOf]; omega))
        | false =>
          rw [hab] at Habs
          have Hab := Lib.hid hab
          clear hab
          go_wp2_with (first | (refine wpList_load_nd _ rfl rfl b (o + k * 11) rfl (f k) hkn.size Hkr.out ?_))
          (with_reducible refine (Habs.out _ (Keeps.refl _)).mono ?_)
          rintro e W ⟨rfl, hB⟩
          have hBW : Below w2.heap.size w2 W := hbe.trans (hB.mono hzz)
          go_wp2_with fail
          -- the statement that draws its order
          obtain ⟨ι, F, hF, hG⟩ := world_class wr
          obtain ⟨i0, hi0⟩ := hG _ hB.drew
          have hne : Nonempty ι := ⟨i0⟩
          obtain ⟨x0, x1, x2, x3, x4, x5, x6, x7, x8, x9, x10, hfk⟩ := arr11 hkn.size
          rw [hfk] at hkn Hkr Hval
          have hk8 : x8 = .int .i64 kd.t0 := by
            have h1 := Hkr.out 8 (by simp)
            rw [hk0] at h1; exact (Option.some.inj h1).symm
          have hk9 : x9 = .int .i64 kd.t1 := by
            have h1 := Hkr.out 9 (by simp)
            have h2 := hk1
            rw [show o + k * 11 + 8 + 1 = o + k * 11 + 9 from rfl] at h2
            rw [h2] at h1; exact (Option.some.inj h1).symm
          subst hk8 hk9
          have hcF := fun (i : ι) => row11 (Hkr.out.keeps (Keeps.of_below (hF i)))
          have g0 := fun i => (hcF i).1
          have g1 := fun i => (hcF i).2.1
          have g2 := fun i => (hcF i).2.2.1
          have g3 := fun i => (hcF i).2.2.2.1
          have g4 := fun i => (hcF i).2.2.2.2.1
          have g5 := fun i => (hcF i).2.2.2.2.2.1
          have g6 := fun i => (hcF i).2.2.2.2.2.2.1
          have g7 := fun i => (hcF i).2.2.2.2.2.2.2.1
          have g8 := fun i => (hcF i).2.2.2.2.2.2.2.2.1
          have g9 := fun i => (hcF i).2.2.2.2.2.2.2.2.2.1
          have g10 := fun i => (hcF i).2.2.2.2.2.2.2.2.2.2
          have c8 := fun i => (Keeps.of_below (hF i)) _ _ hc8
          have c9 := fun i => (Keeps.of_below (hF i)) _ _ hc9
          have c10 := fun i => (Keeps.of_below (hF i)) _ _ hc10
          have HF := Lib.hid hF
          have HG := Lib.hid hG
          have HFK := Lib.hid (fun i => Keeps.of_below (hF i))
          clear hcF hF hG hfk hc8 hc9 hc10 hk0 hk1
          cases okk with
          | false =>
            refine wp_region_class F (by kernel_rfl) ⟨i0, hi0⟩ ?_
            repeat (go_big_quiet_step ((first
              | (go_at_call 70; rw [show ((l : Int) + 2 - 1) = (l : Int) + 1 from by omega]; exact Calls.class_of HF HG (Hval.out _ (HFK.out _)))
              | (go_at_call 99; with_reducible exact Calls.class_same (Hb0.out _))
              | (go_at_call 99; with_reducible exact Calls.class_same (Hb1.out _)))))
            refine wpQuiet_nil ?_
            rintro w3 ⟨i3, rfl⟩
            go_wp2_with fail
            go_ret
            exact ⟨ret_bool (Hfalse.out (by rw [Hgd.out, Hab.out]; rfl)).symm, Hend.out _ (hbe.trans ((HF.out _).mono hzz))⟩
          | true =>
            cases e0 <;> cases d0 <;> cases e1 <;> cases d1 <;>
            · refine wp_region_class F (by kernel_rfl) ⟨i0, hi0⟩ ?_
              repeat (go_big_quiet_step ((first
                | (go_at_call 70; rw [show ((l : Int) + 2 - 1) = (l : Int) + 1 from by omega]; exact Calls.class_of HF HG (Hval.out _ (HFK.out _)))
                | (go_at_call 99; with_reducible exact Calls.class_same (Hb0.out _))
                | (go_at_call 99; with_reducible exact Calls.class_same (Hb1.out _)))))
              refine wpQuiet_nil ?_
              rintro w3 ⟨i3, rfl⟩
              go_wp2_with fail
              first
              | (go_ret
                 exact ⟨ret_bool (Hfalse.out (by rw [Hgd.out, Hab.out]; rfl)).symm, Hend.out _ (hbe.trans ((HF.out _).mono hzz))⟩)
              | (go_roundw
                 case rel => exact ⟨k + 1, by omega, by go_num, by rw [Hany.out, Hab.out, Bool.not_false, Bool.or_true], Hnext.out (by rw [Hgd.out, Hab.out]; rfl), hbe.trans ((HF.out _).mono hzz)⟩
                 case measure => simp [intOf]; omega)
      · obtain rfl : k = 8 := by omega
        have Hfin : Hid ((Nd.mk V t0 t1 ks).ok (l + 2) = ((List.range 8).any (fun i => !((Nd.mk V t0 t1 ks).kid i).absent) && tagOk t0 && tagOk t1)) := Lib.hid (ok_end Haf.out H8.out Hgood.out)
        clear Hgood
        go_wp2_with fail
        go_ret
        exact ⟨ret_bool (by rw [Hfin.out, show tagOk t0 = true from Ht0.out, show tagOk t1 = true from Ht1.out, Bool.and_true, Bool.and_true]), Hend.out _ hbe⟩
end Go.Proofs.Ytmdmbnpgdkmklaa
