/- radix.shrink: the walk. -/
import Derived.Test.YtmdmbnpgdkmklaaRl2
import Derived.Test.YtmdmbnpgdkmklaaRd1
namespace Go.Proofs.Ytmdmbnpgdkmklaa
open Go.RowKit
set_option linter.unusedVariables false
set_option linter.unusedSimpArgs false

set_option maxRecDepth 100000 in
set_option maxHeartbeats 4000000 in
theorem shrink_spec {W : World} {g h : Nat} {n : Nd} {S : Nat → Prop} (t : TreeAt W g h n S) (hlow : n.emp = false → n.low h) (hh : h ≤ 10) :
    Calls Try.prog 76 #[.pointer (some ⟨g, 0, none⟩)] W fun e W' => Shrunk g (shrinkM h n).1 (shrinkM h n).2 S W e W' := by
  obtain ⟨post, hpost⟩ : ∃ post : Ending → World → Prop, post = fun e W' => Shrunk g (shrinkM h n).1 (shrinkM h n).2 S W e W' := ⟨_, rfl⟩
  have HP : Hid (∀ e W', Shrunk g (shrinkM h n).1 (shrinkM h n).2 S W e W' → post e W') := Lib.hid (by rw [hpost]; exact fun e W' a => a)
  rw [← hpost]
  clear hpost
  have hc0 := t.cell0
  obtain ⟨c, hg, ho, hn⟩ := t
  have hrow : RowAt W g 1 c := fun i hi => by
    rw [cell_of_row W g _ _ 28 (0, 0) hg, Array.getElem?_append_right (by simp)]
    simp [Nat.add_comm 1 i, hi]
  have hsz := ho.size
  have hemp := empty_spec ho.isN W (Keeps.refl _)
  obtain ⟨em, hem⟩ : ∃ em, em = n.emp := ⟨_, rfl⟩
  rw [← hem] at hemp
  have Hem := Lib.hid hem
  have Hemp := Lib.hid hemp
  have Hrow := Lib.hid hrow
  have T := Lib.hid (show TreeAt W g h n S from ⟨c, hg, ho, hn⟩)
  have Hlow := Lib.hid hlow
  clear hem hemp hrow hg ho hn hlow
  by_cases h0 : h = 0
  · subst h0
    go_enter Try.func76, Try.ntmps76
    go_wp2_with fail
    refine wp_loop_rounds 1 ?_
    rw [rounds_succ]
    have hfin := HP.out (.returned (.tuple #[])) W ⟨rfl, rfl, rfl, rfl, Nat.le_refl _, fun _ _ _ => rfl, S, by
      have := T.out
      unfold shrinkM
      rw [if_neg (by simp)]
      exact this, fun k hk => .inl hk⟩
    have Hfin := Lib.hid hfin
    clear hfin
    go_wp2_with fail
    exact bodyPost_end (results_none rfl _ _ _) rfl Hfin.out
  · have hgt : decide (0 < (h : Int)) = true := by simp; omega
    have hgt' : (0 : Int) < (h : Int) := by omega
    go_enter Try.func76, Try.ntmps76
    go_wp2_with (first | (refine wpList_load_nd (.tmp 12) (by rfl) (by rfl) g 1 (by rfl) c hsz (by with_reducible exact Hrow.out) ?_))
    (with_reducible refine Hemp.out.mono ?_)
    rintro e w2 ⟨rfl, hB2⟩
    have t2 := T.out.kept hB2
    cases em with
    | true =>
      obtain ⟨c2, hg2, ho2, hn2⟩ := t2
      have hs2 : (#[Value.int .i64 (h : Int)] ++ c2).size = emptyCells.size := by have := ho2.size; simp [emptyCells]; omega
      have hone : emptyCells.all (·.oneCell') = true := by simp [emptyCells, Value.oneCell']
      have hsz28 : (Try.prog.info? 28).map (·.size) = some emptyCells.size := size28
      have Hg2 := Lib.hid hg2
      clear hg2 ho2 hn2
      go_wp2_with (first | (refine wpList_store_row (by rfl) 28 (.tmp 18) (.tmp 17) (by rfl) g emptyCells (by rfl) (by rfl) 28 _ (by with_reducible exact Hg2.out) hsz28 hs2 hone ?_))
      refine bodyPost_ret (results_none rfl _ _ _) rfl (HP.out _ _ ⟨rfl, hB2.os, hB2.tape, hB2.output, by rw [size_setRow]; exact hB2.size, fun k hk hkg => (setRow_other w2 g k _ hkg).trans (hB2.block k hk), fun _ => False, ?_, fun k hk => hk.elim⟩)
      unfold shrinkM
      rw [if_pos ⟨h0, Hem.out.symm⟩]
      exact ⟨zeroNd, setRow_heap w2 g _ emptyCells _ _ Hg2.out, owns_zero _, fun h => h⟩
    | false =>
      have hM2 : Mod g W w2 := Mod.of_below hB2
      have HM2 := Lib.hid hM2
      have T2 := Lib.hid t2
      clear t2 hM2
      go_wp2_with fail
      go_loopw [] (fun wr => ∃ (h' : Nat) (n' : Nd) (S' : Nat → Prop), 1 ≤ h' ∧ h' ≤ 10 ∧ Hid (shrinkL h' n' = shrinkL h n) ∧ Hid (TreeAt wr g h' n' S') ∧ Hid (n'.low h') ∧ Hid (∀ k, S' k → S k ∨ W.heap.size ≤ k) ∧ Hid (Mod g W wr))
        (fun wr => match wr.cell? ⟨g, 0, none⟩ with | some v => (intOf v).toNat | none => 0)
      case atStart => exact ⟨h, n, S, by omega, hh, Lib.hid rfl, T2, Lib.hid (Hlow.out Hem.out.symm), Lib.hid (fun k hk => .inl hk), HM2⟩
      case round =>
        obtain ⟨h', n', S', hh1, hh2, Hs, T', Hl', HS', HM'⟩ := hrel
        rename World => wo
        have hc0' := T'.out.cell0
        have hsh : shrinkM h n = shrinkL h n := by unfold shrinkM; rw [if_neg]; rintro ⟨-, q⟩; rw [← Hem.out] at q; cases q
        cases h' with
        | zero => omega
        | succ q =>
          cases q with
          | zero =>
            have hfin := HP.out (.returned (.tuple #[])) wo ⟨rfl, HM'.out.os, HM'.out.tape, HM'.out.output, HM'.out.size, fun k hk hkg => HM'.out.block k hk hkg, S', by rw [hsh, ← Hs.out]; exact T'.out, HS'.out⟩
            have Hfin := Lib.hid hfin
            clear hfin hsh
            rw [show (((0 + 1 : Nat)) : Int) = 1 from rfl] at hc0'
            go_wp2_with fail
            exact bodyPost_end (results_none rfl _ _ _) rfl Hfin.out
          | succ q =>
            obtain ⟨v, t0, t1, ks⟩ := n'
            obtain ⟨h8, hlow2⟩ := Hl'.out
            simp only [Nd.ks] at h8 hlow2
            obtain ⟨bk, cap, f, TT, hc11, hcap, hgbk, hkids, hTS, hth, tL⟩ := T'.out.kids (by omega)
            rw [h8] at hc11 hcap
            have Hkids := Lib.hid hkids
            have Hth := Lib.hid hth
            have HtL := Lib.hid tL
            have HTS := Lib.hid hTS
            have Hlow2 := Lib.hid hlow2
            have H8 := Lib.hid h8
            obtain ⟨L, hL⟩ : ∃ L : Int, L = ((q + 1 + 1 : Nat) : Int) := ⟨_, rfl⟩
            rw [← hL] at hc0'
            have hgt2 : decide (1 < L) = true := by simp; omega
            have hgt3 : (1 : Int) < L := by omega
            have hgt4 : L ≤ 10 := by omega
            have HLq := Lib.hid hL
            clear hL
            clear hkids hth tL hTS hlow2
            go_wp2_with fail
            go_loopw [31] (fun i wi => ∃ j : Nat, j ≤ 7 ∧ i = .int .i64 j ∧ Hid (∀ t, t < j → (ks.getD (t + 1) Nd.zero).absent = true) ∧ Hid (Below wo.heap.size wo wi)) (fun i _ => 7 - (intOf i).toNat)
            case atStart => exact ⟨0, by omega, rfl, Lib.hid (fun t ht => by omega), Lib.hid (Below.refl _ _)⟩
            case round =>
              obtain ⟨j, hj, rfl, Habs, Hbe⟩ := hrel
              by_cases hlt : j < 7
              · have hj8 : j + 1 < ks.length := by rw [H8.out]; omega
                obtain ⟨kd, hkd⟩ : ∃ kd, kd = ks.getD (j + 1) Nd.zero := ⟨_, rfl⟩
                obtain ⟨hkr, hkn⟩ := Hkids.out (j + 1) hj8
                have hkeep := Keeps.of_below Hbe.out
                replace hkr := hkr.keeps hkeep
                replace hkn := hkn.keeps hkeep
                rw [show ks[j + 1] = kd by rw [hkd]; simp [hj8]] at hkn
                obtain ⟨x0, x1, x2, x3, x4, x5, x6, x7, xp, xl, xc, hx⟩ := hkn.lit
                rw [hx] at hkn hkr
                rw [show (j + 1) * 11 = 11 + j * 11 by omega] at hkr
                have hcall := fun (W : World) (q : Keeps _ W) => absent_spec (hkn.keeps q)
                have Hcall := Lib.hid hcall
                have Hkr := Lib.hid hkr
                have Hkd := Lib.hid hkd
                clear hcall hkr hkd hkn hx hkeep
                have hnext : kd.absent = true → ∀ t, t < j + 1 → (ks.getD (t + 1) Nd.zero).absent = true := fun h t ht => by
                  rcases Nat.lt_or_ge t j with h1 | h1
                  · exact Habs.out t h1
                  · rw [show t = j by omega, ← Hkd.out]; exact h
                have Hnext := Lib.hid hnext
                have hno : kd.absent = false → shrinkL (q + 1 + 1) (Nd.mk v t0 t1 ks) = (q + 1 + 1, Nd.mk v t0 t1 ks) := fun h => by
                  unfold shrinkL
                  rw [if_neg]
                  intro ha
                  rw [List.all_eq_true] at ha
                  have := ha kd (by
                    rw [Hkd.out, List.mem_iff_getElem]
                    exact ⟨j, by simp [Nd.ks]; omega, by simp [Nd.ks, hj8, Nat.add_comm]⟩)
                  rw [h] at this; cases this
                have Hno := Lib.hid hno
                have HbeA := Lib.hid (Hbe.out.alloc Hbe.out.size (.cells #[.int .i64 x0, .int .i64 x1, .int .i64 x2, .int .i64 x3, .int .i64 x4, .int .i64 x5, .int .i64 x6, .int .i64 x7, .int .i64 kd.t0, .int .i64 kd.t1, .slice xp xl xc] 26))
                have Hsz := Lib.hid Hbe.out.size
                clear hnext hno
                obtain ⟨ab, hab⟩ : ∃ ab, kd.absent = ab := ⟨_, rfl⟩
                rw [hab] at Hcall Hno Hnext
                clear hab
                go_wp2_with (first | (refine wpList_load_nd (.tmp 33) (by rfl) (by rfl) bk (11 + j * 11) (by rfl) #[.int .i64 x0, .int .i64 x1, .int .i64 x2, .int .i64 x3, .int .i64 x4, .int .i64 x5, .int .i64 x6, .int .i64 x7, .int .i64 kd.t0, .int .i64 kd.t1, .slice xp xl xc] (by rfl) (by with_reducible exact Hkr.out) ?_))
                (with_reducible refine (Hcall.out _ (Keeps.alloc _ _)).mono ?_)
                rintro e w3 ⟨rfl, hB3⟩
                have hb3 : Below wo.heap.size wo w3 := HbeA.out.trans (hB3.mono (by have := Hsz.out; simp; omega))
                have Hb3 := Lib.hid hb3
                clear hb3 hB3
                cases ab with
                | true =>
                  go_wp2_with fail
                  go_roundw
                  case rel => exact ⟨j + 1, by omega, by go_num, Lib.hid (Hnext.out (by simp)), Hb3⟩
                  case measure => simp [intOf]; omega
                | false =>
                  go_wp2_with fail
                  refine bodyPost_ret (results_none rfl _ _ _) rfl (HP.out _ _ ?_)
                  have hm := HM'.out.trans (Mod.of_below Hb3.out)
                  refine ⟨rfl, hm.os, hm.tape, hm.output, hm.size, fun k hk hkg => hm.block k hk hkg, S', ?_, HS'.out⟩
                  rw [hsh, ← Hs.out, Hno.out (by simp)]
                  exact T'.out.kept Hb3.out
              · obtain rfl : j = 7 := by omega
                have hall : (ks.drop 1).all Nd.absent = true := by
                  rw [List.all_eq_true]
                  intro x hx
                  obtain ⟨i, hi, rfl⟩ := List.mem_iff_getElem.1 hx
                  simp only [List.length_drop] at hi
                  have := Habs.out i (by have := H8.out; omega)
                  simp only [List.getElem_drop]
                  rw [Nat.add_comm i 1, List.getD_eq_getElem?_getD, List.getElem?_eq_getElem (by omega), Option.getD_some] at this; exact this
                have T3 := T'.out.kept Hbe.out
                have hc0i := T3.cell0
                rw [← HLq.out] at hc0i
                have hfrz := T3.node.frozen 0
                clear hc11 hcap hgbk hc0' Hkids Hth HtL HTS TT
                obtain ⟨bk, cap, f, TT, hc11, hcap, hgbk, hkids, hTS, hth, tL⟩ := T3.kids (by omega)
                rw [h8] at hc11 hcap
                obtain ⟨hr0, hn0⟩ := hkids 0 (by omega)
                have hz : (f 0).size = 11 := hn0.size
                have h26 : (Try.prog.info? 26).map (·.size) = some (f 0).size := by rw [hz]; exact size26
                have hone : (f 0).all (·.oneCell') = true := hn0.one
                have hcs := tL.cell0
                rw [← HLq.out] at hcs
                have hfs := tL.node.frozen 0
                have Hr0 := Lib.hid hr0
                rw [← hz] at hth
                have Hth := Lib.hid hth
                have HtL := Lib.hid tL
                have HTS := Lib.hid hTS
                have Hz := Lib.hid hz
                have H26 := Lib.hid h26
                have Hone := Lib.hid hone
                have Hall := Lib.hid hall
                clear hr0 hn0 hth hTS tL hkids hz h26 hone hall T3
                go_wp2_with (first | (refine wpList_load_nd (.tmp 45) (by rfl) (by rfl) bk (0 * 11) (by rfl) (f 0) (by with_reducible exact Hz.out) (by with_reducible exact Hr0.out) ?_) | (refine wpList_store_mid (by rfl) 26 (.tmp 48) (.tmp 46) (by rfl) g 1 (f 0) (by rfl) (by rfl) (by with_reducible exact Hth.out) (by with_reducible exact H26.out) (by with_reducible exact Hone.out) ?_))
                have e1 : L - 1 = ((q + 1 : Nat) : Int) := by rw [HLq.out]; omega
                have hT : TreeAt ((wr.setCells g 1 (f 0).toList).setCell ⟨g, 0, none⟩ (.int .i64 (L - 1))) g ((q + 1 : Nat) : Int) (ks.getD 0 Nd.zero) TT := by
                  rw [e1]
                  have := HtL.out.setH ((q + 1 : Nat) : Int)
                  rwa [show ks[0] = ks.getD 0 Nd.zero by simp [show 0 < ks.length by omega]] at this
                have HT := Lib.hid hT
                clear hT
                go_roundw
                case rel =>
                  refine ⟨q + 1, ks.getD 0 Nd.zero, TT, by omega, by omega, Lib.hid ?_, HT, Lib.hid (Hlow2.out Hall.out), Lib.hid (fun k hk => HS'.out k (HTS.out k hk)), Lib.hid ?_⟩
                  · rw [← Hs.out]
                    conv => rhs; unfold shrinkL
                    rw [if_pos (show (((Nd.mk v t0 t1 ks).ks.drop 1).all Nd.absent = true) from Hall.out)]
                    rfl
                  · have hm := HM'.out.trans (Mod.of_below Hbe.out)
                    have hr := setCells_rest (b := g) (f 0).toList 1 wr
                    have hm2 : Mod g W (wr.setCells g 1 (f 0).toList) := ⟨hr.1.trans hm.os, hr.2.1.trans hm.tape, hr.2.2.1.trans hm.output, by rw [hr.2.2.2]; exact hm.size, fun k hk hkg => (setCells_other (b := g) _ _ _ _ hkg).trans (hm.block k hk hkg)⟩
                    exact hm2.setCell _ _
                case measure =>
                  rw [HT.out.cell0, T'.out.cell0]
                  simp [intOf]
                  omega
end Go.Proofs.Ytmdmbnpgdkmklaa
