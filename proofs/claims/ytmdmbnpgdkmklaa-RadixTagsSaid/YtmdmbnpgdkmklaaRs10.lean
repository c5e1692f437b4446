/- The reference's List. -/
import Derived.Test.YtmdmbnpgdkmklaaRs9
namespace Go.Proofs.Ytmdmbnpgdkmklaa
open Go.RowKit
set_option linter.unusedVariables false
set_option linter.unusedSimpArgs false

/-- The cells of the indices of a list of entries. -/
def ixCells (l : List En) : List Value := l.map fun e => .int .i64 (e.i : Int)
theorem info3 : (Try.prog.info? 3).map (fun i => (i.zero, i.size, i.bytes)) = some (some (.int .i64 0), 1, 8) := by kernel_rfl

set_option maxRecDepth 100000 in
set_option maxHeartbeats 4000000 in
theorem RList_spec {w : World} {r : Rx} {c : Array Value} (h : IsR w r c) :
    Calls Try.prog 44 #[.agg c] w fun e w' => ∃ v, e = .returned v ∧ w'.ownsRow w.heap.size 3 1 v r.all.length (ixCells r.all) ∧ Below w.heap.size w w' := by
  obtain ⟨post, hpost⟩ : ∃ post : Ending → World → Prop, post = fun e w' => ∃ v, e = .returned v ∧ w'.ownsRow w.heap.size 3 1 v r.all.length (ixCells r.all) ∧ Below w.heap.size w w' := ⟨_, rfl⟩
  have HP : Hid (∀ v w', w'.ownsRow w.heap.size 3 1 v r.all.length (ixCells r.all) → Below w.heap.size w w' → post (.returned v) w') := Lib.hid (by rw [hpost]; exact fun v w' a b => ⟨v, rfl, a, b⟩)
  rw [← hpost]
  have hen := fun (W : World) (k : Keeps w W) => Entries_spec (h.keeps k)
  have hlen := all_length r
  obtain ⟨hh, nc, rfl, hn0⟩ := h
  obtain ⟨x0, x1, x2, x3, x4, x5, x6, x7, xp, xl, xc, rfl⟩ := hn0.lit
  simp only [List.append_toArray, List.cons_append, List.nil_append] at hen ⊢
  obtain ⟨l, hl⟩ : ∃ l, l = r.all := ⟨_, rfl⟩
  rw [← hl] at hen hlen HP
  have Hen := Lib.hid hen
  have Hlen := Lib.hid hlen
  have hbA : Below w.heap.size w (w.alloc (.cells #[.int .i64 r.h, .int .i64 x0, .int .i64 x1, .int .i64 x2, .int .i64 x3, .int .i64 x4, .int .i64 x5, .int .i64 x6, .int .i64 x7, .int .i64 r.root.t0, .int .i64 r.root.t1, .slice xp xl xc] 28)) := (Below.refl _ _).alloc (Nat.le_refl _) _
  have HbA := Lib.hid hbA
  clear hen hlen hn0 hh hl hbA hpost
  obtain ⟨i0, hi0, hz0, hzs, hzb⟩ := info_parts info3
  go_enter Try.func44, Try.ntmps44
  go_wp2_with fail
  (with_reducible refine (Hen.out _ (Keeps.alloc _ _)).mono ?_)
  rintro e w2 ⟨v, rfl, hv, hB2⟩
  have hbb : Below w.heap.size w w2 := HbA.out.trans (hB2.mono (by simp))
  obtain ⟨M, hM⟩ : ∃ M, M = l.length := ⟨_, rfl⟩
  obtain ⟨p, cp, rfl⟩ : ∃ p cp, v = .slice p M cp := by
    rcases hv.2 with ⟨h1, h0⟩ | ⟨g, cap, cur, h1, _⟩
    · exact ⟨none, 0, by rw [hM, h0]; exact h1⟩
    · exact ⟨_, _, by rw [hM]; exact h1⟩
  obtain ⟨B0, hB0⟩ : ∃ B0, B0 = (w.alloc (.cells #[.int .i64 r.h, .int .i64 x0, .int .i64 x1, .int .i64 x2, .int .i64 x3, .int .i64 x4, .int .i64 x5, .int .i64 x6, .int .i64 x7, .int .i64 r.root.t0, .int .i64 r.root.t1, .slice xp xl xc] 28)).heap.size := ⟨_, rfl⟩
  have hv' : w2.ownsRow B0 83 3 (.slice p M cp) M (enCells l) := by rw [hB0, hM]; rw [hM] at hv; exact hv
  have hM30 : M ≤ 1073741824 := by have := Hlen.out; omega
  have HM := Lib.hid hM
  have Hv := Lib.hid hv'
  have Hbb := Lib.hid hbb
  clear hv hv' hbb hB2 hM hB0
  go_wp2_with fail
  go_loopw [3, 5] (fun ov jv wx => ∃ j : Nat, j ≤ M ∧ jv = .int .i64 j ∧ Hid (wx.ownsRow w.heap.size 3 1 ov j (ixCells (l.take j))) ∧ Hid (wx.ownsRow B0 83 3 (.slice p M cp) M (enCells l)) ∧ Hid (∀ g, (Value.slice p M cp).ownBlock = some g → ov.ownBlock ≠ some g) ∧ Hid (Below w.heap.size w wx)) (fun _ jv _ => M - (intOf jv).toNat)
  case atStart => exact ⟨0, by omega, rfl, Lib.hid (World.ownsRow_nil _ _ _ _), Hv, Lib.hid (fun g _ h => by cases h), Hbb⟩
  case round =>
    clear Hv Hbb
    rename World => wx
    obtain ⟨j, hj, rfl, Ho, Hv, Hn, Hb⟩ := hrel
    by_cases hjl : j < M
    · obtain ⟨g, rfl⟩ : ∃ g, p = some ⟨g, 0, none⟩ := by
        rcases Hv.out.2 with ⟨_, h0⟩ | ⟨g, cap, cur, h1, _⟩
        · omega
        · simp only [Value.slice.injEq] at h1
          exact ⟨g, h1.1⟩
      have hjk : j < l.length := by rw [← HM.out]; exact hjl
      have hvv := Hv.out
      rw [show M = l.length from HM.out] at hvv
      obtain ⟨c0, -, -⟩ := own_cell hvv j hjk
      obtain ⟨ei, hei⟩ : ∃ ei : Nat, ei = l[j].i := ⟨_, rfl⟩
      rw [← hei] at c0
      have hsx : w.heap.size ≤ wx.heap.size := Hb.out.size
      have HoA := Lib.hid (Ho.out.alloc (.cells #[.int .i64 (ei : Int)] 3))
      have Hz2 := Lib.hid (show w.heap.size ≤ (wx.alloc (.cells #[.int .i64 (ei : Int)] 3)).heap.size by simp; omega)
      have Hm := Lib.hid (show j + 1 ≤ maxLen by unfold maxLen; omega)
      have Hm2 := Lib.hid (show (j + 1) * 8 ≤ 140737488355328 by omega)
      have Hsz := Lib.hid (sizeA' wx (.cells #[.int .i64 (ei : Int)] 3))
      have hjM : (j : Int) < (M : Int) := by omega
      have Hei := Lib.hid hei
      clear hvv hei
      go_wp2_with (first
        | (refine wpList_append_lies _ (by rfl) (.tmp 14) (.tmp 20) 52 (by rfl) w.heap.size 3 i0 _ 1 8 Try.underlying52 hi0 hz0 hzs hzb (by rfl) (by omega) u3 _ _ (by rfl) (by with_reducible exact HoA.out)
            ⟨wx.heap.size, 0, none⟩ 1 1 [.int .i64 (ei : Int)] (by rfl) (by rfl) (World.news_of_block (heap_alloc_new wx _)) (by simp [Value.oneCell']) (by omega) (by with_reducible exact Hm.out) (by with_reducible exact Hm2.out) (by with_reducible exact Hz2.out) (wx.heap.size + 1) (by with_reducible exact Hsz.out) ?_
           intro g' cap' w' hown' hgrow hat hlt'))
      have hgw := (Hv.out.lt g rfl).2
      have hgne : g' ≠ g := fun e => by
        rcases hat with q | q
        · exact Hn.out g rfl (by rw [q, e])
        · omega
      have hnext : w'.ownsRow w.heap.size 3 1 (.slice (some ⟨g', 0, none⟩) (j + 1) cap') (j + 1) (ixCells (l.take (j + 1))) := by
        have e : ixCells (l.take (j + 1)) = ixCells (l.take j) ++ [.int .i64 (ei : Int)] := by
          rw [List.take_succ_eq_append_getElem hjk]
          unfold ixCells
          rw [List.map_append, Hei.out]
          rfl
        rw [e]
        exact hown'
      have hv2 : w'.ownsRow B0 83 3 (.slice (some ⟨g, 0, none⟩) M cp) M (enCells l) := (Hv.out.alloc _).kept hgrow (.inr (fun q => Hn.out g rfl q.symm))
      have hb2 : Below w.heap.size w w' := (Hb.out.alloc hsx _).grown hgrow (by simp; omega) (fun q hq => (Ho.out.lt q hq).1)
      have Hnext := Lib.hid hnext
      have Hv2 := Lib.hid hv2
      have Hb2 := Lib.hid hb2
      have Hn2 : Hid (∀ q, (Value.slice (some ⟨g, 0, none⟩) M cp).ownBlock = some q → (Value.slice (some ⟨g', 0, none⟩) (j + 1) cap').ownBlock ≠ some q) := Lib.hid (fun q hq hq2 => by
        simp only [Value.ownBlock, Option.some.injEq] at hq hq2
        exact hgne (hq2.trans hq.symm))
      clear hnext hv2 hb2 hown' hgrow hat hlt' hgw hgne c0
      go_wp2_with fail
      go_roundw
      case rel => exact ⟨j + 1, by omega, by go_num, Hnext, Hv2, Hn2, Hb2⟩
      case measure => simp [intOf]; omega
    · obtain rfl : j = M := by omega
      have Hfin := Lib.hid (HP.out u3 wx (by have := Ho.out; rw [HM.out, List.take_length] at this; exact this) Hb.out)
      go_wp2_with fail
      exact Hfin.out
end Go.Proofs.Ytmdmbnpgdkmklaa
