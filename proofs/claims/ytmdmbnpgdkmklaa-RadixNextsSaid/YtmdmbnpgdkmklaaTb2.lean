/- RadixNexts, the law's own walk. -/
import Derived.Test.YtmdmbnpgdkmklaaTb1
import Derived.Test.YtmdmbnpgdkmklaaRs11
import Derived.Test.YtmdmbnpgdkmklaaRm3
import Derived.Test.YtmdmbnpgdkmklaaRm9
namespace Go.Proofs.Ytmdmbnpgdkmklaa
open Go.RowKit
set_option linter.unusedVariables false
set_option linter.unusedSimpArgs false

theorem ix_cell {w : World} {base g cap : Nat} {l : List En} (h : w.ownsRow base 3 1 (.slice (some ⟨g, 0, none⟩) l.length cap) l.length (ixCells l)) (j : Nat) (hj : j < l.length) :
    w.cell? ⟨g, j, none⟩ = some (.int .i64 (l[j].i : Int)) := by
  obtain ⟨_, ⟨h1, _⟩ | ⟨g', cap', cur, he, hb, hg, hlc, hcm, hcs, hx⟩⟩ := h
  · cases h1
  · simp only [Value.slice.injEq, Option.some.injEq, Addr.mk.injEq] at he
    obtain ⟨⟨rfl, _, _⟩, _, rfl⟩ := he
    rw [cell_of_row w g j cur 3 (0, 0) hg]
    have e : (cur.toList.take (l.length * 1))[j]? = (ixCells l)[j]? := by rw [hx]
    rw [List.getElem?_take_of_lt (by omega)] at e
    rw [Array.getElem?_toList] at e
    rw [e]
    unfold ixCells
    rw [List.getElem?_map, List.getElem?_eq_getElem hj]
    rfl

theorem ix_form {w : World} {base : Nat} {v : Value} {l : List En} {M : Nat} (hM : M = l.length) (h : w.ownsRow base 3 1 v l.length (ixCells l)) :
    ∃ p cp, v = .slice p M cp ∧ (∀ j, (hj : j < l.length) → ∃ g, p = some ⟨g, 0, none⟩ ∧ w.cell? ⟨g, j, none⟩ = some (.int .i64 (l[j].i : Int))) := by
  have h' := h
  rcases h.2 with ⟨h1, h0⟩ | ⟨g, cap, cur, h1, _⟩
  · exact ⟨none, 0, by rw [hM, h0]; exact h1, fun j hj => by omega⟩
  · subst h1
    exact ⟨_, _, by rw [hM], fun j hj => ⟨g, rfl, ix_cell h' j hj⟩⟩

/-- The cells of the box in the world behind a call. -/
def BoxC (W : World) (B : Nat) (cs : Array Value) : Prop := W.heap[B]? = some (.cells cs 28 (0, 0))

set_option maxRecDepth 100000 in
set_option maxHeartbeats 8000000 in
theorem law11_spec {w : World} {r : Rx} {c : Array Value} {from_ tag : Int} (h : IsR w r c) (hf : inI64 from_) (ht : inI64 tag) :
    Calls Try.prog 11 #[.agg c, .int .i64 from_, .int .i64 tag] w fun e w' => e = .returned (.bool true) ∧ Below w.heap.size w w' := by
  obtain ⟨post, hpost⟩ : ∃ post : Ending → World → Prop, post = fun e w' => e = .returned (.bool true) ∧ Below w.heap.size w w' := ⟨_, rfl⟩
  have HP : Hid (∀ W', Below w.heap.size w W' → post (.returned (.bool true)) W') := Lib.hid (by rw [hpost]; exact fun W' a => ⟨rfl, a⟩)
  rw [← hpost]
  have hfine := h.fine
  have hfw := fun (W : World) (k : Keeps w W) => Few_spec (h.keeps k)
  have hnx := fun (W : World) (k : Keeps w W) => Next_spec (h.keeps k) from_ tag hf ht
  have hrn := fun (W : World) (k : Keeps w W) => RNext_all (h.keeps k) hfine hf ht
  have hct := fun (W : World) (k : Keeps w W) => Count_spec (h.keeps k) tag ht
  have hrt := fun (W : World) (k : Keeps w W) => RCount_spec (h.keeps k) ht
  have hls := fun (W : World) (k : Keeps w W) => List_spec (h.keeps k)
  have hrl := fun (W : World) (k : Keeps w W) => RList_spec (h.keeps k)
  have hlen := all_length r
  obtain ⟨hh, nc, rfl, hn0⟩ := h
  obtain ⟨x0, x1, x2, x3, x4, x5, x6, x7, xp, xl, xc, rfl⟩ := hn0.lit
  simp only [List.append_toArray, List.cons_append, List.nil_append] at hfw hnx hrn hct hrt hls hrl ⊢
  obtain ⟨l, hl⟩ : ∃ l, l = r.all := ⟨_, rfl⟩
  rw [← hl] at hls hrl hlen
  obtain ⟨N, hN⟩ : ∃ N, N = r.next from_ tag := ⟨_, rfl⟩
  rw [← hN] at hnx hrn
  obtain ⟨C, hC⟩ : ∃ C, C = r.count tag := ⟨_, rfl⟩
  rw [← hC] at hct hrt
  obtain ⟨fw, hfe⟩ : ∃ fw, fw = r.root.few := ⟨_, rfl⟩
  rw [← hfe] at hfw
  obtain ⟨M, hM⟩ : ∃ M, M = l.length := ⟨_, rfl⟩
  have hM30 : M ≤ 1073741824 := by omega
  have Hfw := Lib.hid hfw
  have Hnx := Lib.hid hnx
  have Hrn := Lib.hid hrn
  have Hct := Lib.hid hct
  have Hrt := Lib.hid hrt
  have Hls := Lib.hid hls
  have Hrl := Lib.hid hrl
  have HM := Lib.hid hM
  clear hfw hnx hrn hct hrt hls hrl hfe hn0 hh hpost hfine hlen hl hN hC hM hf ht
  have hg := heap_alloc_new w (.cells #[.int .i64 r.h, .int .i64 x0, .int .i64 x1, .int .i64 x2, .int .i64 x3, .int .i64 x4, .int .i64 x5, .int .i64 x6, .int .i64 x7, .int .i64 r.root.t0, .int .i64 r.root.t1, .slice xp xl xc] 28)
  have hk : Keeps w (w.alloc (.cells #[.int .i64 r.h, .int .i64 x0, .int .i64 x1, .int .i64 x2, .int .i64 x3, .int .i64 x4, .int .i64 x5, .int .i64 x6, .int .i64 x7, .int .i64 r.root.t0, .int .i64 r.root.t1, .slice xp xl xc] 28)) := Keeps.alloc _ _
  have hb : Below w.heap.size w (w.alloc (.cells #[.int .i64 r.h, .int .i64 x0, .int .i64 x1, .int .i64 x2, .int .i64 x3, .int .i64 x4, .int .i64 x5, .int .i64 x6, .int .i64 x7, .int .i64 r.root.t0, .int .i64 r.root.t1, .slice xp xl xc] 28)) := (Below.refl _ _).alloc (Nat.le_refl _) _
  go_enter Try.func11, Try.ntmps11
  go_wp2_with fail
  obtain ⟨B, hB⟩ : ∃ B, B = w.heap.size := ⟨_, rfl⟩
  rw [← hB] at hg ⊢
  have Hb := Lib.hid hb
  have Hk := Lib.hid hk
  clear hb hk hB
  generalize w.alloc (.cells #[.int .i64 r.h, .int .i64 x0, .int .i64 x1, .int .i64 x2, .int .i64 x3, .int .i64 x4, .int .i64 x5, .int .i64 x6, .int .i64 x7, .int .i64 r.root.t0, .int .i64 r.root.t1, .slice xp xl xc] 28) = wa at hg Hb Hk ⊢
  have hca := fun q => cell_of_row wa B q _ _ _ hg
  have hd0 : wa.cell? ⟨B, 0, none⟩ = some (.int .i64 r.h) := hca 0
  have hd1 : wa.cell? ⟨B, 1, none⟩ = some (.int .i64 x0) := hca 1
  have hd2 : wa.cell? ⟨B, 2, none⟩ = some (.int .i64 x1) := hca 2
  have hd3 : wa.cell? ⟨B, 3, none⟩ = some (.int .i64 x2) := hca 3
  have hd4 : wa.cell? ⟨B, 4, none⟩ = some (.int .i64 x3) := hca 4
  have hd5 : wa.cell? ⟨B, 5, none⟩ = some (.int .i64 x4) := hca 5
  have hd6 : wa.cell? ⟨B, 6, none⟩ = some (.int .i64 x5) := hca 6
  have hd7 : wa.cell? ⟨B, 7, none⟩ = some (.int .i64 x6) := hca 7
  have hd8 : wa.cell? ⟨B, 8, none⟩ = some (.int .i64 x7) := hca 8
  have hd9 : wa.cell? ⟨B, 9, none⟩ = some (.int .i64 r.root.t0) := hca 9
  have hd10 : wa.cell? ⟨B, 10, none⟩ = some (.int .i64 r.root.t1) := hca 10
  have hd11 : wa.cell? ⟨B, 11, none⟩ = some (.slice xp xl xc) := hca 11
  have Hg := Lib.hid hg
  clear hca hg
  (with_reducible refine (awake_spec wa).mono ?_)
  rintro e wb ⟨rfl, hBb⟩
  have hg := (hBb.block B (Array.getElem?_eq_some_iff.1 Hg.out).1).trans Hg.out
  have hk := Hk.out.trans (Keeps.of_below hBb)
  have hb := Hb.out.trans (hBb.mono Hb.out.size)
  clear hBb Hg Hk Hb hd0 hd1 hd2 hd3 hd4 hd5 hd6 hd7 hd8 hd9 hd10 hd11
  have hca := fun q => cell_of_row wb B q _ _ _ hg
  have hd0 : wb.cell? ⟨B, 0, none⟩ = some (.int .i64 r.h) := hca 0
  have hd1 : wb.cell? ⟨B, 1, none⟩ = some (.int .i64 x0) := hca 1
  have hd2 : wb.cell? ⟨B, 2, none⟩ = some (.int .i64 x1) := hca 2
  have hd3 : wb.cell? ⟨B, 3, none⟩ = some (.int .i64 x2) := hca 3
  have hd4 : wb.cell? ⟨B, 4, none⟩ = some (.int .i64 x3) := hca 4
  have hd5 : wb.cell? ⟨B, 5, none⟩ = some (.int .i64 x4) := hca 5
  have hd6 : wb.cell? ⟨B, 6, none⟩ = some (.int .i64 x5) := hca 6
  have hd7 : wb.cell? ⟨B, 7, none⟩ = some (.int .i64 x6) := hca 7
  have hd8 : wb.cell? ⟨B, 8, none⟩ = some (.int .i64 x7) := hca 8
  have hd9 : wb.cell? ⟨B, 9, none⟩ = some (.int .i64 r.root.t0) := hca 9
  have hd10 : wb.cell? ⟨B, 10, none⟩ = some (.int .i64 r.root.t1) := hca 10
  have hd11 : wb.cell? ⟨B, 11, none⟩ = some (.slice xp xl xc) := hca 11
  have Hg := Lib.hid hg
  have Hk := Lib.hid hk
  have Hb := Lib.hid hb
  clear hca hg hk hb
  go_wp2_with fail
  (with_reducible refine (Hfw.out wb Hk.out).mono ?_)
  rintro e wc ⟨rfl, hBb⟩
  have hg := (hBb.block B (Array.getElem?_eq_some_iff.1 Hg.out).1).trans Hg.out
  have hk := Hk.out.trans (Keeps.of_below hBb)
  have hb := Hb.out.trans (hBb.mono Hb.out.size)
  clear hBb Hg Hk Hb hd0 hd1 hd2 hd3 hd4 hd5 hd6 hd7 hd8 hd9 hd10 hd11
  have hca := fun q => cell_of_row wc B q _ _ _ hg
  have hd0 : wc.cell? ⟨B, 0, none⟩ = some (.int .i64 r.h) := hca 0
  have hd1 : wc.cell? ⟨B, 1, none⟩ = some (.int .i64 x0) := hca 1
  have hd2 : wc.cell? ⟨B, 2, none⟩ = some (.int .i64 x1) := hca 2
  have hd3 : wc.cell? ⟨B, 3, none⟩ = some (.int .i64 x2) := hca 3
  have hd4 : wc.cell? ⟨B, 4, none⟩ = some (.int .i64 x3) := hca 4
  have hd5 : wc.cell? ⟨B, 5, none⟩ = some (.int .i64 x4) := hca 5
  have hd6 : wc.cell? ⟨B, 6, none⟩ = some (.int .i64 x5) := hca 6
  have hd7 : wc.cell? ⟨B, 7, none⟩ = some (.int .i64 x6) := hca 7
  have hd8 : wc.cell? ⟨B, 8, none⟩ = some (.int .i64 x7) := hca 8
  have hd9 : wc.cell? ⟨B, 9, none⟩ = some (.int .i64 r.root.t0) := hca 9
  have hd10 : wc.cell? ⟨B, 10, none⟩ = some (.int .i64 r.root.t1) := hca 10
  have hd11 : wc.cell? ⟨B, 11, none⟩ = some (.slice xp xl xc) := hca 11
  have Hg := Lib.hid hg
  have Hk := Lib.hid hk
  have Hb := Lib.hid hb
  clear hca hg hk hb
  cases fw with
  | false =>
    go_wp2_with fail
    (with_reducible refine (awake_spec wc).mono ?_)
    rintro e wd ⟨rfl, hBd⟩
    have Hfin := Lib.hid (HP.out wd (Hb.out.trans (hBd.mono Hb.out.size)))
    clear hBd
    go_wp2_with fail
    exact Hfin.out
  | true =>
    obtain ⟨ι, F, hF, hG⟩ := world_class wc
    obtain ⟨i0, hi0⟩ := hG wc.drew (Below.refl _ _).drew
    have hk0 := fun i => (Keeps.of_below (hF i)) _ _ hd0
    have hk1 := fun i => (Keeps.of_below (hF i)) _ _ hd1
    have hk2 := fun i => (Keeps.of_below (hF i)) _ _ hd2
    have hk3 := fun i => (Keeps.of_below (hF i)) _ _ hd3
    have hk4 := fun i => (Keeps.of_below (hF i)) _ _ hd4
    have hk5 := fun i => (Keeps.of_below (hF i)) _ _ hd5
    have hk6 := fun i => (Keeps.of_below (hF i)) _ _ hd6
    have hk7 := fun i => (Keeps.of_below (hF i)) _ _ hd7
    have hk8 := fun i => (Keeps.of_below (hF i)) _ _ hd8
    have hk9 := fun i => (Keeps.of_below (hF i)) _ _ hd9
    have hk10 := fun i => (Keeps.of_below (hF i)) _ _ hd10
    have hk11 := fun i => (Keeps.of_below (hF i)) _ _ hd11
    have HF := Lib.hid hF
    have HG := Lib.hid hG
    have HFK := Lib.hid (fun i => Hk.out.trans (Keeps.of_below (hF i)))
    clear hF hG
    go_wp2_with fail
    refine wp_region_class F (by kernel_rfl) ⟨i0, hi0⟩ ?_
    clear hd0 hd1 hd2 hd3 hd4 hd5 hd6 hd7 hd8 hd9 hd10 hd11
    repeat (go_big_quiet_step ((first
      | (go_at_call 33; exact Calls.class_of HF HG (Hnx.out _ (HFK.out _)))
      | (go_at_call 41; exact Calls.class_of HF HG (Hrn.out _ (HFK.out _)))
      | (go_at_call 35; exact Calls.class_of HF HG (Hct.out _ (HFK.out _)))
      | (go_at_call 42; exact Calls.class_of HF HG (Hrt.out _ (HFK.out _)))
      | with_reducible rfl)))
    refine wpQuiet_nil ?_
    rintro wd ⟨i3, rfl⟩
    have hBb := HF.out i3
    clear hk0 hk1 hk2 hk3 hk4 hk5 hk6 hk7 hk8 hk9 hk10 hk11
    have hg := (hBb.block B (Array.getElem?_eq_some_iff.1 Hg.out).1).trans Hg.out
    have hk := Hk.out.trans (Keeps.of_below hBb)
    have hb := Hb.out.trans (hBb.mono Hb.out.size)
    clear hBb Hg Hk Hb
    have hca := fun q => cell_of_row (F i3) B q _ _ _ hg
    have hd0 : (F i3).cell? ⟨B, 0, none⟩ = some (.int .i64 r.h) := hca 0
    have hd1 : (F i3).cell? ⟨B, 1, none⟩ = some (.int .i64 x0) := hca 1
    have hd2 : (F i3).cell? ⟨B, 2, none⟩ = some (.int .i64 x1) := hca 2
    have hd3 : (F i3).cell? ⟨B, 3, none⟩ = some (.int .i64 x2) := hca 3
    have hd4 : (F i3).cell? ⟨B, 4, none⟩ = some (.int .i64 x3) := hca 4
    have hd5 : (F i3).cell? ⟨B, 5, none⟩ = some (.int .i64 x4) := hca 5
    have hd6 : (F i3).cell? ⟨B, 6, none⟩ = some (.int .i64 x5) := hca 6
    have hd7 : (F i3).cell? ⟨B, 7, none⟩ = some (.int .i64 x6) := hca 7
    have hd8 : (F i3).cell? ⟨B, 8, none⟩ = some (.int .i64 x7) := hca 8
    have hd9 : (F i3).cell? ⟨B, 9, none⟩ = some (.int .i64 r.root.t0) := hca 9
    have hd10 : (F i3).cell? ⟨B, 10, none⟩ = some (.int .i64 r.root.t1) := hca 10
    have hd11 : (F i3).cell? ⟨B, 11, none⟩ = some (.slice xp xl xc) := hca 11
    have Hg := Lib.hid hg
    have Hk := Lib.hid hk
    have Hb := Lib.hid hb
    clear hca hg hk hb
    clear HF HG HFK
    generalize F i3 = wd at *
    clear hi0
    go_wp2_with fail
    have HkD : Hid (Keeps w wd.drew) := Lib.hid (Hk.out.trans (Keeps.of_below (Below.refl _ _).drew))
    go_cut [7, 8] from 36 to 39 (fun s7 s8 wx => Hid (wx.ownsRow wd.heap.size 3 1 s7 l.length (ixCells l)) ∧ Hid (wx.ownsRow wd.heap.size 3 1 s8 l.length (ixCells l)) ∧ Hid (Below wd.heap.size wd wx))
    case first =>
      go_region_law (first
        | (go_simp; go_at_call 43
           (with_reducible refine (Hls.out wd.drew HkD.out).mono ?_)
           rintro e w5 ⟨v5, rfl, ho5, hB5⟩
           have hB5' : Below wd.heap.size wd w5 := (Below.refl _ _).drew.trans hB5
           have hg5 := (hB5'.block B (Array.getElem?_eq_some_iff.1 Hg.out).1).trans Hg.out
           have Hk5 := Lib.hid (Hk.out.trans (Keeps.of_below hB5'))
           have hca := fun q => cell_of_row w5 B q _ _ _ hg5
           have he0 : w5.cell? ⟨B, 0, none⟩ = some (.int .i64 r.h) := hca 0
           have he1 : w5.cell? ⟨B, 1, none⟩ = some (.int .i64 x0) := hca 1
           have he2 : w5.cell? ⟨B, 2, none⟩ = some (.int .i64 x1) := hca 2
           have he3 : w5.cell? ⟨B, 3, none⟩ = some (.int .i64 x2) := hca 3
           have he4 : w5.cell? ⟨B, 4, none⟩ = some (.int .i64 x3) := hca 4
           have he5 : w5.cell? ⟨B, 5, none⟩ = some (.int .i64 x4) := hca 5
           have he6 : w5.cell? ⟨B, 6, none⟩ = some (.int .i64 x5) := hca 6
           have he7 : w5.cell? ⟨B, 7, none⟩ = some (.int .i64 x6) := hca 7
           have he8 : w5.cell? ⟨B, 8, none⟩ = some (.int .i64 x7) := hca 8
           have he9 : w5.cell? ⟨B, 9, none⟩ = some (.int .i64 r.root.t0) := hca 9
           have he10 : w5.cell? ⟨B, 10, none⟩ = some (.int .i64 r.root.t1) := hca 10
           have he11 : w5.cell? ⟨B, 11, none⟩ = some (.slice xp xl xc) := hca 11
           have Ho5 := Lib.hid ho5
           have HB5 := Lib.hid hB5'
           clear hca hg5 ho5 hB5 hB5')
        | (go_simp; go_at_call 44
           (with_reducible refine (Hrl.out wd.drew HkD.out).mono ?_)
           rintro e w6 ⟨v6, rfl, ho6, hB6⟩
           have hB6' : Below wd.heap.size wd w6 := (Below.refl _ _).drew.trans hB6
           have hg6 := (hB6'.block B (Array.getElem?_eq_some_iff.1 Hg.out).1).trans Hg.out
           have Hk6 := Lib.hid (Hk.out.trans (Keeps.of_below hB6'))
           have hca := fun q => cell_of_row w6 B q _ _ _ hg6
           have he0 : w6.cell? ⟨B, 0, none⟩ = some (.int .i64 r.h) := hca 0
           have he1 : w6.cell? ⟨B, 1, none⟩ = some (.int .i64 x0) := hca 1
           have he2 : w6.cell? ⟨B, 2, none⟩ = some (.int .i64 x1) := hca 2
           have he3 : w6.cell? ⟨B, 3, none⟩ = some (.int .i64 x2) := hca 3
           have he4 : w6.cell? ⟨B, 4, none⟩ = some (.int .i64 x3) := hca 4
           have he5 : w6.cell? ⟨B, 5, none⟩ = some (.int .i64 x4) := hca 5
           have he6 : w6.cell? ⟨B, 6, none⟩ = some (.int .i64 x5) := hca 6
           have he7 : w6.cell? ⟨B, 7, none⟩ = some (.int .i64 x6) := hca 7
           have he8 : w6.cell? ⟨B, 8, none⟩ = some (.int .i64 x7) := hca 8
           have he9 : w6.cell? ⟨B, 9, none⟩ = some (.int .i64 r.root.t0) := hca 9
           have he10 : w6.cell? ⟨B, 10, none⟩ = some (.int .i64 r.root.t1) := hca 10
           have he11 : w6.cell? ⟨B, 11, none⟩ = some (.slice xp xl xc) := hca 11
           have Ho6 := Lib.hid ho6
           have HB6 := Lib.hid hB6'
           clear hca hg6 ho6 hB6 hB6')
        | (go_simp; go_at_call 44
           (with_reducible refine (Hrl.out w5 Hk5.out).mono ?_)
           rintro e w7 ⟨v7, rfl, ho7, hB7⟩
           have HR1 := Lib.hid (ownsRow_below Ho5.out hB7)
           have HR2 := Lib.hid (ownsRow_mono ho7 (show wd.heap.size ≤ w5.heap.size from HB5.out.size))
           have HR3 := Lib.hid (HB5.out.trans (hB7.mono HB5.out.size))
           clear ho7 hB7)
        | (go_simp; go_at_call 43
           (with_reducible refine (Hls.out w6 Hk6.out).mono ?_)
           rintro e w7 ⟨v7, rfl, ho7, hB7⟩
           have HR2 := Lib.hid (ownsRow_below Ho6.out hB7)
           have HR1 := Lib.hid (ownsRow_mono ho7 (show wd.heap.size ≤ w6.heap.size from HB6.out.size))
           have HR3 := Lib.hid (HB6.out.trans (hB7.mono HB6.out.size))
           clear ho7 hB7))
      all_goals
        go_wp2_with fail
        go_meet
        case rel => exact ⟨HR1, HR2, HR3⟩
    case rest =>
      obtain ⟨H7, H8, HB7⟩ := hcut
      rename_i s7 s8
      obtain ⟨p7, c7, rfl, h7⟩ := ix_form HM.out H7.out
      obtain ⟨p8, c8, rfl, h8⟩ := ix_form HM.out H8.out
      have hb := Hb.out.trans (HB7.out.mono Hb.out.size)
      have Hb2 := Lib.hid hb
      have h7' := Lib.hid h7
      have h8' := Lib.hid h8
      clear H7 H8 HB7 h7 h8 hb Hb Hk Hg HkD hd0 hd1 hd2 hd3 hd4 hd5 hd6 hd7 hd8 hd9 hd10 hd11
      go_wp2_with fail
      go_loopw [9, 47] (fun _ iv wr => ∃ k : Nat, k ≤ M ∧ iv = .int .i64 k ∧ Hid (Keeps wc wr) ∧ Hid (Below w.heap.size w wr)) (fun _ iv _ => M - (intOf iv).toNat)
      case atStart => exact ⟨0, by omega, rfl, Lib.hid (Keeps.refl _), Hb2⟩
      case round =>
        obtain ⟨k, hk, rfl, Hkw, Hbw⟩ := hrel
        by_cases hlt : k < M
        · have hkl : k < l.length := by rw [← HM.out]; exact hlt
          obtain ⟨g7, rfl, e7⟩ := h7'.out k hkl
          obtain ⟨g8, rfl, e8⟩ := h8'.out k hkl
          obtain ⟨z, hz⟩ : ∃ z : Nat, z = l[k].i := ⟨_, rfl⟩
          rw [← hz] at e7 e8
          replace e7 := Hkw.out _ _ e7
          replace e8 := Hkw.out _ _ e8
          clear hz hkl
          have hkM : (k : Int) < (M : Int) := by omega
          go_wp2_with fail
          go_quiet (fail)
          go_wp2_with fail
          go_roundw
          case rel => exact ⟨k + 1, by omega, by go_num, Lib.hid (Hkw.out.trans (Keeps.of_below (below_drewN (Below.refl _ _) _))), Lib.hid (below_drewN Hbw.out _)⟩
          case measure => simp [intOf]; omega
        · obtain rfl : k = M := by omega
          have Hfin := Lib.hid (HP.out _ Hbw.out)
          go_wp2_with fail
          exact Hfin.out
end Go.Proofs.Ytmdmbnpgdkmklaa
