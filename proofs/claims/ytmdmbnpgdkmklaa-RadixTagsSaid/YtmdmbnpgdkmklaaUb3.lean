/- RadixTags, the law's own walk. -/
import Derived.Test.YtmdmbnpgdkmklaaTc7
import Derived.Test.YtmdmbnpgdkmklaaRm9
import Derived.Test.YtmdmbnpgdkmklaaRm10
import Derived.Test.YtmdmbnpgdkmklaaRm5
import Derived.Test.YtmdmbnpgdkmklaaRn1
namespace Go.Proofs.Ytmdmbnpgdkmklaa
open Go.RowKit
set_option linter.unusedVariables false
set_option linter.unusedSimpArgs false

theorem OwnR.store {w : World} {B b : Nat} {r : Rx} {c : Array Value} (h : OwnR w B r c) (hb : b < B) (c' : Array Value) : IsR (w.setRow b c') r c := (h.put hb c').isR
theorem keeps_row {W w w' : World} {b : Nat} {c' : Array Value} (hW : Below W.heap.size W w) (hb : W.heap.size ≤ b) : Keeps W (w.setRow b c') := Keeps.of_below (Below.putRow hW hb _)

set_option maxRecDepth 100000 in
set_option maxHeartbeats 16000000 in
theorem law10_spec {w : World} {r : Rx} {c : Array Value} {i tag : Int} (h : IsR w r c) (hi : inI64 i) (hv : inI64 tag) :
    Calls Try.prog 10 #[.agg c, .int .i64 i, .int .i64 tag] w fun e w' => e = .returned (.bool true) ∧ Below w.heap.size w w' := by
  obtain ⟨post, hpost⟩ : ∃ post : Ending → World → Prop, post = fun e w' => e = .returned (.bool true) ∧ Below w.heap.size w w' := ⟨_, rfl⟩
  have HP : Hid (∀ W', Below w.heap.size w W' → post (.returned (.bool true)) W') := Lib.hid (by rw [hpost]; exact fun W' a => ⟨rfl, a⟩)
  rw [← hpost]
  have hfine := h.fine
  have hfw := fun (W : World) (k : Keeps w W) => Few_spec (h.keeps k)
  have hst := fun (W : World) (k : Keeps w W) => Tag_spec (h.keeps k) hi hv
  have hrs := fun (W : World) (k : Keeps w W) => RTag_spec (h.keeps k) hi hv
  have hut := fun (W : World) (k : Keeps w W) => Untag_spec (h.keeps k) hi hv
  have hru := fun (W : World) (k : Keeps w W) => RUntag_spec (h.keeps k) hi hv
  have htd := fun (W : World) (k : Keeps w W) => Tagged_spec (h.keeps k) hi hv
  have hrt := fun (W : World) (k : Keeps w W) => RTagged_spec (h.keeps k) hi hv
  rw [tagged_same hfine] at hrt
  obtain ⟨hh, nc, rfl, hn0⟩ := h
  obtain ⟨x0, x1, x2, x3, x4, x5, x6, x7, xp, xl, xc, rfl⟩ := hn0.lit
  simp only [List.append_toArray, List.cons_append, List.nil_append] at hfw hst hrs hut hru htd hrt ⊢
  obtain ⟨x, hx⟩ : ∃ x, x = r.mark i tag true := ⟨_, rfl⟩
  rw [← hx] at hst hrs
  obtain ⟨u, hu⟩ : ∃ u, u = r.mark i tag false := ⟨_, rfl⟩
  rw [← hu] at hut hru
  obtain ⟨T, hT⟩ : ∃ T, T = r.tagged i tag := ⟨_, rfl⟩
  rw [← hT] at htd hrt
  obtain ⟨fw, hfe⟩ : ∃ fw, fw = r.root.few := ⟨_, rfl⟩
  rw [← hfe] at hfw
  have Hfw := Lib.hid hfw
  have Hst := Lib.hid hst
  have Hrs := Lib.hid hrs
  have Hut := Lib.hid hut
  have Hru := Lib.hid hru
  have Htd := Lib.hid htd
  have Hrt := Lib.hid hrt
  clear hfw hst hrs hut hru htd hrt hfe hn0 hh hpost hfine hx hu hT hi hv
  have hg := heap_alloc_new w (.cells #[.int .i64 r.h, .int .i64 x0, .int .i64 x1, .int .i64 x2, .int .i64 x3, .int .i64 x4, .int .i64 x5, .int .i64 x6, .int .i64 x7, .int .i64 r.root.t0, .int .i64 r.root.t1, .slice xp xl xc] 28)
  have hk : Keeps w (w.alloc (.cells #[.int .i64 r.h, .int .i64 x0, .int .i64 x1, .int .i64 x2, .int .i64 x3, .int .i64 x4, .int .i64 x5, .int .i64 x6, .int .i64 x7, .int .i64 r.root.t0, .int .i64 r.root.t1, .slice xp xl xc] 28)) := Keeps.alloc _ _
  have hb : Below w.heap.size w (w.alloc (.cells #[.int .i64 r.h, .int .i64 x0, .int .i64 x1, .int .i64 x2, .int .i64 x3, .int .i64 x4, .int .i64 x5, .int .i64 x6, .int .i64 x7, .int .i64 r.root.t0, .int .i64 r.root.t1, .slice xp xl xc] 28)) := (Below.refl _ _).alloc (Nat.le_refl _) _
  go_enter Try.func10, Try.ntmps10
  go_wp2_with fail
  obtain ⟨B, hB⟩ : ∃ B, B = w.heap.size := ⟨_, rfl⟩
  rw [← hB] at hg ⊢
  have Hb := Lib.hid hb
  have Hk := Lib.hid hk
  clear hb hk hB
  generalize w.alloc (.cells #[.int .i64 r.h, .int .i64 x0, .int .i64 x1, .int .i64 x2, .int .i64 x3, .int .i64 x4, .int .i64 x5, .int .i64 x6, .int .i64 x7, .int .i64 r.root.t0, .int .i64 r.root.t1, .slice xp xl xc] 28) = wa at hg Hb Hk ⊢
  have hca := fun q => cell_of_row wa B q _ _ _ hg
  have hd0 : wa.cell? ⟨B, 0, none⟩ = some (.int .i64 r.h) := hca 0
  have hd1 : wa.cell? ⟨B, 1, none⟩ = some (.int .i64 x0) := hca 1
  have hd2 : wa.cell? ⟨B, 2, none⟩ = some (.int .i64 x1) := hca 2
  have hd3 : wa.cell? ⟨B, 3, none⟩ = some (.int .i64 x2) := hca 3
  have hd4 : wa.cell? ⟨B, 4, none⟩ = some (.int .i64 x3) := hca 4
  have hd5 : wa.cell? ⟨B, 5, none⟩ = some (.int .i64 x4) := hca 5
  have hd6 : wa.cell? ⟨B, 6, none⟩ = some (.int .i64 x5) := hca 6
  have hd7 : wa.cell? ⟨B, 7, none⟩ = some (.int .i64 x6) := hca 7
  have hd8 : wa.cell? ⟨B, 8, none⟩ = some (.int .i64 x7) := hca 8
  have hd9 : wa.cell? ⟨B, 9, none⟩ = some (.int .i64 r.root.t0) := hca 9
  have hd10 : wa.cell? ⟨B, 10, none⟩ = some (.int .i64 r.root.t1) := hca 10
  have hd11 : wa.cell? ⟨B, 11, none⟩ = some (.slice xp xl xc) := hca 11
  have Hg := Lib.hid hg
  clear hca hg
  (with_reducible refine (awake_spec wa).mono ?_)
  rintro e wb ⟨rfl, hBb⟩
  have hg := (hBb.block B (Array.getElem?_eq_some_iff.1 Hg.out).1).trans Hg.out
  have hk := Hk.out.trans (Keeps.of_below hBb)
  have hb := Hb.out.trans (hBb.mono Hb.out.size)
  clear hBb Hg Hk Hb hd0 hd1 hd2 hd3 hd4 hd5 hd6 hd7 hd8 hd9 hd10 hd11
  have hca := fun q => cell_of_row wb B q _ _ _ hg
  have hd0 : wb.cell? ⟨B, 0, none⟩ = some (.int .i64 r.h) := hca 0
  have hd1 : wb.cell? ⟨B, 1, none⟩ = some (.int .i64 x0) := hca 1
  have hd2 : wb.cell? ⟨B, 2, none⟩ = some (.int .i64 x1) := hca 2
  have hd3 : wb.cell? ⟨B, 3, none⟩ = some (.int .i64 x2) := hca 3
  have hd4 : wb.cell? ⟨B, 4, none⟩ = some (.int .i64 x3) := hca 4
  have hd5 : wb.cell? ⟨B, 5, none⟩ = some (.int .i64 x4) := hca 5
  have hd6 : wb.cell? ⟨B, 6, none⟩ = some (.int .i64 x5) := hca 6
  have hd7 : wb.cell? ⟨B, 7, none⟩ = some (.int .i64 x6) := hca 7
  have hd8 : wb.cell? ⟨B, 8, none⟩ = some (.int .i64 x7) := hca 8
  have hd9 : wb.cell? ⟨B, 9, none⟩ = some (.int .i64 r.root.t0) := hca 9
  have hd10 : wb.cell? ⟨B, 10, none⟩ = some (.int .i64 r.root.t1) := hca 10
  have hd11 : wb.cell? ⟨B, 11, none⟩ = some (.slice xp xl xc) := hca 11
  have Hg := Lib.hid hg
  have Hk := Lib.hid hk
  have Hb := Lib.hid hb
  clear hca hg hk hb
  go_wp2_with fail
  (with_reducible refine (Hfw.out wb Hk.out).mono ?_)
  rintro e wc ⟨rfl, hBb⟩
  have hg := (hBb.block B (Array.getElem?_eq_some_iff.1 Hg.out).1).trans Hg.out
  have hk := Hk.out.trans (Keeps.of_below hBb)
  have hb := Hb.out.trans (hBb.mono Hb.out.size)
  clear hBb Hg Hk Hb hd0 hd1 hd2 hd3 hd4 hd5 hd6 hd7 hd8 hd9 hd10 hd11
  have hca := fun q => cell_of_row wc B q _ _ _ hg
  have hd0 : wc.cell? ⟨B, 0, none⟩ = some (.int .i64 r.h) := hca 0
  have hd1 : wc.cell? ⟨B, 1, none⟩ = some (.int .i64 x0) := hca 1
  have hd2 : wc.cell? ⟨B, 2, none⟩ = some (.int .i64 x1) := hca 2
  have hd3 : wc.cell? ⟨B, 3, none⟩ = some (.int .i64 x2) := hca 3
  have hd4 : wc.cell? ⟨B, 4, none⟩ = some (.int .i64 x3) := hca 4
  have hd5 : wc.cell? ⟨B, 5, none⟩ = some (.int .i64 x4) := hca 5
  have hd6 : wc.cell? ⟨B, 6, none⟩ = some (.int .i64 x5) := hca 6
  have hd7 : wc.cell? ⟨B, 7, none⟩ = some (.int .i64 x6) := hca 7
  have hd8 : wc.cell? ⟨B, 8, none⟩ = some (.int .i64 x7) := hca 8
  have hd9 : wc.cell? ⟨B, 9, none⟩ = some (.int .i64 r.root.t0) := hca 9
  have hd10 : wc.cell? ⟨B, 10, none⟩ = some (.int .i64 r.root.t1) := hca 10
  have hd11 : wc.cell? ⟨B, 11, none⟩ = some (.slice xp xl xc) := hca 11
  have Hg := Lib.hid hg
  have Hk := Lib.hid hk
  have Hb := Lib.hid hb
  clear hca hg hk hb
  cases fw with
  | false =>
    go_wp2_with fail
    (with_reducible refine (awake_spec wc).mono ?_)
    rintro e wd ⟨rfl, hBd⟩
    have Hfin := Lib.hid (HP.out wd (Hb.out.trans (hBd.mono Hb.out.size)))
    clear hBd
    go_wp2_with fail
    exact Hfin.out
  | true =>
    go_wp2_with fail
    (with_reducible refine (Hst.out wc Hk.out).mono ?_)
    rintro e wd ⟨⟨cy, rfl, hO⟩, hBb⟩
    obtain ⟨y0, y1, y2, y3, y4, y5, y6, y7, yp, yl, yc, rfl⟩ := hO.lit
    have hO1 := hO
    clear hO
    have hg := (hBb.block B (Array.getElem?_eq_some_iff.1 Hg.out).1).trans Hg.out
    have hk := Hk.out.trans (Keeps.of_below hBb)
    have hb := Hb.out.trans (hBb.mono Hb.out.size)
    clear hBb Hg Hk Hb hd0 hd1 hd2 hd3 hd4 hd5 hd6 hd7 hd8 hd9 hd10 hd11
    have hca := fun q => cell_of_row wd B q _ _ _ hg
    have hd0 : wd.cell? ⟨B, 0, none⟩ = some (.int .i64 r.h) := hca 0
    have hd1 : wd.cell? ⟨B, 1, none⟩ = some (.int .i64 x0) := hca 1
    have hd2 : wd.cell? ⟨B, 2, none⟩ = some (.int .i64 x1) := hca 2
    have hd3 : wd.cell? ⟨B, 3, none⟩ = some (.int .i64 x2) := hca 3
    have hd4 : wd.cell? ⟨B, 4, none⟩ = some (.int .i64 x3) := hca 4
    have hd5 : wd.cell? ⟨B, 5, none⟩ = some (.int .i64 x4) := hca 5
    have hd6 : wd.cell? ⟨B, 6, none⟩ = some (.int .i64 x5) := hca 6
    have hd7 : wd.cell? ⟨B, 7, none⟩ = some (.int .i64 x6) := hca 7
    have hd8 : wd.cell? ⟨B, 8, none⟩ = some (.int .i64 x7) := hca 8
    have hd9 : wd.cell? ⟨B, 9, none⟩ = some (.int .i64 r.root.t0) := hca 9
    have hd10 : wd.cell? ⟨B, 10, none⟩ = some (.int .i64 r.root.t1) := hca 10
    have hd11 : wd.cell? ⟨B, 11, none⟩ = some (.slice xp xl xc) := hca 11
    have Hg := Lib.hid hg
    have Hk := Lib.hid hk
    have Hb := Lib.hid hb
    clear hca hg hk hb
    have hgy := heap_alloc_new wd (.cells #[.int .i64 x.1.h, .int .i64 y0, .int .i64 y1, .int .i64 y2, .int .i64 y3, .int .i64 y4, .int .i64 y5, .int .i64 y6, .int .i64 y7, .int .i64 x.1.root.t0, .int .i64 x.1.root.t1, .slice yp yl yc] 28)
    have hBb : Below wd.heap.size wd (wd.alloc (.cells #[.int .i64 x.1.h, .int .i64 y0, .int .i64 y1, .int .i64 y2, .int .i64 y3, .int .i64 y4, .int .i64 y5, .int .i64 y6, .int .i64 y7, .int .i64 x.1.root.t0, .int .i64 x.1.root.t1, .slice yp yl yc] 28)) := (Below.refl _ _).alloc (Nat.le_refl _) _
    have hRy : IsR (wd.alloc (.cells #[.int .i64 x.1.h, .int .i64 y0, .int .i64 y1, .int .i64 y2, .int .i64 y3, .int .i64 y4, .int .i64 y5, .int .i64 y6, .int .i64 y7, .int .i64 x.1.root.t0, .int .i64 x.1.root.t1, .slice yp yl yc] 28)) x.1 #[.int .i64 x.1.h, .int .i64 y0, .int .i64 y1, .int .i64 y2, .int .i64 y3, .int .i64 y4, .int .i64 y5, .int .i64 y6, .int .i64 y7, .int .i64 x.1.root.t0, .int .i64 x.1.root.t1, .slice yp yl yc] := hO1.isR.keeps (Keeps.alloc _ _)
    obtain ⟨Bs, hBs⟩ : ∃ Bs, Bs = wd.heap.size := ⟨_, rfl⟩
    have hBs0 : w.heap.size ≤ Bs := by rw [hBs]; exact Hb.out.size
    have hBBs : B < Bs := by rw [hBs]; exact (Array.getElem?_eq_some_iff.1 Hg.out).1
    rw [← hBs] at hgy
    go_upto_region 4 with fail
    rw [← hBs]
    generalize wd.alloc (.cells #[.int .i64 x.1.h, .int .i64 y0, .int .i64 y1, .int .i64 y2, .int .i64 y3, .int .i64 y4, .int .i64 y5, .int .i64 y6, .int .i64 y7, .int .i64 x.1.root.t0, .int .i64 x.1.root.t1, .slice yp yl yc] 28) = we at hgy hBb hRy ⊢
    have hg := (hBb.block B (Array.getElem?_eq_some_iff.1 Hg.out).1).trans Hg.out
    have hk := Hk.out.trans (Keeps.of_below hBb)
    have hb := Hb.out.trans (hBb.mono Hb.out.size)
    clear hBb Hg Hk Hb hd0 hd1 hd2 hd3 hd4 hd5 hd6 hd7 hd8 hd9 hd10 hd11
    have hca := fun q => cell_of_row we B q _ _ _ hg
    have hd0 : we.cell? ⟨B, 0, none⟩ = some (.int .i64 r.h) := hca 0
    have hd1 : we.cell? ⟨B, 1, none⟩ = some (.int .i64 x0) := hca 1
    have hd2 : we.cell? ⟨B, 2, none⟩ = some (.int .i64 x1) := hca 2
    have hd3 : we.cell? ⟨B, 3, none⟩ = some (.int .i64 x2) := hca 3
    have hd4 : we.cell? ⟨B, 4, none⟩ = some (.int .i64 x3) := hca 4
    have hd5 : we.cell? ⟨B, 5, none⟩ = some (.int .i64 x4) := hca 5
    have hd6 : we.cell? ⟨B, 6, none⟩ = some (.int .i64 x5) := hca 6
    have hd7 : we.cell? ⟨B, 7, none⟩ = some (.int .i64 x6) := hca 7
    have hd8 : we.cell? ⟨B, 8, none⟩ = some (.int .i64 x7) := hca 8
    have hd9 : we.cell? ⟨B, 9, none⟩ = some (.int .i64 r.root.t0) := hca 9
    have hd10 : we.cell? ⟨B, 10, none⟩ = some (.int .i64 r.root.t1) := hca 10
    have hd11 : we.cell? ⟨B, 11, none⟩ = some (.slice xp xl xc) := hca 11
    have Hg := Lib.hid hg
    have Hk := Lib.hid hk
    have Hb := Lib.hid hb
    clear hca hg hk hb
    have HRy := Lib.hid hRy
    have Hgy := Lib.hid hgy
    clear hO1 hRy hgy hBs
    go_wp2_with fail
    (with_reducible refine (Hrs.out we Hk.out).mono ?_)
    rintro e wf ⟨⟨cz, rfl, hO⟩, hBb⟩
    obtain ⟨z0, z1, z2, z3, z4, z5, z6, z7, zp, zl, zc, rfl⟩ := hO.lit
    have hRy := HRy.out.keeps (Keeps.of_below hBb)
    have hBsl : Bs < we.heap.size := (Array.getElem?_eq_some_iff.1 Hgy.out).1
    have hgy := (hBb.block Bs hBsl).trans Hgy.out
    have hBt1 : Bs < wf.heap.size := Nat.lt_of_lt_of_le hBsl hBb.size
    clear HRy Hgy hBsl
    have hg := (hBb.block B (Array.getElem?_eq_some_iff.1 Hg.out).1).trans Hg.out
    have hk := Hk.out.trans (Keeps.of_below hBb)
    have hb := Hb.out.trans (hBb.mono Hb.out.size)
    clear hBb Hg Hk Hb hd0 hd1 hd2 hd3 hd4 hd5 hd6 hd7 hd8 hd9 hd10 hd11
    have hca := fun q => cell_of_row wf B q _ _ _ hg
    have hd0 : wf.cell? ⟨B, 0, none⟩ = some (.int .i64 r.h) := hca 0
    have hd1 : wf.cell? ⟨B, 1, none⟩ = some (.int .i64 x0) := hca 1
    have hd2 : wf.cell? ⟨B, 2, none⟩ = some (.int .i64 x1) := hca 2
    have hd3 : wf.cell? ⟨B, 3, none⟩ = some (.int .i64 x2) := hca 3
    have hd4 : wf.cell? ⟨B, 4, none⟩ = some (.int .i64 x3) := hca 4
    have hd5 : wf.cell? ⟨B, 5, none⟩ = some (.int .i64 x4) := hca 5
    have hd6 : wf.cell? ⟨B, 6, none⟩ = some (.int .i64 x5) := hca 6
    have hd7 : wf.cell? ⟨B, 7, none⟩ = some (.int .i64 x6) := hca 7
    have hd8 : wf.cell? ⟨B, 8, none⟩ = some (.int .i64 x7) := hca 8
    have hd9 : wf.cell? ⟨B, 9, none⟩ = some (.int .i64 r.root.t0) := hca 9
    have hd10 : wf.cell? ⟨B, 10, none⟩ = some (.int .i64 r.root.t1) := hca 10
    have hd11 : wf.cell? ⟨B, 11, none⟩ = some (.slice xp xl xc) := hca 11
    have Hg := Lib.hid hg
    have Hk := Lib.hid hk
    have Hb := Lib.hid hb
    clear hca hg hk hb
    have hgz := heap_alloc_new wf (.cells #[.int .i64 x.1.h, .int .i64 z0, .int .i64 z1, .int .i64 z2, .int .i64 z3, .int .i64 z4, .int .i64 z5, .int .i64 z6, .int .i64 z7, .int .i64 x.1.root.t0, .int .i64 x.1.root.t1, .slice zp zl zc] 28)
    have hBb : Below wf.heap.size wf (wf.alloc (.cells #[.int .i64 x.1.h, .int .i64 z0, .int .i64 z1, .int .i64 z2, .int .i64 z3, .int .i64 z4, .int .i64 z5, .int .i64 z6, .int .i64 z7, .int .i64 x.1.root.t0, .int .i64 x.1.root.t1, .slice zp zl zc] 28)) := (Below.refl _ _).alloc (Nat.le_refl _) _
    have hRz : IsR (wf.alloc (.cells #[.int .i64 x.1.h, .int .i64 z0, .int .i64 z1, .int .i64 z2, .int .i64 z3, .int .i64 z4, .int .i64 z5, .int .i64 z6, .int .i64 z7, .int .i64 x.1.root.t0, .int .i64 x.1.root.t1, .slice zp zl zc] 28)) x.1 #[.int .i64 x.1.h, .int .i64 z0, .int .i64 z1, .int .i64 z2, .int .i64 z3, .int .i64 z4, .int .i64 z5, .int .i64 z6, .int .i64 z7, .int .i64 x.1.root.t0, .int .i64 x.1.root.t1, .slice zp zl zc] := hO.isR.keeps (Keeps.alloc _ _)
    have hRy2 := hRy.keeps (Keeps.alloc wf (.cells #[.int .i64 x.1.h, .int .i64 z0, .int .i64 z1, .int .i64 z2, .int .i64 z3, .int .i64 z4, .int .i64 z5, .int .i64 z6, .int .i64 z7, .int .i64 x.1.root.t0, .int .i64 x.1.root.t1, .slice zp zl zc] 28))
    have hgy2 := (hBb.block Bs hBt1).trans hgy
    obtain ⟨Bt, hBt⟩ : ∃ Bt, Bt = wf.heap.size := ⟨_, rfl⟩
    rw [← hBt] at hgz hBt1
    go_upto_region 5 with fail
    rw [← hBt]
    generalize wf.alloc (.cells #[.int .i64 x.1.h, .int .i64 z0, .int .i64 z1, .int .i64 z2, .int .i64 z3, .int .i64 z4, .int .i64 z5, .int .i64 z6, .int .i64 z7, .int .i64 x.1.root.t0, .int .i64 x.1.root.t1, .slice zp zl zc] 28) = wg at hgz hBb hRz hRy2 hgy2 ⊢
    have hg := (hBb.block B (Array.getElem?_eq_some_iff.1 Hg.out).1).trans Hg.out
    have hk := Hk.out.trans (Keeps.of_below hBb)
    have hb := Hb.out.trans (hBb.mono Hb.out.size)
    clear hBb Hg Hk Hb hd0 hd1 hd2 hd3 hd4 hd5 hd6 hd7 hd8 hd9 hd10 hd11
    have hca := fun q => cell_of_row wg B q _ _ _ hg
    have hd0 : wg.cell? ⟨B, 0, none⟩ = some (.int .i64 r.h) := hca 0
    have hd1 : wg.cell? ⟨B, 1, none⟩ = some (.int .i64 x0) := hca 1
    have hd2 : wg.cell? ⟨B, 2, none⟩ = some (.int .i64 x1) := hca 2
    have hd3 : wg.cell? ⟨B, 3, none⟩ = some (.int .i64 x2) := hca 3
    have hd4 : wg.cell? ⟨B, 4, none⟩ = some (.int .i64 x3) := hca 4
    have hd5 : wg.cell? ⟨B, 5, none⟩ = some (.int .i64 x4) := hca 5
    have hd6 : wg.cell? ⟨B, 6, none⟩ = some (.int .i64 x5) := hca 6
    have hd7 : wg.cell? ⟨B, 7, none⟩ = some (.int .i64 x6) := hca 7
    have hd8 : wg.cell? ⟨B, 8, none⟩ = some (.int .i64 x7) := hca 8
    have hd9 : wg.cell? ⟨B, 9, none⟩ = some (.int .i64 r.root.t0) := hca 9
    have hd10 : wg.cell? ⟨B, 10, none⟩ = some (.int .i64 r.root.t1) := hca 10
    have hd11 : wg.cell? ⟨B, 11, none⟩ = some (.slice xp xl xc) := hca 11
    have Hg := Lib.hid hg
    have Hk := Lib.hid hk
    have Hb := Lib.hid hb
    clear hca hg hk hb
    have hca := fun q => cell_of_row wg Bs q _ _ _ hgy2
    have hy0 : wg.cell? ⟨Bs, 0, none⟩ = some (.int .i64 x.1.h) := hca 0
    have hy1 : wg.cell? ⟨Bs, 1, none⟩ = some (.int .i64 y0) := hca 1
    have hy2 : wg.cell? ⟨Bs, 2, none⟩ = some (.int .i64 y1) := hca 2
    have hy3 : wg.cell? ⟨Bs, 3, none⟩ = some (.int .i64 y2) := hca 3
    have hy4 : wg.cell? ⟨Bs, 4, none⟩ = some (.int .i64 y3) := hca 4
    have hy5 : wg.cell? ⟨Bs, 5, none⟩ = some (.int .i64 y4) := hca 5
    have hy6 : wg.cell? ⟨Bs, 6, none⟩ = some (.int .i64 y5) := hca 6
    have hy7 : wg.cell? ⟨Bs, 7, none⟩ = some (.int .i64 y6) := hca 7
    have hy8 : wg.cell? ⟨Bs, 8, none⟩ = some (.int .i64 y7) := hca 8
    have hy9 : wg.cell? ⟨Bs, 9, none⟩ = some (.int .i64 x.1.root.t0) := hca 9
    have hy10 : wg.cell? ⟨Bs, 10, none⟩ = some (.int .i64 x.1.root.t1) := hca 10
    have hy11 : wg.cell? ⟨Bs, 11, none⟩ = some (.slice yp yl yc) := hca 11
    have hcb := fun q => cell_of_row wg Bt q _ _ _ hgz
    have hz0 : wg.cell? ⟨Bt, 0, none⟩ = some (.int .i64 x.1.h) := hcb 0
    have hz1 : wg.cell? ⟨Bt, 1, none⟩ = some (.int .i64 z0) := hcb 1
    have hz2 : wg.cell? ⟨Bt, 2, none⟩ = some (.int .i64 z1) := hcb 2
    have hz3 : wg.cell? ⟨Bt, 3, none⟩ = some (.int .i64 z2) := hcb 3
    have hz4 : wg.cell? ⟨Bt, 4, none⟩ = some (.int .i64 z3) := hcb 4
    have hz5 : wg.cell? ⟨Bt, 5, none⟩ = some (.int .i64 z4) := hcb 5
    have hz6 : wg.cell? ⟨Bt, 6, none⟩ = some (.int .i64 z5) := hcb 6
    have hz7 : wg.cell? ⟨Bt, 7, none⟩ = some (.int .i64 z6) := hcb 7
    have hz8 : wg.cell? ⟨Bt, 8, none⟩ = some (.int .i64 z7) := hcb 8
    have hz9 : wg.cell? ⟨Bt, 9, none⟩ = some (.int .i64 x.1.root.t0) := hcb 9
    have hz10 : wg.cell? ⟨Bt, 10, none⟩ = some (.int .i64 x.1.root.t1) := hcb 10
    have hz11 : wg.cell? ⟨Bt, 11, none⟩ = some (.slice zp zl zc) := hcb 11
    have hsm := Same_spec hRy2 hRz
    have Hsm := Lib.hid hsm
    have Hgy := Lib.hid hgy2
    have Hgz := Lib.hid hgz
    obtain ⟨E, hE⟩ : ∃ E, E = x.2 := ⟨_, rfl⟩
    rw [← hE]
    clear hca hcb hsm hRy2 hRz hgy2 hgz hRy hgy hBt hO hE
    go_wp2_with fail
    (with_reducible refine Hsm.out.mono ?_)
    rintro e wh ⟨rfl, hBb⟩
    have hgy := (hBb.block Bs (Array.getElem?_eq_some_iff.1 Hgy.out).1).trans Hgy.out
    have hgz := (hBb.block Bt (Array.getElem?_eq_some_iff.1 Hgz.out).1).trans Hgz.out
    clear Hgy Hgz Hsm hy0 hy1 hy2 hy3 hy4 hy5 hy6 hy7 hy8 hy9 hy10 hy11 hz0 hz1 hz2 hz3 hz4 hz5 hz6 hz7 hz8 hz9 hz10 hz11
    have hg := (hBb.block B (Array.getElem?_eq_some_iff.1 Hg.out).1).trans Hg.out
    have hk := Hk.out.trans (Keeps.of_below hBb)
    have hb := Hb.out.trans (hBb.mono Hb.out.size)
    clear hBb Hg Hk Hb hd0 hd1 hd2 hd3 hd4 hd5 hd6 hd7 hd8 hd9 hd10 hd11
    have hca := fun q => cell_of_row wh B q _ _ _ hg
    have hd0 : wh.cell? ⟨B, 0, none⟩ = some (.int .i64 r.h) := hca 0
    have hd1 : wh.cell? ⟨B, 1, none⟩ = some (.int .i64 x0) := hca 1
    have hd2 : wh.cell? ⟨B, 2, none⟩ = some (.int .i64 x1) := hca 2
    have hd3 : wh.cell? ⟨B, 3, none⟩ = some (.int .i64 x2) := hca 3
    have hd4 : wh.cell? ⟨B, 4, none⟩ = some (.int .i64 x3) := hca 4
    have hd5 : wh.cell? ⟨B, 5, none⟩ = some (.int .i64 x4) := hca 5
    have hd6 : wh.cell? ⟨B, 6, none⟩ = some (.int .i64 x5) := hca 6
    have hd7 : wh.cell? ⟨B, 7, none⟩ = some (.int .i64 x6) := hca 7
    have hd8 : wh.cell? ⟨B, 8, none⟩ = some (.int .i64 x7) := hca 8
    have hd9 : wh.cell? ⟨B, 9, none⟩ = some (.int .i64 r.root.t0) := hca 9
    have hd10 : wh.cell? ⟨B, 10, none⟩ = some (.int .i64 r.root.t1) := hca 10
    have hd11 : wh.cell? ⟨B, 11, none⟩ = some (.slice xp xl xc) := hca 11
    have Hg := Lib.hid hg
    have Hk := Lib.hid hk
    have Hb := Lib.hid hb
    clear hca hg hk hb
    have Hgy := Lib.hid hgy
    have Hgz := Lib.hid hgz
    clear hgy hgz
    go_wp2_with fail
    (with_reducible refine (Hut.out wh Hk.out).mono ?_)
    rintro e wi ⟨⟨ca, rfl, hO⟩, hBb⟩
    have hgy := (hBb.block Bs (Array.getElem?_eq_some_iff.1 Hgy.out).1).trans Hgy.out
    have hgz := (hBb.block Bt (Array.getElem?_eq_some_iff.1 Hgz.out).1).trans Hgz.out
    have hOB : OwnR wi wh.heap.size u.1 ca := hO
    have hBsl : Bs < wh.heap.size := (Array.getElem?_eq_some_iff.1 Hgy.out).1
    have hBtl : Bt < wh.heap.size := (Array.getElem?_eq_some_iff.1 Hgz.out).1
    have HO := Lib.hid hOB
    have Hgy := Lib.hid hgy
    have Hgz := Lib.hid hgz
    clear hO hOB hgy hgz hd0 hd1 hd2 hd3 hd4 hd5 hd6 hd7 hd8 hd9 hd10 hd11
    have hg := (hBb.block B (Array.getElem?_eq_some_iff.1 Hg.out).1).trans Hg.out
    have hbi := Hb.out.trans (hBb.mono Hb.out.size)
    have hzi := hBb.size
    have Hsz1 : Hid ((Try.prog.info? 28).map (·.size) = some ca.size) := Lib.hid (by rw [HO.out.size]; exact size28)
    have Hes1 : Hid ((#[.int .i64 0, .int .i64 0, .int .i64 0, .int .i64 0, .int .i64 0, .int .i64 0, .int .i64 0, .int .i64 0, .int .i64 0, .int .i64 0, .int .i64 0, .slice none 0 0] : Array Value).size = ca.size) := Lib.hid (by rw [HO.out.size]; rfl)
    have Hone1 := Lib.hid HO.out.one
    have HesY : Hid ((#[.int .i64 x.1.h, .int .i64 y0, .int .i64 y1, .int .i64 y2, .int .i64 y3, .int .i64 y4, .int .i64 y5, .int .i64 y6, .int .i64 y7, .int .i64 x.1.root.t0, .int .i64 x.1.root.t1, .slice yp yl yc] : Array Value).size = ca.size) := Lib.hid (by rw [HO.out.size]; rfl)
    have hgj := (setRow_other wi Bs B ca (by omega)).trans hg
    have hgyj := setRow_heap wi Bs _ ca _ _ Hgy.out
    have hgzj := (setRow_other wi Bs Bt ca (by omega)).trans Hgz.out
    have hbj := Below.putRow hbi hBs0 ca
    have hRa := HO.out.put hBsl ca
    have HgJ := Lib.hid hgj
    have HgyJ := Lib.hid hgyj
    have HgzJ := Lib.hid hgzj
    have HbJ := Lib.hid hbj
    have HRa := Lib.hid hRa
    have HRlitA := HO.out.lit
    have hszj : (wi.setRow Bs ca).heap.size = wi.heap.size := size_setRow _ _ _
    clear hBb hg hbi hgj hgyj hgzj hbj hRa Hg Hb Hk Hgz
    go_upto_region 8 with (first | (refine wpList_store_row (by rfl) 28 (.tmp 7) (.tmp 47) (by rfl) Bs ca (by rfl) (by rfl) 28 _ (by with_reducible exact Hgy.out) (by with_reducible exact Hsz1.out) (by with_reducible exact HesY.out) (by with_reducible exact Hone1.out) ?_))
    generalize wi.setRow Bs ca = wj at HgJ HgyJ HgzJ HbJ HRa hszj ⊢
    have hca := fun q => cell_of_row wj B q _ _ _ HgJ.out
    have hd0 : wj.cell? ⟨B, 0, none⟩ = some (.int .i64 r.h) := hca 0
    have hd1 : wj.cell? ⟨B, 1, none⟩ = some (.int .i64 x0) := hca 1
    have hd2 : wj.cell? ⟨B, 2, none⟩ = some (.int .i64 x1) := hca 2
    have hd3 : wj.cell? ⟨B, 3, none⟩ = some (.int .i64 x2) := hca 3
    have hd4 : wj.cell? ⟨B, 4, none⟩ = some (.int .i64 x3) := hca 4
    have hd5 : wj.cell? ⟨B, 5, none⟩ = some (.int .i64 x4) := hca 5
    have hd6 : wj.cell? ⟨B, 6, none⟩ = some (.int .i64 x5) := hca 6
    have hd7 : wj.cell? ⟨B, 7, none⟩ = some (.int .i64 x6) := hca 7
    have hd8 : wj.cell? ⟨B, 8, none⟩ = some (.int .i64 x7) := hca 8
    have hd9 : wj.cell? ⟨B, 9, none⟩ = some (.int .i64 r.root.t0) := hca 9
    have hd10 : wj.cell? ⟨B, 10, none⟩ = some (.int .i64 r.root.t1) := hca 10
    have hd11 : wj.cell? ⟨B, 11, none⟩ = some (.slice xp xl xc) := hca 11
    have Hk := Lib.hid (Keeps.of_below HbJ.out)
    clear hca Hgy HO
    go_wp2_with fail
    (with_reducible refine (Hru.out wj Hk.out).mono ?_)
    rintro e wk ⟨⟨cb, rfl, hO⟩, hBb⟩
    have hBl2 : B < wj.heap.size := (Array.getElem?_eq_some_iff.1 HgJ.out).1
    have hgB := (hBb.block B hBl2).trans HgJ.out
    have hgy := (hBb.block Bs (Array.getElem?_eq_some_iff.1 HgyJ.out).1).trans HgyJ.out
    have hgz := (hBb.block Bt (Array.getElem?_eq_some_iff.1 HgzJ.out).1).trans HgzJ.out
    have HRlitB := hO.lit
    have Hsz2 : Hid ((Try.prog.info? 28).map (·.size) = some cb.size) := Lib.hid (by rw [hO.size]; exact size28)
    have HesZ : Hid ((#[.int .i64 x.1.h, .int .i64 z0, .int .i64 z1, .int .i64 z2, .int .i64 z3, .int .i64 z4, .int .i64 z5, .int .i64 z6, .int .i64 z7, .int .i64 x.1.root.t0, .int .i64 x.1.root.t1, .slice zp zl zc] : Array Value).size = cb.size) := Lib.hid (by rw [hO.size]; rfl)
    have Hone2 := Lib.hid hO.one
    have hbk := HbJ.out.trans (hBb.mono HbJ.out.size)
    have hRa2 := HRa.out.kept hBb
    have hBt0 : w.heap.size ≤ Bt := by omega
    have hBtj : Bt < wj.heap.size := by omega
    have hgl := (setRow_other wk Bt B cb (by omega)).trans hgB
    have hgyl := (setRow_other wk Bt Bs cb (by omega)).trans hgy
    have hgzl := setRow_heap wk Bt _ cb _ _ hgz
    have hbl := Below.putRow hbk hBt0 cb
    have hRb := hO.store hBtj cb
    have hRa3 : IsR (wk.setRow Bt cb) u.1 ca := (hRa2.put hBtl cb).isR
    have Hgz := Lib.hid hgz
    clear hBb hgB hgy hgz hO hbk hRa2 HgJ HgyJ HgzJ HbJ HRa Hk hd0 hd1 hd2 hd3 hd4 hd5 hd6 hd7 hd8 hd9 hd10 hd11
    go_upto_region 9 with (first | (refine wpList_store_row (by rfl) 28 (.tmp 9) (.tmp 54) (by rfl) Bt cb (by rfl) (by rfl) 28 _ (by with_reducible exact Hgz.out) (by with_reducible exact Hsz2.out) (by with_reducible exact HesZ.out) (by with_reducible exact Hone2.out) ?_))
    generalize wk.setRow Bt cb = wl at hgl hgyl hgzl hbl hRb hRa3 ⊢
    have hkl : Keeps w wl := Keeps.of_below hbl
    obtain ⟨a0, a1, a2, a3, a4, a5, a6, a7, ap, al, ac, hcaL⟩ := HRlitA
    obtain ⟨b0, b1, b2, b3, b4, b5, b6, b7, bp, bl, bc, hcbL⟩ := HRlitB
    subst hcaL hcbL
    have hca := fun q => cell_of_row wl B q _ _ _ hgl
    have hd0 : wl.cell? ⟨B, 0, none⟩ = some (.int .i64 r.h) := hca 0
    have hd1 : wl.cell? ⟨B, 1, none⟩ = some (.int .i64 x0) := hca 1
    have hd2 : wl.cell? ⟨B, 2, none⟩ = some (.int .i64 x1) := hca 2
    have hd3 : wl.cell? ⟨B, 3, none⟩ = some (.int .i64 x2) := hca 3
    have hd4 : wl.cell? ⟨B, 4, none⟩ = some (.int .i64 x3) := hca 4
    have hd5 : wl.cell? ⟨B, 5, none⟩ = some (.int .i64 x4) := hca 5
    have hd6 : wl.cell? ⟨B, 6, none⟩ = some (.int .i64 x5) := hca 6
    have hd7 : wl.cell? ⟨B, 7, none⟩ = some (.int .i64 x6) := hca 7
    have hd8 : wl.cell? ⟨B, 8, none⟩ = some (.int .i64 x7) := hca 8
    have hd9 : wl.cell? ⟨B, 9, none⟩ = some (.int .i64 r.root.t0) := hca 9
    have hd10 : wl.cell? ⟨B, 10, none⟩ = some (.int .i64 r.root.t1) := hca 10
    have hd11 : wl.cell? ⟨B, 11, none⟩ = some (.slice xp xl xc) := hca 11
    have hcy := fun q => cell_of_row wl Bs q _ _ _ hgyl
    have hy0 : wl.cell? ⟨Bs, 0, none⟩ = some (.int .i64 u.1.h) := hcy 0
    have hy1 : wl.cell? ⟨Bs, 1, none⟩ = some (.int .i64 a0) := hcy 1
    have hy2 : wl.cell? ⟨Bs, 2, none⟩ = some (.int .i64 a1) := hcy 2
    have hy3 : wl.cell? ⟨Bs, 3, none⟩ = some (.int .i64 a2) := hcy 3
    have hy4 : wl.cell? ⟨Bs, 4, none⟩ = some (.int .i64 a3) := hcy 4
    have hy5 : wl.cell? ⟨Bs, 5, none⟩ = some (.int .i64 a4) := hcy 5
    have hy6 : wl.cell? ⟨Bs, 6, none⟩ = some (.int .i64 a5) := hcy 6
    have hy7 : wl.cell? ⟨Bs, 7, none⟩ = some (.int .i64 a6) := hcy 7
    have hy8 : wl.cell? ⟨Bs, 8, none⟩ = some (.int .i64 a7) := hcy 8
    have hy9 : wl.cell? ⟨Bs, 9, none⟩ = some (.int .i64 u.1.root.t0) := hcy 9
    have hy10 : wl.cell? ⟨Bs, 10, none⟩ = some (.int .i64 u.1.root.t1) := hcy 10
    have hy11 : wl.cell? ⟨Bs, 11, none⟩ = some (.slice ap al ac) := hcy 11
    have hcz := fun q => cell_of_row wl Bt q _ _ _ hgzl
    have hz0 : wl.cell? ⟨Bt, 0, none⟩ = some (.int .i64 u.1.h) := hcz 0
    have hz1 : wl.cell? ⟨Bt, 1, none⟩ = some (.int .i64 b0) := hcz 1
    have hz2 : wl.cell? ⟨Bt, 2, none⟩ = some (.int .i64 b1) := hcz 2
    have hz3 : wl.cell? ⟨Bt, 3, none⟩ = some (.int .i64 b2) := hcz 3
    have hz4 : wl.cell? ⟨Bt, 4, none⟩ = some (.int .i64 b3) := hcz 4
    have hz5 : wl.cell? ⟨Bt, 5, none⟩ = some (.int .i64 b4) := hcz 5
    have hz6 : wl.cell? ⟨Bt, 6, none⟩ = some (.int .i64 b5) := hcz 6
    have hz7 : wl.cell? ⟨Bt, 7, none⟩ = some (.int .i64 b6) := hcz 7
    have hz8 : wl.cell? ⟨Bt, 8, none⟩ = some (.int .i64 b7) := hcz 8
    have hz9 : wl.cell? ⟨Bt, 9, none⟩ = some (.int .i64 u.1.root.t0) := hcz 9
    have hz10 : wl.cell? ⟨Bt, 10, none⟩ = some (.int .i64 u.1.root.t1) := hcz 10
    have hz11 : wl.cell? ⟨Bt, 11, none⟩ = some (.slice bp bl bc) := hcz 11
    obtain ⟨ι, F, hF, hG⟩ := world_class wl
    obtain ⟨i0, hi0⟩ := hG wl.drew (Below.refl _ _).drew
    have kd0 := fun i => (Keeps.of_below (hF i)) _ _ hd0
    have kd1 := fun i => (Keeps.of_below (hF i)) _ _ hd1
    have kd2 := fun i => (Keeps.of_below (hF i)) _ _ hd2
    have kd3 := fun i => (Keeps.of_below (hF i)) _ _ hd3
    have kd4 := fun i => (Keeps.of_below (hF i)) _ _ hd4
    have kd5 := fun i => (Keeps.of_below (hF i)) _ _ hd5
    have kd6 := fun i => (Keeps.of_below (hF i)) _ _ hd6
    have kd7 := fun i => (Keeps.of_below (hF i)) _ _ hd7
    have kd8 := fun i => (Keeps.of_below (hF i)) _ _ hd8
    have kd9 := fun i => (Keeps.of_below (hF i)) _ _ hd9
    have kd10 := fun i => (Keeps.of_below (hF i)) _ _ hd10
    have kd11 := fun i => (Keeps.of_below (hF i)) _ _ hd11
    have ky0 := fun i => (Keeps.of_below (hF i)) _ _ hy0
    have ky1 := fun i => (Keeps.of_below (hF i)) _ _ hy1
    have ky2 := fun i => (Keeps.of_below (hF i)) _ _ hy2
    have ky3 := fun i => (Keeps.of_below (hF i)) _ _ hy3
    have ky4 := fun i => (Keeps.of_below (hF i)) _ _ hy4
    have ky5 := fun i => (Keeps.of_below (hF i)) _ _ hy5
    have ky6 := fun i => (Keeps.of_below (hF i)) _ _ hy6
    have ky7 := fun i => (Keeps.of_below (hF i)) _ _ hy7
    have ky8 := fun i => (Keeps.of_below (hF i)) _ _ hy8
    have ky9 := fun i => (Keeps.of_below (hF i)) _ _ hy9
    have ky10 := fun i => (Keeps.of_below (hF i)) _ _ hy10
    have ky11 := fun i => (Keeps.of_below (hF i)) _ _ hy11
    have kz0 := fun i => (Keeps.of_below (hF i)) _ _ hz0
    have kz1 := fun i => (Keeps.of_below (hF i)) _ _ hz1
    have kz2 := fun i => (Keeps.of_below (hF i)) _ _ hz2
    have kz3 := fun i => (Keeps.of_below (hF i)) _ _ hz3
    have kz4 := fun i => (Keeps.of_below (hF i)) _ _ hz4
    have kz5 := fun i => (Keeps.of_below (hF i)) _ _ hz5
    have kz6 := fun i => (Keeps.of_below (hF i)) _ _ hz6
    have kz7 := fun i => (Keeps.of_below (hF i)) _ _ hz7
    have kz8 := fun i => (Keeps.of_below (hF i)) _ _ hz8
    have kz9 := fun i => (Keeps.of_below (hF i)) _ _ hz9
    have kz10 := fun i => (Keeps.of_below (hF i)) _ _ hz10
    have kz11 := fun i => (Keeps.of_below (hF i)) _ _ hz11
    have HF := Lib.hid hF
    have HG := Lib.hid hG
    have HFK := Lib.hid (fun i => hkl.trans (Keeps.of_below (hF i)))
    have HFy := Lib.hid (fun i => hRa3.keeps (Keeps.of_below (hF i)))
    have HFz := Lib.hid (fun i => hRb.keeps (Keeps.of_below (hF i)))
    have Hbl := Lib.hid hbl
    obtain ⟨E2, hE2⟩ : ∃ E2, E2 = u.2 := ⟨_, rfl⟩
    rw [← hE2]
    clear hF hG hca hcy hcz hgl hgyl hgzl hbl hRb hRa3 hkl hE2 hd0 hd1 hd2 hd3 hd4 hd5 hd6 hd7 hd8 hd9 hd10 hd11 hy0 hy1 hy2 hy3 hy4 hy5 hy6 hy7 hy8 hy9 hy10 hy11 hz0 hz1 hz2 hz3 hz4 hz5 hz6 hz7 hz8 hz9 hz10 hz11
    go_wp2_with fail
    refine wp_region_class F (by kernel_rfl) ⟨i0, hi0⟩ ?_
    repeat (go_big_quiet_step ((first
      | (go_at_call 21; exact Calls.class_of HF HG (Same_spec (HFy.out _) (HFz.out _)))
      | (go_at_call 34; exact Calls.class_of HF HG (Htd.out _ (HFK.out _)))
      | (go_at_call 40; exact Calls.class_of HF HG (Hrt.out _ (HFK.out _)))
      | with_reducible rfl)))
    refine wpQuiet_nil ?_
    rintro wd2 ⟨i3, rfl⟩
    have Hfin := Lib.hid (HP.out (F i3) (Hbl.out.trans ((HF.out i3).mono Hbl.out.size)))
    go_wp2_with fail
    exact Hfin.out
end Go.Proofs.Ytmdmbnpgdkmklaa

/-! RadixTags: for every tree and two numbers the law returns true, and all read behind the call as they read before. -/
namespace Go.Proofs.Ytmdmbnpgdkmklaa
open Go.ChangeShapes Go.WideShapes Go.ChangeAt Go.RowKit Go.WideElems
set_option linter.unusedVariables false

theorem Try.own : ownKnob Try.prog.godebug = none := by kernel_rfl
theorem Try.laidOut : laidOutB Try.prog = true := by kernel_rfl

set_option maxRecDepth 100000 in
theorem tags_lifted (os : Os) (started : os.Started) (H : Type) (enc : TypeId × Value → H) :
    ReturnsInHanded {} Try.checked os 10 .any (Rows.radixTagsSpec.pre6 enc Try.prog Try.f10 Rows.radixTagsRow.domain false) (Rows.radixTagsSpec.post enc Try.prog Try.f10 false true false false) := by
  refine returnsInHanded_of_change (C := Try.checked) Try.own started (by kernel_rfl) Try.func10
    (ChangeSpec.witness6 (enc := enc) (C := Try.checked) false ⟨#[], #[.agg #[.int .i64 0, .int .i64 0, .int .i64 0, .int .i64 0, .int .i64 0, .int .i64 0, .int .i64 0, .int .i64 0, .int .i64 0, .int .i64 0, .int .i64 0, .slice none 0 0], .int .i64 0, .int .i64 0], []⟩ 8 (by kernel_rfl) (by kernel_rfl) (by kernel_rfl) (by kernel_rfl)) ?_
  intro W base args ds gs before hval0 hW hcnd _
  have hval : ∀ (j : Nat) t v, Try.f10.params[j]? = some t → args[j]? = some v → Value.okWide Try.prog W .any base t v := hval0
  have hW' := hW
  obtain ⟨p, q, hA0, hV, rfl, hfz, hnd⟩ := hW
  have hA : DataW.TrodAll enc Try.prog W 0 (fun _ => true) true Try.f10.params.toList args.toList ds p := hA0
  rw [Try.params10] at hA hval
  obtain ⟨v0, v1, v2, d0, d1, d2, p0, p1, p2, rfl, rfl, rfl, h0, h1, h2⟩ := trodAll_three hA
  obtain ⟨rfl, rfl⟩ := trodVars_none hV
  obtain ⟨n1, rfl, rfl, rfl, wn1⟩ := open_int Try.underlying3 (hval 1 3 v1 rfl rfl) h1
  have hn1 : inI64 n1 := by
    simp [Lit.wf, IntKind.min, IntKind.max, IntKind.signed, IntKind.bits] at wn1
    exact ⟨by omega, by omega⟩
  obtain ⟨n2, rfl, rfl, rfl, wn2⟩ := open_int Try.underlying3 (hval 2 3 v2 rfl rfl) h2
  have hn2 : inI64 n2 := by
    simp [Lit.wf, IntKind.min, IntKind.max, IntKind.signed, IntKind.bits] at wn2
    exact ⟨by omega, by omega⟩
  have hlt : ∀ x ∈ p0, x.block < W.heap.size := fun x hx => hW'.lt x (by simp [hx])
  obtain ⟨r, c, rfl, hR⟩ := tree_of_trod (hval 0 28 _ rfl rfl) h0
  clear hA0 hval0
  refine (law10_spec hR hn1 hn2).mono fun e W' ⟨he, hB⟩ => ?_
  subst he
  exact ⟨_, rfl, _, _, _, [], p0 ++ ([] ++ []), [], hW', trodAll_mk1 ⟨1, rfl⟩, trodAll_mk3 (Below.trod Try.laidOut (by kernel_rfl) (of_decide_eq_true (by kernel_rfl)) h0 hB hlt) (shut_int Try.underlying3 wn1) (shut_int Try.underlying3 wn2), rfl, hB.frame _, fun h => by cases h⟩

theorem tags_holds : Rows.RadixTagsSaid :=
  OpenClaim.holds_of_wide 10 Try.f10 rfl rfl rfl rfl rfl rfl rfl ⟨rfl, rfl, rfl, rfl, rfl⟩ rfl rfl rfl rfl rfl (by kernel_rfl) Try.func10 (by kernel_rfl)
    (of_decide_eq_true (by kernel_rfl)) (by unfold Func.isWrapper; first | (rw [if_pos (by decide +kernel)]; kernel_rfl) | (rw [if_neg (by decide +kernel)]; exact ⟨rfl, rfl⟩))
    (fun os started H enc _ => tags_lifted os started H enc)
end Go.Proofs.Ytmdmbnpgdkmklaa
