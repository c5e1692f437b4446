/- RadixChecks, the law's own walk: it returns true. -/
import Derived.Test.YtmdmbnpgdkmklaaRm3
import Derived.Test.YtmdmbnpgdkmklaaRg2
import Derived.Test.YtmdmbnpgdkmklaaRg4
namespace Go.Proofs.Ytmdmbnpgdkmklaa
open Go.RowKit
set_option linter.unusedVariables false
set_option linter.unusedSimpArgs false

set_option maxRecDepth 100000 in
set_option maxHeartbeats 8000000 in
theorem law1_spec {w : World} {r : Rx} {c : Array Value} (h : IsR w r c) :
    Calls Try.prog 3 #[.agg c] w fun e w' => e = .returned (.bool true) ∧ Below w.heap.size w w' := by
  obtain ⟨post, hpost⟩ : ∃ post : Ending → World → Prop, post = fun e w' => e = .returned (.bool true) ∧ Below w.heap.size w w' := ⟨_, rfl⟩
  have HP : Hid (∀ W', Below w.heap.size w W' → post (.returned (.bool true)) W') := Lib.hid (by rw [hpost]; exact fun W' a => ⟨rfl, a⟩)
  rw [← hpost]
  have hch := fun (W : World) (k : Keeps w W) => Check_spec (h.keeps k)
  have hrc := fun (W : World) (k : Keeps w W) => RCheck_spec (h.keeps k)
  have hfw := fun (W : World) (k : Keeps w W) => Few_spec (h.keeps k)
  have hsm := fun (W : World) => Same_spec (isR_empty W) (isR_empty W)
  obtain ⟨hh, nc, rfl, hn0⟩ := h
  obtain ⟨x0, x1, x2, x3, x4, x5, x6, x7, xp, xl, xc, rfl⟩ := hn0.lit
  simp only [List.append_toArray, List.cons_append, List.nil_append] at hch hrc hfw ⊢
  obtain ⟨ck, hck⟩ : ∃ ck, ck = r.check := ⟨_, rfl⟩
  rw [← hck] at hch hrc
  obtain ⟨fw, hfe⟩ : ∃ fw, fw = r.root.few := ⟨_, rfl⟩
  rw [← hfe] at hfw
  have Hch := Lib.hid hch
  have Hrc := Lib.hid hrc
  have Hfw := Lib.hid hfw
  have Hsm := Lib.hid hsm
  clear hch hrc hfw hsm hck hfe hn0 hh hpost
  have hnew := heap_alloc_new w (.cells #[.int .i64 r.h, .int .i64 x0, .int .i64 x1, .int .i64 x2, .int .i64 x3, .int .i64 x4, .int .i64 x5, .int .i64 x6, .int .i64 x7, .int .i64 r.root.t0, .int .i64 r.root.t1, .slice xp xl xc] 28)
  have hkA : Keeps w (w.alloc (.cells #[.int .i64 r.h, .int .i64 x0, .int .i64 x1, .int .i64 x2, .int .i64 x3, .int .i64 x4, .int .i64 x5, .int .i64 x6, .int .i64 x7, .int .i64 r.root.t0, .int .i64 r.root.t1, .slice xp xl xc] 28)) := Keeps.alloc _ _
  have hbA : Below w.heap.size w (w.alloc (.cells #[.int .i64 r.h, .int .i64 x0, .int .i64 x1, .int .i64 x2, .int .i64 x3, .int .i64 x4, .int .i64 x5, .int .i64 x6, .int .i64 x7, .int .i64 r.root.t0, .int .i64 r.root.t1, .slice xp xl xc] 28)) := (Below.refl _ _).alloc (Nat.le_refl _) _
  go_enter Try.func3, Try.ntmps3
  go_wp2_with fail
  obtain ⟨B, hB⟩ : ∃ B, B = w.heap.size := ⟨_, rfl⟩
  have hBlt : B < (w.alloc (.cells #[.int .i64 r.h, .int .i64 x0, .int .i64 x1, .int .i64 x2, .int .i64 x3, .int .i64 x4, .int .i64 x5, .int .i64 x6, .int .i64 x7, .int .i64 r.root.t0, .int .i64 r.root.t1, .slice xp xl xc] 28)).heap.size := by rw [hB]; simp
  rw [← hB] at hnew ⊢
  have HbA := Lib.hid hbA
  have HkA := Lib.hid hkA
  have HBw := Lib.hid hB
  clear hbA hkA hB
  generalize w.alloc (.cells #[.int .i64 r.h, .int .i64 x0, .int .i64 x1, .int .i64 x2, .int .i64 x3, .int .i64 x4, .int .i64 x5, .int .i64 x6, .int .i64 x7, .int .i64 r.root.t0, .int .i64 r.root.t1, .slice xp xl xc] 28) = wa at hnew hBlt HbA HkA ⊢
  (with_reducible refine (awake_spec wa).mono ?_)
  rintro e wb ⟨rfl, hBb⟩
  have hnew2 := (hBb.block B hBlt).trans hnew
  have HkB := Lib.hid (HkA.out.trans (Keeps.of_below hBb))
  have HbB := Lib.hid (HbA.out.trans (hBb.mono HbA.out.size))
  have hBlt2 : B < wb.heap.size := Nat.lt_of_lt_of_le hBlt hBb.size
  clear hnew HkA HbA hBb hBlt
  have hca := fun q => cell_of_row wb B q _ _ _ hnew2
  have hd0 : wb.cell? ⟨B, 0, none⟩ = some (.int .i64 r.h) := hca 0
  have hd1 : wb.cell? ⟨B, 1, none⟩ = some (.int .i64 x0) := hca 1
  have hd2 : wb.cell? ⟨B, 2, none⟩ = some (.int .i64 x1) := hca 2
  have hd3 : wb.cell? ⟨B, 3, none⟩ = some (.int .i64 x2) := hca 3
  have hd4 : wb.cell? ⟨B, 4, none⟩ = some (.int .i64 x3) := hca 4
  have hd5 : wb.cell? ⟨B, 5, none⟩ = some (.int .i64 x4) := hca 5
  have hd6 : wb.cell? ⟨B, 6, none⟩ = some (.int .i64 x5) := hca 6
  have hd7 : wb.cell? ⟨B, 7, none⟩ = some (.int .i64 x6) := hca 7
  have hd8 : wb.cell? ⟨B, 8, none⟩ = some (.int .i64 x7) := hca 8
  have hd9 : wb.cell? ⟨B, 9, none⟩ = some (.int .i64 r.root.t0) := hca 9
  have hd10 : wb.cell? ⟨B, 10, none⟩ = some (.int .i64 r.root.t1) := hca 10
  have hd11 : wb.cell? ⟨B, 11, none⟩ = some (.slice xp xl xc) := hca 11
  have Hnew2 := Lib.hid hnew2
  clear hca hnew2
  go_wp2_with fail
  (with_reducible refine (Hfw.out wb HkB.out).mono ?_)
  rintro e wc ⟨rfl, hBb⟩
  have HbC := Lib.hid (HbB.out.trans (hBb.mono HbB.out.size))
  have HkC := Lib.hid (HkB.out.trans (Keeps.of_below hBb))
  have hBlt3 : B < wc.heap.size := Nat.lt_of_lt_of_le hBlt2 hBb.size
  have hnew3 := (hBb.block B hBlt2).trans Hnew2.out
  clear hBb hd0 hd1 hd2 hd3 hd4 hd5 hd6 hd7 hd8 hd9 hd10 hd11
  have hca := fun q => cell_of_row wc B q _ _ _ hnew3
  have hd0 : wc.cell? ⟨B, 0, none⟩ = some (.int .i64 r.h) := hca 0
  have hd1 : wc.cell? ⟨B, 1, none⟩ = some (.int .i64 x0) := hca 1
  have hd2 : wc.cell? ⟨B, 2, none⟩ = some (.int .i64 x1) := hca 2
  have hd3 : wc.cell? ⟨B, 3, none⟩ = some (.int .i64 x2) := hca 3
  have hd4 : wc.cell? ⟨B, 4, none⟩ = some (.int .i64 x3) := hca 4
  have hd5 : wc.cell? ⟨B, 5, none⟩ = some (.int .i64 x4) := hca 5
  have hd6 : wc.cell? ⟨B, 6, none⟩ = some (.int .i64 x5) := hca 6
  have hd7 : wc.cell? ⟨B, 7, none⟩ = some (.int .i64 x6) := hca 7
  have hd8 : wc.cell? ⟨B, 8, none⟩ = some (.int .i64 x7) := hca 8
  have hd9 : wc.cell? ⟨B, 9, none⟩ = some (.int .i64 r.root.t0) := hca 9
  have hd10 : wc.cell? ⟨B, 10, none⟩ = some (.int .i64 r.root.t1) := hca 10
  have hd11 : wc.cell? ⟨B, 11, none⟩ = some (.slice xp xl xc) := hca 11
  clear hca hnew3
  cases fw with
  | false =>
    go_wp2_with fail
    (with_reducible refine (awake_spec wc).mono ?_)
    rintro e wd ⟨rfl, hBd⟩
    have Hfin := Lib.hid (HP.out wd (HbC.out.trans (hBd.mono HbC.out.size)))
    clear hBd
    go_wp2_with fail
    exact Hfin.out
  | true =>
    obtain ⟨ι, F, hF, hG⟩ := world_class wc
    obtain ⟨i0, hi0⟩ := hG wc.drew (Below.refl _ _).drew
    have hk0 := fun i => (Keeps.of_below (hF i)) _ _ hd0
    have hk1 := fun i => (Keeps.of_below (hF i)) _ _ hd1
    have hk2 := fun i => (Keeps.of_below (hF i)) _ _ hd2
    have hk3 := fun i => (Keeps.of_below (hF i)) _ _ hd3
    have hk4 := fun i => (Keeps.of_below (hF i)) _ _ hd4
    have hk5 := fun i => (Keeps.of_below (hF i)) _ _ hd5
    have hk6 := fun i => (Keeps.of_below (hF i)) _ _ hd6
    have hk7 := fun i => (Keeps.of_below (hF i)) _ _ hd7
    have hk8 := fun i => (Keeps.of_below (hF i)) _ _ hd8
    have hk9 := fun i => (Keeps.of_below (hF i)) _ _ hd9
    have hk10 := fun i => (Keeps.of_below (hF i)) _ _ hd10
    have hk11 := fun i => (Keeps.of_below (hF i)) _ _ hd11
    have HF := Lib.hid hF
    have HG := Lib.hid hG
    have HFK := Lib.hid (fun i => HkC.out.trans (Keeps.of_below (hF i)))
    clear hF hG
    go_wp2_with fail
    refine wp_region_class F (by kernel_rfl) ⟨i0, hi0⟩ ?_
    clear hd0 hd1 hd2 hd3 hd4 hd5 hd6 hd7 hd8 hd9 hd10 hd11
    repeat (go_big_quiet_step ((first
      | (go_at_call 19; exact Calls.class_of HF HG (Hch.out _ (HFK.out _)))
      | (go_at_call 20; exact Calls.class_of HF HG (Hrc.out _ (HFK.out _)))
      | (go_at_call 22; exact Calls.class_of HF HG (New_spec _))
      | (go_at_call 23; exact Calls.class_of HF HG (RNew_spec _))
      | (go_at_call 21; exact Calls.class_of HF HG (Hsm.out _))
      | with_reducible rfl)))

    refine wpQuiet_nil ?_
    rintro w3 ⟨i3, rfl⟩
    have Hfin := Lib.hid (HP.out (F i3) (HbC.out.trans ((HF.out i3).mono HbC.out.size)))
    go_wp2_with fail
    exact Hfin.out
end Go.Proofs.Ytmdmbnpgdkmklaa
