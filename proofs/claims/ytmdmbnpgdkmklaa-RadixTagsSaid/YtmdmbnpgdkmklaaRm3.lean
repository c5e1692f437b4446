/- The fixed example with which every statement of layer 4 begins holds. -/
import Derived.Test.YtmdmbnpgdkmklaaRm2
import Derived.Test.YtmdmbnpgdkmklaaSh
import Derived.KernelRfl
namespace Go.Proofs.Ytmdmbnpgdkmklaa
open Go.RowKit
set_option linter.unusedVariables false
set_option linter.unusedSimpArgs false

def aw5 : Nd := .mk [5, 0, 0, 0, 0, 0, 0, 0] 0 0 []
def aw7 (t : Int) : Nd := .mk [0, 7, 0, 0, 0, 0, 0, 0] t 0 []
def aw (t : Int) : Rx := ⟨2, .mk [0, 0, 0, 0, 0, 0, 0, 0] t 0 [aw5, aw7 t, Nd.zero, Nd.zero, Nd.zero, Nd.zero, Nd.zero, Nd.zero]⟩
theorem aw_1 : Rx.empty.set 0 5 = (⟨1, aw5⟩, 0) := by kernel_rfl
theorem aw_2 : Rx.set ⟨1, aw5⟩ 9 7 = (aw 0, 0) := by kernel_rfl
theorem aw_3 : Rx.mark (aw 0) 9 0 true = (aw 2, 0) := by kernel_rfl
theorem aw_4 : (aw 2).next 0 0 = 9 := by kernel_rfl
theorem aw_5 : (aw 2).next 0 1 = -1 := by kernel_rfl
theorem aw_6 : (aw 2).next 1 (-1) = 9 := by kernel_rfl
theorem aw_7 : (aw 2).get 0 = 5 := by kernel_rfl
theorem aw_8 : (aw 2).count (-1) = 2 := by kernel_rfl
theorem aw_9 : Rx.check ⟨1, Nd.zero⟩ = 3 := by kernel_rfl

theorem own_aw5 {w : World} {B : Nat} {c : Array Value} (h : OwnR w B ⟨1, aw5⟩ c) : c = #[.int .i64 1, .int .i64 5, .int .i64 0, .int .i64 0, .int .i64 0, .int .i64 0, .int .i64 0, .int .i64 0, .int .i64 0, .int .i64 0, .int .i64 0, .slice none 0 0] := by
  obtain ⟨_, nc, S, rfl, ho, _⟩ := h
  unfold aw5 at ho
  cases ho with
  | leaf => rfl
  | node _ _ _ _ _ _ _ _ _ _ _ _ _ hne => exact absurd rfl hne

theorem own_aw {w : World} {B : Nat} {t : Int} {c : Array Value} (h : OwnR w B (aw t) c) : ∃ b cap, c = #[.int .i64 2, .int .i64 0, .int .i64 0, .int .i64 0, .int .i64 0, .int .i64 0, .int .i64 0, .int .i64 0, .int .i64 0, .int .i64 t, .int .i64 0, .slice (some ⟨b, 0, none⟩) 8 cap] ∧ 8 ≤ cap ∧ w.cell? ⟨b, 12, none⟩ = some (.int .i64 7) := by
  obtain ⟨_, nc, S, rfl, ho, _⟩ := h
  unfold aw at ho
  simp only at ho
  cases ho with
  | node v t0 t1 ks b cap cur f F hv hvb h0 h1 hne hcp hg hcur hf hk hb hd =>
    refine ⟨b, cap, rfl, hcp.1, ?_⟩
    have h1 := hf 1 (by simp)
    have h2 := hk 1 (by simp)
    simp only [List.getElem_cons_succ, List.getElem_cons_zero] at h2
    unfold aw7 at h2
    obtain ⟨fc, hfc⟩ : ∃ fc, fc = f 1 := ⟨_, rfl⟩
    rw [← hfc] at h1 h2
    generalize F 1 = F1 at h2
    cases h2 with
    | leaf => exact h1 1 (by simp [ndCells])
    | node _ _ _ _ _ _ _ _ _ _ _ _ _ hne => exact absurd rfl hne

theorem i64_small {x : Int} (h1 : -100 ≤ x) (h2 : x ≤ 100) : inI64 x := ⟨by omega, by omega⟩

theorem isR_one (w : World) : IsR w ⟨1, Nd.zero⟩ #[.int .i64 1, .int .i64 0, .int .i64 0, .int .i64 0, .int .i64 0, .int .i64 0, .int .i64 0, .int .i64 0, .int .i64 0, .int .i64 0, .int .i64 0, .slice none 0 0] := ⟨i64_small (x := 1) (by omega) (by omega), _, rfl, isN_zero w⟩

set_option maxRecDepth 100000 in
set_option maxHeartbeats 8000000 in
theorem awake_spec (w : World) : Calls Try.prog 17 #[] w fun e w' => e = .returned (.bool true) ∧ Below w.heap.size w w' := by
  go_enter Try.func17, Try.ntmps17
  go_wp2_with fail
  (with_reducible refine (New_spec w).mono ?_)
  rintro e w1 ⟨rfl, hB1⟩
  have h1 := Set_spec (isR_empty w1) (i64_small (x := 0) (by omega) (by omega)) (i64_small (x := 5) (by omega) (by omega))
  rw [aw_1] at h1
  have H1 := Lib.hid h1
  have HB1 := Lib.hid hB1
  clear h1 hB1
  go_wp2_with fail
  (with_reducible refine H1.out.mono ?_)
  rintro e w2 ⟨⟨c2, rfl, hO2⟩, hB2⟩
  have hR2 := hO2.isR
  obtain rfl := own_aw5 hO2
  have h2 := fun (W : World) (k : Keeps w2 W) => Set_spec (hR2.keeps k) (i64_small (x := 9) (by omega) (by omega)) (i64_small (x := 7) (by omega) (by omega))
  rw [aw_2] at h2
  have H2 := Lib.hid h2
  have HB2 := Lib.hid (HB1.out.trans (hB2.mono HB1.out.size))
  clear h2 hB2 hR2 hO2 H1
  go_wp2_with fail
  (with_reducible refine (H2.out _ (Keeps.alloc _ _)).mono ?_)
  rintro e w3 ⟨⟨c3, rfl, hO3⟩, hB3⟩
  have hR3 := hO3.isR
  obtain ⟨b3, cap3, rfl, hcap3, hk3⟩ := own_aw hO3
  have hlt3 := lt_of_cell hk3
  have h3 := fun (W : World) (k : Keeps w3 W) => Tag_spec (hR3.keeps k) (i64_small (x := 9) (by omega) (by omega)) (i64_small (x := 0) (by omega) (by omega))
  rw [aw_3] at h3
  have H3 := Lib.hid h3
  have HB3 := Lib.hid ((HB2.out.alloc HB2.out.size _).trans (hB3.mono (by have := HB2.out.size; simp; omega)))
  clear h3 hB3 hR3 hO3 H2
  go_wp2_with fail
  (with_reducible refine (H3.out _ (Keeps.alloc _ _)).mono ?_)
  rintro e w4 ⟨⟨c4, rfl, hO4⟩, hB4⟩
  have hR4 := hO4.isR
  obtain ⟨b4, cap4, rfl, hcap4, -⟩ := own_aw hO4
  have HB4 := Lib.hid ((HB3.out.alloc HB3.out.size _).trans (hB4.mono (by have := HB3.out.size; simp; omega)))
  have Hn := Lib.hid (fun (W : World) (k : Keeps w4 W) (f t : Int) (hf : inI64 f) (ht : inI64 t) => Next_spec (hR4.keeps k) f t hf ht)
  have Hget := Lib.hid (fun (W : World) (k : Keeps w4 W) => Get_spec (hR4.keeps k) (i64_small (x := 0) (by omega) (by omega)))
  have Hcnt := Lib.hid (fun (W : World) (k : Keeps w4 W) => Count_spec (hR4.keeps k) (-1) (i64_small (by omega) (by omega)))
  obtain ⟨g, hg⟩ : ∃ g, g = w4.heap.size := ⟨_, rfl⟩
  have hnew : (w4.alloc (.cells #[.int .i64 2, .int .i64 0, .int .i64 0, .int .i64 0, .int .i64 0, .int .i64 0, .int .i64 0, .int .i64 0, .int .i64 0, .int .i64 2, .int .i64 0, .slice (some ⟨b4, 0, none⟩) 8 cap4] 28)).heap[g]? = some (.cells #[.int .i64 2, .int .i64 0, .int .i64 0, .int .i64 0, .int .i64 0, .int .i64 0, .int .i64 0, .int .i64 0, .int .i64 0, .int .i64 2, .int .i64 0, .slice (some ⟨b4, 0, none⟩) 8 cap4] 28 (0, 0)) := by rw [hg]; exact heap_alloc_new w4 _
  have hKA : Keeps w4 (w4.alloc (.cells #[.int .i64 2, .int .i64 0, .int .i64 0, .int .i64 0, .int .i64 0, .int .i64 0, .int .i64 0, .int .i64 0, .int .i64 0, .int .i64 2, .int .i64 0, .slice (some ⟨b4, 0, none⟩) 8 cap4] 28)) := Keeps.alloc _ _
  have hBA : Below w.heap.size w (w4.alloc (.cells #[.int .i64 2, .int .i64 0, .int .i64 0, .int .i64 0, .int .i64 0, .int .i64 0, .int .i64 0, .int .i64 0, .int .i64 0, .int .i64 2, .int .i64 0, .slice (some ⟨b4, 0, none⟩) 8 cap4] 28)) := HB4.out.alloc HB4.out.size _
  clear hB4 hR4 hO4 H3 hlt3 hk3 hcap3
  have HI := Lib.hid (And.intro (i64_small (x := 0) (by omega) (by omega)) (And.intro (i64_small (x := 1) (by omega) (by omega)) (i64_small (x := -1) (by omega) (by omega))))
  go_upto_region 8 with fail
  rw [← hg]
  clear hg
  generalize w4.alloc (.cells #[.int .i64 2, .int .i64 0, .int .i64 0, .int .i64 0, .int .i64 0, .int .i64 0, .int .i64 0, .int .i64 0, .int .i64 0, .int .i64 2, .int .i64 0, .slice (some ⟨b4, 0, none⟩) 8 cap4] 28) = wa at hnew hKA hBA ⊢
  have hca := fun q => cell_of_row wa g q _ _ _ hnew
  have hd0 : wa.cell? ⟨g, 0, none⟩ = some (.int .i64 2) := hca 0
  have hd1 : wa.cell? ⟨g, 1, none⟩ = some (.int .i64 0) := hca 1
  have hd2 : wa.cell? ⟨g, 2, none⟩ = some (.int .i64 0) := hca 2
  have hd3 : wa.cell? ⟨g, 3, none⟩ = some (.int .i64 0) := hca 3
  have hd4 : wa.cell? ⟨g, 4, none⟩ = some (.int .i64 0) := hca 4
  have hd5 : wa.cell? ⟨g, 5, none⟩ = some (.int .i64 0) := hca 5
  have hd6 : wa.cell? ⟨g, 6, none⟩ = some (.int .i64 0) := hca 6
  have hd7 : wa.cell? ⟨g, 7, none⟩ = some (.int .i64 0) := hca 7
  have hd8 : wa.cell? ⟨g, 8, none⟩ = some (.int .i64 0) := hca 8
  have hd9 : wa.cell? ⟨g, 9, none⟩ = some (.int .i64 2) := hca 9
  have hd10 : wa.cell? ⟨g, 10, none⟩ = some (.int .i64 0) := hca 10
  have hd11 : wa.cell? ⟨g, 11, none⟩ = some (.slice (some ⟨b4, 0, none⟩) 8 cap4) := hca 11
  have Hnew := Lib.hid hnew
  have HKA := Lib.hid hKA
  have HBA := Lib.hid hBA
  clear hca hnew hKA hBA
  go_wp2_with fail
  (with_reducible refine (Hn.out wa HKA.out 0 0 HI.out.1 HI.out.1).mono ?_)
  rintro e wb ⟨rfl, hBb⟩
  rw [aw_4]
  have hnew := (hBb.block g (Array.getElem?_eq_some_iff.1 Hnew.out).1).trans Hnew.out
  have hKA := HKA.out.trans (Keeps.of_below hBb)
  have hBA := HBA.out.trans (hBb.mono HBA.out.size)
  clear hBb Hnew HKA HBA hd0 hd1 hd2 hd3 hd4 hd5 hd6 hd7 hd8 hd9 hd10 hd11
  have hca := fun q => cell_of_row wb g q _ _ _ hnew
  have hd0 : wb.cell? ⟨g, 0, none⟩ = some (.int .i64 2) := hca 0
  have hd1 : wb.cell? ⟨g, 1, none⟩ = some (.int .i64 0) := hca 1
  have hd2 : wb.cell? ⟨g, 2, none⟩ = some (.int .i64 0) := hca 2
  have hd3 : wb.cell? ⟨g, 3, none⟩ = some (.int .i64 0) := hca 3
  have hd4 : wb.cell? ⟨g, 4, none⟩ = some (.int .i64 0) := hca 4
  have hd5 : wb.cell? ⟨g, 5, none⟩ = some (.int .i64 0) := hca 5
  have hd6 : wb.cell? ⟨g, 6, none⟩ = some (.int .i64 0) := hca 6
  have hd7 : wb.cell? ⟨g, 7, none⟩ = some (.int .i64 0) := hca 7
  have hd8 : wb.cell? ⟨g, 8, none⟩ = some (.int .i64 0) := hca 8
  have hd9 : wb.cell? ⟨g, 9, none⟩ = some (.int .i64 2) := hca 9
  have hd10 : wb.cell? ⟨g, 10, none⟩ = some (.int .i64 0) := hca 10
  have hd11 : wb.cell? ⟨g, 11, none⟩ = some (.slice (some ⟨b4, 0, none⟩) 8 cap4) := hca 11
  have Hnew := Lib.hid hnew
  have HKA := Lib.hid hKA
  have HBA := Lib.hid hBA
  clear hca hnew hKA hBA
  go_wp2_with fail
  (with_reducible refine (Hn.out wb HKA.out 0 1 HI.out.1 HI.out.2.1).mono ?_)
  rintro e wc ⟨rfl, hBb⟩
  rw [aw_5]
  have hnew := (hBb.block g (Array.getElem?_eq_some_iff.1 Hnew.out).1).trans Hnew.out
  have hKA := HKA.out.trans (Keeps.of_below hBb)
  have hBA := HBA.out.trans (hBb.mono HBA.out.size)
  clear hBb Hnew HKA HBA hd0 hd1 hd2 hd3 hd4 hd5 hd6 hd7 hd8 hd9 hd10 hd11
  have hca := fun q => cell_of_row wc g q _ _ _ hnew
  have hd0 : wc.cell? ⟨g, 0, none⟩ = some (.int .i64 2) := hca 0
  have hd1 : wc.cell? ⟨g, 1, none⟩ = some (.int .i64 0) := hca 1
  have hd2 : wc.cell? ⟨g, 2, none⟩ = some (.int .i64 0) := hca 2
  have hd3 : wc.cell? ⟨g, 3, none⟩ = some (.int .i64 0) := hca 3
  have hd4 : wc.cell? ⟨g, 4, none⟩ = some (.int .i64 0) := hca 4
  have hd5 : wc.cell? ⟨g, 5, none⟩ = some (.int .i64 0) := hca 5
  have hd6 : wc.cell? ⟨g, 6, none⟩ = some (.int .i64 0) := hca 6
  have hd7 : wc.cell? ⟨g, 7, none⟩ = some (.int .i64 0) := hca 7
  have hd8 : wc.cell? ⟨g, 8, none⟩ = some (.int .i64 0) := hca 8
  have hd9 : wc.cell? ⟨g, 9, none⟩ = some (.int .i64 2) := hca 9
  have hd10 : wc.cell? ⟨g, 10, none⟩ = some (.int .i64 0) := hca 10
  have hd11 : wc.cell? ⟨g, 11, none⟩ = some (.slice (some ⟨b4, 0, none⟩) 8 cap4) := hca 11
  have Hnew := Lib.hid hnew
  have HKA := Lib.hid hKA
  have HBA := Lib.hid hBA
  clear hca hnew hKA hBA
  go_wp2_with fail
  (with_reducible refine (Hn.out wc HKA.out 1 (-1) HI.out.2.1 HI.out.2.2).mono ?_)
  rintro e wd ⟨rfl, hBb⟩
  rw [aw_6]
  have hnew := (hBb.block g (Array.getElem?_eq_some_iff.1 Hnew.out).1).trans Hnew.out
  have hKA := HKA.out.trans (Keeps.of_below hBb)
  have hBA := HBA.out.trans (hBb.mono HBA.out.size)
  clear hBb Hnew HKA HBA hd0 hd1 hd2 hd3 hd4 hd5 hd6 hd7 hd8 hd9 hd10 hd11
  have hca := fun q => cell_of_row wd g q _ _ _ hnew
  have hd0 : wd.cell? ⟨g, 0, none⟩ = some (.int .i64 2) := hca 0
  have hd1 : wd.cell? ⟨g, 1, none⟩ = some (.int .i64 0) := hca 1
  have hd2 : wd.cell? ⟨g, 2, none⟩ = some (.int .i64 0) := hca 2
  have hd3 : wd.cell? ⟨g, 3, none⟩ = some (.int .i64 0) := hca 3
  have hd4 : wd.cell? ⟨g, 4, none⟩ = some (.int .i64 0) := hca 4
  have hd5 : wd.cell? ⟨g, 5, none⟩ = some (.int .i64 0) := hca 5
  have hd6 : wd.cell? ⟨g, 6, none⟩ = some (.int .i64 0) := hca 6
  have hd7 : wd.cell? ⟨g, 7, none⟩ = some (.int .i64 0) := hca 7
  have hd8 : wd.cell? ⟨g, 8, none⟩ = some (.int .i64 0) := hca 8
  have hd9 : wd.cell? ⟨g, 9, none⟩ = some (.int .i64 2) := hca 9
  have hd10 : wd.cell? ⟨g, 10, none⟩ = some (.int .i64 0) := hca 10
  have hd11 : wd.cell? ⟨g, 11, none⟩ = some (.slice (some ⟨b4, 0, none⟩) 8 cap4) := hca 11
  have Hnew := Lib.hid hnew
  have HKA := Lib.hid hKA
  have HBA := Lib.hid hBA
  clear hca hnew hKA hBA
  go_wp2_with fail
  (with_reducible refine (Hget.out wd HKA.out).mono ?_)
  rintro e we ⟨rfl, hBb⟩
  rw [aw_7]
  have hnew := (hBb.block g (Array.getElem?_eq_some_iff.1 Hnew.out).1).trans Hnew.out
  have hKA := HKA.out.trans (Keeps.of_below hBb)
  have hBA := HBA.out.trans (hBb.mono HBA.out.size)
  clear hBb Hnew HKA HBA hd0 hd1 hd2 hd3 hd4 hd5 hd6 hd7 hd8 hd9 hd10 hd11
  have hca := fun q => cell_of_row we g q _ _ _ hnew
  have hd0 : we.cell? ⟨g, 0, none⟩ = some (.int .i64 2) := hca 0
  have hd1 : we.cell? ⟨g, 1, none⟩ = some (.int .i64 0) := hca 1
  have hd2 : we.cell? ⟨g, 2, none⟩ = some (.int .i64 0) := hca 2
  have hd3 : we.cell? ⟨g, 3, none⟩ = some (.int .i64 0) := hca 3
  have hd4 : we.cell? ⟨g, 4, none⟩ = some (.int .i64 0) := hca 4
  have hd5 : we.cell? ⟨g, 5, none⟩ = some (.int .i64 0) := hca 5
  have hd6 : we.cell? ⟨g, 6, none⟩ = some (.int .i64 0) := hca 6
  have hd7 : we.cell? ⟨g, 7, none⟩ = some (.int .i64 0) := hca 7
  have hd8 : we.cell? ⟨g, 8, none⟩ = some (.int .i64 0) := hca 8
  have hd9 : we.cell? ⟨g, 9, none⟩ = some (.int .i64 2) := hca 9
  have hd10 : we.cell? ⟨g, 10, none⟩ = some (.int .i64 0) := hca 10
  have hd11 : we.cell? ⟨g, 11, none⟩ = some (.slice (some ⟨b4, 0, none⟩) 8 cap4) := hca 11
  have Hnew := Lib.hid hnew
  have HKA := Lib.hid hKA
  have HBA := Lib.hid hBA
  clear hca hnew hKA hBA
  go_wp2_with fail
  (with_reducible refine (Hcnt.out we HKA.out).mono ?_)
  rintro e wf ⟨rfl, hBb⟩
  rw [aw_8]
  have hnew := (hBb.block g (Array.getElem?_eq_some_iff.1 Hnew.out).1).trans Hnew.out
  have hKA := HKA.out.trans (Keeps.of_below hBb)
  have hBA := HBA.out.trans (hBb.mono HBA.out.size)
  clear hBb Hnew HKA HBA hd0 hd1 hd2 hd3 hd4 hd5 hd6 hd7 hd8 hd9 hd10 hd11
  have hca := fun q => cell_of_row wf g q _ _ _ hnew
  have hd0 : wf.cell? ⟨g, 0, none⟩ = some (.int .i64 2) := hca 0
  have hd1 : wf.cell? ⟨g, 1, none⟩ = some (.int .i64 0) := hca 1
  have hd2 : wf.cell? ⟨g, 2, none⟩ = some (.int .i64 0) := hca 2
  have hd3 : wf.cell? ⟨g, 3, none⟩ = some (.int .i64 0) := hca 3
  have hd4 : wf.cell? ⟨g, 4, none⟩ = some (.int .i64 0) := hca 4
  have hd5 : wf.cell? ⟨g, 5, none⟩ = some (.int .i64 0) := hca 5
  have hd6 : wf.cell? ⟨g, 6, none⟩ = some (.int .i64 0) := hca 6
  have hd7 : wf.cell? ⟨g, 7, none⟩ = some (.int .i64 0) := hca 7
  have hd8 : wf.cell? ⟨g, 8, none⟩ = some (.int .i64 0) := hca 8
  have hd9 : wf.cell? ⟨g, 9, none⟩ = some (.int .i64 2) := hca 9
  have hd10 : wf.cell? ⟨g, 10, none⟩ = some (.int .i64 0) := hca 10
  have hd11 : wf.cell? ⟨g, 11, none⟩ = some (.slice (some ⟨b4, 0, none⟩) 8 cap4) := hca 11
  have Hnew := Lib.hid hnew
  have HKA := Lib.hid hKA
  have HBA := Lib.hid hBA
  clear hca hnew hKA hBA
  go_wp2_with fail
  have hck := Check_spec (isR_one wf)
  rw [aw_9] at hck
  (with_reducible refine hck.mono ?_)
  rintro e wg ⟨rfl, hBb⟩
  have hnew := (hBb.block g (Array.getElem?_eq_some_iff.1 Hnew.out).1).trans Hnew.out
  have hKA := HKA.out.trans (Keeps.of_below hBb)
  have hBA := HBA.out.trans (hBb.mono HBA.out.size)
  clear hBb Hnew HKA HBA hd0 hd1 hd2 hd3 hd4 hd5 hd6 hd7 hd8 hd9 hd10 hd11
  have hca := fun q => cell_of_row wg g q _ _ _ hnew
  have hd0 : wg.cell? ⟨g, 0, none⟩ = some (.int .i64 2) := hca 0
  have hd1 : wg.cell? ⟨g, 1, none⟩ = some (.int .i64 0) := hca 1
  have hd2 : wg.cell? ⟨g, 2, none⟩ = some (.int .i64 0) := hca 2
  have hd3 : wg.cell? ⟨g, 3, none⟩ = some (.int .i64 0) := hca 3
  have hd4 : wg.cell? ⟨g, 4, none⟩ = some (.int .i64 0) := hca 4
  have hd5 : wg.cell? ⟨g, 5, none⟩ = some (.int .i64 0) := hca 5
  have hd6 : wg.cell? ⟨g, 6, none⟩ = some (.int .i64 0) := hca 6
  have hd7 : wg.cell? ⟨g, 7, none⟩ = some (.int .i64 0) := hca 7
  have hd8 : wg.cell? ⟨g, 8, none⟩ = some (.int .i64 0) := hca 8
  have hd9 : wg.cell? ⟨g, 9, none⟩ = some (.int .i64 2) := hca 9
  have hd10 : wg.cell? ⟨g, 10, none⟩ = some (.int .i64 0) := hca 10
  have hd11 : wg.cell? ⟨g, 11, none⟩ = some (.slice (some ⟨b4, 0, none⟩) 8 cap4) := hca 11
  have Hnew := Lib.hid hnew
  have HKA := Lib.hid hKA
  have HBA := Lib.hid hBA
  clear hca hnew hKA hBA
  go_wp2_with fail
  go_ret
  exact ⟨rfl, HBA.out⟩
end Go.Proofs.Ytmdmbnpgdkmklaa
