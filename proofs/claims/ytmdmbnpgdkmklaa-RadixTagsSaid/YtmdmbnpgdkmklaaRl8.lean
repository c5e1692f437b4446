/- radix.Set: the walk where the index is in range. -/
import Derived.Test.YtmdmbnpgdkmklaaSf
import Derived.Deep.RegionLaw
namespace Go.Proofs.Ytmdmbnpgdkmklaa
open Go.RowKit
set_option linter.unusedVariables false
set_option linter.unusedSimpArgs false

theorem setAt_newL {W3 w2 w5 : World} {n : Nd} {S : Nat → Prop} {H : Nat} {y0 y1 y2 y3 y4 y5 y6 y7 k0 k1 : Int} {yp : Option Addr} {yl yc : Nat} (hB2 : Below W3.heap.size W3 w2) (hB5 : Below w2.drew.heap.size w2.drew w5)
    (hO : Owns w5 n #[.int .i64 y0, .int .i64 y1, .int .i64 y2, .int .i64 y3, .int .i64 y4, .int .i64 y5, .int .i64 y6, .int .i64 y7, .int .i64 k0, .int .i64 k1, .slice yp yl yc] S) (hS : ∀ k, S k → w2.drew.heap.size ≤ k) :
    SetAt W3 w5.heap.size H n (w5.alloc (.cells #[.int .i64 H, .int .i64 y0, .int .i64 y1, .int .i64 y2, .int .i64 y3, .int .i64 y4, .int .i64 y5, .int .i64 y6, .int .i64 y7, .int .i64 k0, .int .i64 k1, .slice yp yl yc] 28)) := by
  have := setAt_new (H := H) hB2 hB5 hO hS
  simp only [List.append_toArray, List.cons_append, List.nil_append] at this
  exact this

theorem setAt_putL {W3 w2 w5 : World} {o : Obj} {n : Nd} {S : Nat → Prop} {H : Nat} {y0 y1 y2 y3 y4 y5 y6 y7 k0 k1 : Int} {yp : Option Addr} {yl yc : Nat} {o0 o1 o2 o3 o4 o5 o6 o7 o8 o9 o10 o11 : Value}
    (hB2 : Below W3.heap.size W3 w2) (hB5 : Below (w2.alloc o).drew.heap.size (w2.alloc o).drew w5) (hg : w5.heap[w2.heap.size]? = some (.cells #[o0, o1, o2, o3, o4, o5, o6, o7, o8, o9, o10, o11] 28 (0, 0)))
    (hO : Owns w5 n #[.int .i64 y0, .int .i64 y1, .int .i64 y2, .int .i64 y3, .int .i64 y4, .int .i64 y5, .int .i64 y6, .int .i64 y7, .int .i64 k0, .int .i64 k1, .slice yp yl yc] S) (hS : ∀ k, S k → (w2.alloc o).drew.heap.size ≤ k) :
    SetAt W3 w2.heap.size H n ((((((((((((w5.setCell ⟨w2.heap.size, 0, none⟩ (.int .i64 H)).setCell ⟨w2.heap.size, 1, none⟩ (.int .i64 y0)).setCell ⟨w2.heap.size, 2, none⟩ (.int .i64 y1)).setCell ⟨w2.heap.size, 3, none⟩ (.int .i64 y2)).setCell ⟨w2.heap.size, 4, none⟩ (.int .i64 y3)).setCell ⟨w2.heap.size, 5, none⟩ (.int .i64 y4)).setCell ⟨w2.heap.size, 6, none⟩ (.int .i64 y5)).setCell ⟨w2.heap.size, 7, none⟩ (.int .i64 y6)).setCell ⟨w2.heap.size, 8, none⟩ (.int .i64 y7)).setCell ⟨w2.heap.size, 9, none⟩ (.int .i64 k0)).setCell ⟨w2.heap.size, 10, none⟩ (.int .i64 k1)).setCell ⟨w2.heap.size, 11, none⟩ (.slice yp yl yc)) := by
  rw [setCells12 hg]
  have := setAt_put (H := H) hB2 hB5 hg hO hS
  simp only [List.append_toArray, List.cons_append, List.nil_append] at this
  exact this

set_option maxRecDepth 100000 in
set_option maxHeartbeats 8000000 in
theorem Set_main {w : World} {r : Rx} {c : Array Value} {i : Nat} {v : Int} (h : IsR w r c) (hi : i < 1073741824) (hv : inI64 v) (hc : r.check = 0) :
    Calls Try.prog 24 #[.agg c, .int .i64 i, .int .i64 v] w (RPost w (if v = 0 ∧ r.get i = 0 then (r, 0) else (⟨((setM r.h.toNat r.root i v).1 : Int), (setM r.h.toNat r.root i v).2⟩, 0))) := by
  obtain ⟨fin, hfin⟩ : ∃ fin : Rx × Int, (if v = 0 ∧ r.get i = 0 then (r, 0) else (⟨((setM r.h.toNat r.root i v).1 : Int), (setM r.h.toNat r.root i v).2⟩, 0)) = fin := ⟨_, rfl⟩
  obtain ⟨post, hpost⟩ : ∃ post, post = RPost w fin := ⟨_, rfl⟩
  have HP : Hid (∀ e W', RPost w fin e W' → post e W') := Lib.hid (by rw [hpost]; exact fun e W' a => a)
  rw [hfin, ← hpost]
  have hget := fun (W : World) (k : Keeps w W) => Get_spec (h.keeps k) (i := (i : Int)) ⟨by omega, by omega⟩
  have hch := fun (W : World) (k : Keeps w W) => Check_spec (h.keeps k)
  rw [hc] at hch
  obtain ⟨hh0, hh1, hha, hok⟩ := check_zero hc
  have hslim : Slim r.root := by
    rcases Int.lt_or_le r.h 1 with q | q
    · exact slim_absent (hha (by omega))
    · have := hok q
      rw [show r.h.toNat = (r.h.toNat - 1) + 1 by omega] at this
      exact slim_ok _ _ this
  have hnice : r.root.nice (r.h.toNat - 1) := by
    rcases Int.lt_or_le r.h 1 with q | q
    · exact nice_absent (hha (by omega)) _
    · have := hok q
      rw [show r.h.toNat = (r.h.toNat - 1) + 1 by omega] at this
      obtain ⟨_, nc, _, hn⟩ := h
      exact nice_ok _ _ hn.wf this
  have hgrow := growL_spec i (by omega) 11 r.h.toNat (r.h.toNat == 0) r.root (by omega) hnice (fun q => hha (by omega)) (fun q => by
    have q : r.h.toNat = 0 := by simpa using q
    exact nice_absent (hha (by omega)))
  have hR := h
  obtain ⟨hh, nc, rfl, hn0⟩ := h
  have hcl := fun (W : World) (k : Keeps w W) => clone_spec hn0 hslim W k
  obtain ⟨x0, x1, x2, x3, x4, x5, x6, x7, xp, xl, xc, rfl⟩ := hn0.lit
  simp only [List.append_toArray, List.cons_append, List.nil_append] at hch hget hcl ⊢
  have Hch := Lib.hid hch
  have Hget := Lib.hid hget
  have Hcl := Lib.hid hcl
  have Hgrow := Lib.hid hgrow
  have Hfin := Lib.hid hfin
  have Hnice := Lib.hid hnice
  have Hha := Lib.hid hha
  obtain ⟨H, hH⟩ : ∃ H : Nat, r.h = (H : Int) := ⟨r.h.toNat, by omega⟩
  rw [hH] at Hch Hget hh1 ⊢
  have hh1' : H ≤ 10 := by omega
  have HH := Lib.hid hH
  clear hch hget hcl hgrow hfin hnice hha hok hc hslim hR hh hn0 hpost hh0 hH
  unfold inI64 at hv
  obtain ⟨hv1, hv2⟩ := hv
  have hb3 := boxes3 w (.cells #[.int .i64 H, .int .i64 x0, .int .i64 x1, .int .i64 x2, .int .i64 x3, .int .i64 x4, .int .i64 x5, .int .i64 x6, .int .i64 x7, .int .i64 r.root.t0, .int .i64 r.root.t1, .slice xp xl xc] 28) (.cells #[.int .i64 v] 3) (.cells emptyCells 28)
  have hk3 : Keeps w (((w.alloc (.cells #[.int .i64 H, .int .i64 x0, .int .i64 x1, .int .i64 x2, .int .i64 x3, .int .i64 x4, .int .i64 x5, .int .i64 x6, .int .i64 x7, .int .i64 r.root.t0, .int .i64 r.root.t1, .slice xp xl xc] 28)).alloc (.cells #[.int .i64 v] 3)).alloc (.cells emptyCells 28)) := Keeps.of_below hb3.1
  go_enter Try.func24, Try.ntmps24
  go_wp2_with fail
  (with_reducible refine (Hch.out _ ((Keeps.alloc _ _).trans ((Keeps.alloc _ _).trans (Keeps.alloc _ _)))).mono ?_)
  obtain ⟨W3, hW3⟩ : ∃ W3, W3 = (((w.alloc (.cells #[.int .i64 H, .int .i64 x0, .int .i64 x1, .int .i64 x2, .int .i64 x3, .int .i64 x4, .int .i64 x5, .int .i64 x6, .int .i64 x7, .int .i64 r.root.t0, .int .i64 r.root.t1, .slice xp xl xc] 28)).alloc (.cells #[.int .i64 v] 3)).alloc (.cells emptyCells 28)) := ⟨_, rfl⟩
  rw [← hW3] at hb3 hk3
  rintro e w2 ⟨rfl, hB2⟩
  replace hB2 : Below W3.heap.size W3 w2 := by rw [hW3]; exact hB2
  have Hk3 := Lib.hid hk3
  obtain ⟨hbW, hs3, hgA, hgB, hgC⟩ := hb3
  have HbW := Lib.hid hbW
  have HgC := Lib.hid hgC
  have HgA := Lib.hid hgA
  have HgB := Lib.hid hgB
  have HB2 := Lib.hid hB2
  clear hB2 hbW hgA hgB hgC hk3 hW3
  go_upto_region 6 with fail
  have hcA := fun q => (HB2.out.cell (p := ⟨w.heap.size, q, none⟩) (by simp; omega)).trans (cell_of_row W3 w.heap.size q _ _ _ HgA.out)
  have hc0 : w2.cell? ⟨w.heap.size, 0, none⟩ = some (.int .i64 H) := hcA 0
  have hc1 : w2.cell? ⟨w.heap.size, 1, none⟩ = some (.int .i64 x0) := hcA 1
  have hc2 : w2.cell? ⟨w.heap.size, 2, none⟩ = some (.int .i64 x1) := hcA 2
  have hc3 : w2.cell? ⟨w.heap.size, 3, none⟩ = some (.int .i64 x2) := hcA 3
  have hc4 : w2.cell? ⟨w.heap.size, 4, none⟩ = some (.int .i64 x3) := hcA 4
  have hc5 : w2.cell? ⟨w.heap.size, 5, none⟩ = some (.int .i64 x4) := hcA 5
  have hc6 : w2.cell? ⟨w.heap.size, 6, none⟩ = some (.int .i64 x5) := hcA 6
  have hc7 : w2.cell? ⟨w.heap.size, 7, none⟩ = some (.int .i64 x6) := hcA 7
  have hc8 : w2.cell? ⟨w.heap.size, 8, none⟩ = some (.int .i64 x7) := hcA 8
  have hc9 : w2.cell? ⟨w.heap.size, 9, none⟩ = some (.int .i64 r.root.t0) := hcA 9
  have hc10 : w2.cell? ⟨w.heap.size, 10, none⟩ = some (.int .i64 r.root.t1) := hcA 10
  have hc11 : w2.cell? ⟨w.heap.size, 11, none⟩ = some (.slice xp xl xc) := hcA 11
  clear hcA
  have HkD : Hid (Keeps w w2.drew) := Lib.hid (Hk3.out.trans (Keeps.of_below HB2.out.drew))
  have HkA : Hid (∀ o, Keeps w (w2.alloc o).drew) := Lib.hid (fun o => Hk3.out.trans (Keeps.of_below (HB2.out.alloc HB2.out.size o).drew))
  have hlt2 : w.heap.size < w2.heap.size := by have := HB2.out.size; omega
  go_cut [9] from 25 to 30 (fun s9 wx => ∃ g : Nat, s9 = .pointer (some ⟨g, 0, none⟩) ∧ Hid (SetAt W3 g H r.root wx))
  case first =>
    go_region_law (first
      | (go_simp; go_at_call 72
         (with_reducible refine (Hcl.out w2.drew HkD.out).mono ?_)
         rintro e w5 ⟨⟨c5, S5, rfl, hO, hS⟩, hB5⟩
         obtain ⟨y0, y1, y2, y3, y4, y5, y6, y7, yp, yl, yc, rfl⟩ := hO.isN.lit
         have hc05 : w5.cell? ⟨w.heap.size, 0, none⟩ = some (.int .i64 H) := Keeps.of_below hB5 _ _ hc0
         have hlt5 := lt_of_cell hc05
         have hF := setAt_newL (H := H) HB2.out hB5 hO hS
         have HF := Lib.hid hF
         clear hF
         have HO := Lib.hid hO
         have HS := Lib.hid hS
         have HB5 := Lib.hid hB5
         clear hO hS hB5)
      | (go_simp; go_at_call 72
         (with_reducible refine (Hcl.out (w2.alloc (.cells #[.int .i64 0, .int .i64 0, .int .i64 0, .int .i64 0, .int .i64 0, .int .i64 0, .int .i64 0, .int .i64 0, .int .i64 0, .int .i64 0, .int .i64 0, .slice none 0 0] 28)).drew (HkA.out _)).mono ?_)
         rintro e w5 ⟨⟨c5, S5, rfl, hO, hS⟩, hB5⟩
         obtain ⟨y0, y1, y2, y3, y4, y5, y6, y7, yp, yl, yc, rfl⟩ := hO.isN.lit
         have hc05 : w5.cell? ⟨w.heap.size, 0, none⟩ = some (.int .i64 H) := Keeps.of_below hB5 _ _ (Keeps.alloc w2 _ _ _ hc0)
         have hg5 : w5.heap[w2.heap.size]? = some (.cells #[.int .i64 0, .int .i64 0, .int .i64 0, .int .i64 0, .int .i64 0, .int .i64 0, .int .i64 0, .int .i64 0, .int .i64 0, .int .i64 0, .int .i64 0, .slice none 0 0] 28 (0, 0)) := (hB5.block w2.heap.size (by simp)).trans (heap_alloc_new w2 _)
         have hcz := fun q => cell_of_row w5 w2.heap.size q _ _ _ hg5
         have hz0 : w5.cell? ⟨w2.heap.size, 0, none⟩ = some (.int .i64 0) := hcz 0
         have hz1 : w5.cell? ⟨w2.heap.size, 1, none⟩ = some (.int .i64 0) := hcz 1
         have hz2 : w5.cell? ⟨w2.heap.size, 2, none⟩ = some (.int .i64 0) := hcz 2
         have hz3 : w5.cell? ⟨w2.heap.size, 3, none⟩ = some (.int .i64 0) := hcz 3
         have hz4 : w5.cell? ⟨w2.heap.size, 4, none⟩ = some (.int .i64 0) := hcz 4
         have hz5 : w5.cell? ⟨w2.heap.size, 5, none⟩ = some (.int .i64 0) := hcz 5
         have hz6 : w5.cell? ⟨w2.heap.size, 6, none⟩ = some (.int .i64 0) := hcz 6
         have hz7 : w5.cell? ⟨w2.heap.size, 7, none⟩ = some (.int .i64 0) := hcz 7
         have hz8 : w5.cell? ⟨w2.heap.size, 8, none⟩ = some (.int .i64 0) := hcz 8
         have hz9 : w5.cell? ⟨w2.heap.size, 9, none⟩ = some (.int .i64 0) := hcz 9
         have hz10 : w5.cell? ⟨w2.heap.size, 10, none⟩ = some (.int .i64 0) := hcz 10
         have hz11 : w5.cell? ⟨w2.heap.size, 11, none⟩ = some (.slice none 0 0) := hcz 11
         have hfz := fun q => frozen_of_row w5 w2.heap.size q _ _ hg5
         have hlt5 := lt_of_cell hc05
         have hF := setAt_putL (H := H) HB2.out hB5 hg5 hO hS
         have HF := Lib.hid hF
         clear hF
         have HO := Lib.hid hO
         have HS := Lib.hid hS
         have HB5 := Lib.hid hB5
         have HG5 := Lib.hid hg5
         clear hO hS hB5 hcz hg5))
    all_goals
      go_wp2_with fail
      go_meet
      case rel =>
        exact ⟨_, rfl, HF⟩
  case rest =>
    obtain ⟨g, rfl, Hs⟩ := hcut
    clear hc0 hc1 hc2 hc3 hc4 hc5 hc6 hc7 hc8 hc9 hc10 hc11 HkD HkA hlt2 HB2 Hcl Hch
    have hcA := fun q => (Hs.out.below.cell (p := ⟨w.heap.size, q, none⟩) (by simp; omega)).trans (cell_of_row W3 w.heap.size q _ _ _ HgA.out)
    have hc0 : wc.cell? ⟨w.heap.size, 0, none⟩ = some (.int .i64 H) := hcA 0
    have hc1 : wc.cell? ⟨w.heap.size, 1, none⟩ = some (.int .i64 x0) := hcA 1
    have hc2 : wc.cell? ⟨w.heap.size, 2, none⟩ = some (.int .i64 x1) := hcA 2
    have hc3 : wc.cell? ⟨w.heap.size, 3, none⟩ = some (.int .i64 x2) := hcA 3
    have hc4 : wc.cell? ⟨w.heap.size, 4, none⟩ = some (.int .i64 x3) := hcA 4
    have hc5 : wc.cell? ⟨w.heap.size, 5, none⟩ = some (.int .i64 x4) := hcA 5
    have hc6 : wc.cell? ⟨w.heap.size, 6, none⟩ = some (.int .i64 x5) := hcA 6
    have hc7 : wc.cell? ⟨w.heap.size, 7, none⟩ = some (.int .i64 x6) := hcA 7
    have hc8 : wc.cell? ⟨w.heap.size, 8, none⟩ = some (.int .i64 x7) := hcA 8
    have hc9 : wc.cell? ⟨w.heap.size, 9, none⟩ = some (.int .i64 r.root.t0) := hcA 9
    have hc10 : wc.cell? ⟨w.heap.size, 10, none⟩ = some (.int .i64 r.root.t1) := hcA 10
    have hc11 : wc.cell? ⟨w.heap.size, 11, none⟩ = some (.slice xp xl xc) := hcA 11
    have hcv : wc.cell? ⟨w.heap.size + 1, 0, none⟩ = some (.int .i64 v) := (Hs.out.below.cell (p := ⟨w.heap.size + 1, 0, none⟩) (by simp; omega)).trans (cell_of_row W3 _ 0 _ _ _ HgB.out)
    clear hcA
    have HkC : Hid (Keeps w wc) := Lib.hid (Hk3.out.trans (Keeps.of_below Hs.out.below))
    obtain ⟨gv, hgv⟩ : ∃ gv, gv = r.get i := ⟨_, rfl⟩
    rw [← hgv] at Hget Hfin
    obtain ⟨z, hz⟩ : ∃ z : Bool, z = decide (v = 0 ∧ gv = 0) := ⟨_, rfl⟩
    have Hz := Lib.hid hz
    clear hz hgv
    go_upto_region 7 with fail
    go_cut [38] from 31 to 38 (fun s38 wx => s38 = .bool z ∧ Hid (SetAt W3 g H r.root wx))
    case first =>
      by_cases hv0 : v = 0
      · subst hv0
        go_wp2_with fail
        (with_reducible refine (Hget.out wc HkC.out).mono ?_)
        rintro e w6 ⟨rfl, hB6⟩
        have Hs6 := Lib.hid (Hs.out.kept hB6)
        clear hB6
        go_wp2_with fail
        go_meet
        case rel =>
          exact ⟨by rw [Hz.out]; congr 1; by_cases q : gv = 0 <;> simp [q], Hs6⟩
      · have hv1' : (v == 0) = false := by simpa using hv0
        go_wp2_with fail
        go_meet
        case rel =>
          exact ⟨by rw [Hz.out]; congr 1; simp [hv0], Hs⟩
    case rest =>
      obtain ⟨rfl, Hs'⟩ := hcut
      clear hc0 hc1 hc2 hc3 hc4 hc5 hc6 hc7 hc8 hc9 hc10 hc11 hcv HkC Hs Hget
      rename World => w6
      cases z with
      | true =>
        have hfin : fin = (r, 0) := by rw [← Hfin.out, if_pos (by simpa using Hz.out.symm)]
        obtain ⟨cs, hgc, hcs, hone, hR⟩ := Hs'.out.fin (b := w.heap.size + 2) hh1' (by omega)
        have hgb := ((Hs'.out.below.block (w.heap.size + 2) (by omega)).trans HgC.out)
        have hsz28 : (Try.prog.info? 28).map (·.size) = some cs.size := by rw [hcs]; exact size28
        have hbf : Below w.heap.size w (w6.setRow (w.heap.size + 2) cs) := Below.putRow (HbW.out.trans (Hs'.out.below.mono (by omega))) (by omega) _
        have hpost := HP.out (.returned (.tuple #[.agg cs, .int .i64 0])) _ ⟨⟨cs, by rw [hfin], by rw [hfin]; have := hR; rw [← HH.out] at this; exact this.mono (by omega)⟩, hbf⟩
        have Hpost := Lib.hid hpost
        have Hgb := Lib.hid hgb
        have Hgc := Lib.hid hgc
        have Hcs := Lib.hid hcs
        have Hone := Lib.hid hone
        have Hsz := Lib.hid hsz28
        have Hes : Hid (emptyCells.size = cs.size) := Lib.hid (by rw [hcs]; rfl)
        clear hpost hgb hgc hcs hone hsz28 hR hbf hfin
        go_wp2_with (first
          | (refine wpList_load_row (by rfl) 28 (.tmp 9) (by rfl) g (by rfl) 28 cs _ _ (by with_reducible exact Hgc.out) Try.underlying28 (by rfl) (by with_reducible exact Hsz.out) ?_)
          | (refine wpList_store_row (by rfl) 28 (.tmp 6) (.tmp 39) (by rfl) (w.heap.size + 1 + 1) cs (by rfl) (by rfl) 28 _ (by with_reducible exact Hgb.out) (by with_reducible exact Hsz.out) (by with_reducible exact Hes.out) (by with_reducible exact Hone.out) ?_))
        exact bodyPost_ret (results_cell_tmp (p := 6) (q := 7) rfl _ _ (w.heap.size + 2) _ rfl (load28 (setRow_heap _ _ _ _ _ _ Hgb.out) Hcs.out)) rfl Hpost.out
      | false =>
        have hHt : r.h.toNat = H := by have := HH.out; omega
        have hfin : fin = (⟨((setM H r.root i v).1 : Int), (setM H r.root i v).2⟩, 0) := by rw [← Hfin.out, if_neg (by simpa using Hz.out.symm), hHt]
        have hgrow := Hgrow.out
        rw [hHt] at hgrow
        obtain ⟨gh, gn, hG⟩ : ∃ gh gn, growL 11 (H == 0) H r.root i = (gh, gn) := ⟨_, _, rfl⟩
        have hset : setM H r.root i v = shrinkM gh (gn.upd (setChg v) (gh - 1) i) := by unfold setM; rw [hG]
        rw [hG] at hgrow
        rw [hset] at hfin
        obtain ⟨hni, hgh⟩ := hgrow
        simp only at hni hgh
        obtain ⟨bl, hbl⟩ : ∃ bl : Bool, bl = (H == 0) := ⟨_, rfl⟩
        rw [← hbl] at hG
        have hHb : ((H : Int) == 0) = bl := by rw [hbl]; cases H <;> rfl
        have hH0 := Hs'.out.cell0
        have HG := Lib.hid hG
        have Hfin2 := Lib.hid hfin
        have Hni := Lib.hid hni
        have Hbl := Lib.hid hbl
        clear hHt hfin hset hG hni hbl Hfin Hgrow Hnice Hha HH Hz
        go_wp2_with fail
        clear hHb hH0
        go_loopw [] (fun wr => ∃ (h' f : Nat) (n' : Nd), f + h' = 11 + H ∧ h' ≤ 10 ∧ H ≤ h' ∧ Hid (growL f bl h' n' i = (gh, gn)) ∧ Hid (SetAt W3 g h' n' wr))
          (fun wr => 11 - (match wr.cell? ⟨g, 0, none⟩ with | some v => (intOf v).toNat | none => 0))
        case atStart => exact ⟨H, 11, r.root, rfl, hh1', Nat.le_refl _, HG, Hs'⟩
        case round =>
          obtain ⟨h', f, n', hf, hh', hHh, HGr, Hsr⟩ := hrel
          rename World => wo
          obtain ⟨L, hL⟩ : ∃ L : Int, L = (h' : Int) := ⟨_, rfl⟩
          have hc0 := Hsr.out.cell0
          rw [← hL] at hc0
          have hfz := Hsr.out.frozen 0
          have hgl := Hsr.out.lt
          obtain ⟨tb, htb⟩ : ∃ tb : Bool, tb = decide (h' = 0 ∨ 0 < i / 8 ^ h') := ⟨_, rfl⟩
          have Htb := Lib.hid htb
          have HL := Lib.hid hL
          have hL0 : 0 ≤ L := by omega
          have hL1 : L ≤ 10 := by omega
          have hcase : (L = 0 ∧ tb = true) ∨ ((L == 0) = false ∧ decide ((0 : Int) < (i : Int) / 2 ^ (3 * L).toNat) = tb) := by
            by_cases h0 : h' = 0
            · exact .inl ⟨by omega, by rw [htb]; simp [h0]⟩
            · refine .inr ⟨by simp; omega, ?_⟩
              have e : (2 : Int) ^ (3 * L).toNat = ((8 ^ h' : Nat) : Int) := by
                rw [show (3 * L).toNat = 3 * h' by omega, show (8 : Nat) = 2 ^ 3 by rfl, ← Nat.pow_mul]; simp
              rw [e, ← Int.natCast_ediv, htb]
              apply decide_eq_decide.2
              rw [Int.natCast_pos]
              exact ⟨fun q => .inr q, fun q => q.resolve_left h0⟩
          have Hcase := Lib.hid hcase
          clear hcase hL htb
          go_upto_region 10 with fail
          go_cut [53] from 43 to 69 (fun s53 wx => s53 = .bool tb ∧ wx = wo)
          case first =>
            rcases Hcase.out with ⟨rfl, rfl⟩ | ⟨hl0, hlq⟩
            · go_wp2_with fail
              go_meet
              case rel => exact ⟨rfl, rfl⟩
            · go_wp2_with fail
              go_meet
              case rel => exact ⟨rfl, rfl⟩
          case rest =>
            obtain ⟨rfl, rfl⟩ := hcut
            have htb2 := Htb.out
            clear Hcase Htb
            obtain ⟨f, rfl⟩ : ∃ f', f = f' + 1 := ⟨f - 1, by omega⟩
            cases tb with
            | false =>
              have hnot : ¬(h' = 0 ∨ 0 < i / 8 ^ h') := by simpa using htb2.symm
              have hgr := HGr.out
              unfold growL at hgr
              rw [if_neg hnot] at hgr
              injection hgr with q1 q2
              subst q1 q2
              obtain ⟨l, rfl⟩ : ∃ l, h' = l + 1 := ⟨h' - 1, by omega⟩
              have hupd := SetAt.update (set1_spec (w.heap.size + 1) v ⟨hv1, hv2⟩) (fun W W' hk hC => by
                  rw [World.cell?] at hC ⊢
                  rw [hk _ rfl]; exact hC) (.inl rfl) (cell_of_row W3 _ 0 _ _ _ HgB.out) (fun k hk => by omega) i (by omega) (by omega) Hsr.out (nice_fit l _ Hni.out)
              rw [show (l : Int) + 1 = L by rw [HL.out]; omega] at hupd
              have Hupd := Lib.hid hupd
              clear hnot hupd htb2
              go_wp2_with fail
              (with_reducible refine Hupd.out.mono ?_)
              rintro e w7 ⟨rfl, hs7⟩
              have hshr := hs7.shrink (fun q => low_nice _ _ (nice_upd l _ i Hni.out) q) (by omega)
              have Hshr := Lib.hid hshr
              clear hshr hs7
              go_wp2_with fail
              (with_reducible refine Hshr.out.mono ?_)
              rintro e w8 ⟨rfl, hs8⟩
              have hle := shrinkM_le (l + 1) (n'.upd (setChg v) l i)
              have hfin := Hfin2.out
              rw [show l + 1 - 1 = l from rfl] at hfin
              obtain ⟨rh, rn, hrr⟩ : ∃ rh rn, shrinkM (l + 1) (n'.upd (setChg v) l i) = (rh, rn) := ⟨_, _, rfl⟩
              rw [hrr] at hle hs8 hfin
              simp only at hle hs8 hfin
              obtain ⟨cs, hgc, hcs, hone, hR⟩ := hs8.fin (b := w.heap.size + 2) (by omega) (by omega)
              have hgb := ((hs8.below.block (w.heap.size + 2) (by omega)).trans HgC.out)
              have hsz28 : (Try.prog.info? 28).map (·.size) = some cs.size := by rw [hcs]; exact size28
              have hbf : Below w.heap.size w (w8.setRow (w.heap.size + 2) cs) := Below.putRow (HbW.out.trans (hs8.below.mono (by omega))) (by omega) _
              have hpost := HP.out (.returned (.tuple #[.agg cs, .int .i64 0])) _ ⟨⟨cs, by rw [hfin], by rw [hfin]; exact hR.mono (by omega)⟩, hbf⟩
              have Hpost := Lib.hid hpost
              have Hgb := Lib.hid hgb
              have Hgc := Lib.hid hgc
              have Hcs := Lib.hid hcs
              have Hone := Lib.hid hone
              have Hsz := Lib.hid hsz28
              have Hes : Hid (emptyCells.size = cs.size) := Lib.hid (by rw [hcs]; rfl)
              clear hpost hgb hgc hcs hone hsz28 hR hbf hfin hrr hs8
              go_wp2_with (first
                | (refine wpList_load_row (by rfl) 28 (.tmp 9) (by rfl) g (by rfl) 28 cs _ _ (by with_reducible exact Hgc.out) Try.underlying28 (by rfl) (by with_reducible exact Hsz.out) ?_)
                | (refine wpList_store_row (by rfl) 28 (.tmp 6) (.tmp 77) (by rfl) (w.heap.size + 1 + 1) cs (by rfl) (by rfl) 28 _ (by with_reducible exact Hgb.out) (by with_reducible exact Hsz.out) (by with_reducible exact Hes.out) (by with_reducible exact Hone.out) ?_))
              exact bodyPost_ret (results_cell_tmp (p := 6) (q := 7) rfl _ _ (w.heap.size + 2) _ rfl (load28 (setRow_heap _ _ _ _ _ _ Hgb.out) Hcs.out)) rfl Hpost.out
            | true =>
              have hyes : h' = 0 ∨ 0 < i / 8 ^ h' := by simpa using htb2.symm
              have hlt : h' < 10 := by
                rcases hyes with q | q
                · omega
                · rcases Nat.lt_or_ge h' 10 with q1 | q1
                  · exact q1
                  · obtain rfl : h' = 10 := by omega
                    rw [Nat.div_eq_of_lt (by omega)] at q; omega
              have hgr := HGr.out
              unfold growL at hgr
              rw [if_pos hyes] at hgr
              have HGr2 := Lib.hid hgr
              clear hgr hyes htb2
              cases bl with
              | true =>
                have hS2 := Hsr.out.setH (h' + 1)
                rw [show ((h' + 1 : Nat) : Int) = L + 1 by rw [HL.out]; omega] at hS2
                have HS2 := Lib.hid hS2
                clear hS2
                go_wp2_with fail
                go_roundw
                case rel => exact ⟨h' + 1, f, n', by omega, by omega, by omega, Lib.hid (by have := HGr2.out; simpa using this), HS2⟩
                case measure =>
                  rw [HS2.out.cell0, Hsr.out.cell0]
                  simp [intOf]; omega
              | false =>
                obtain ⟨c, S2, hc11, hrow, hone, hthere, hN, hre⟩ := Hsr.out.up
                have hmk := make8
                go_upto_region 13 with fail
                have hcell : (upW wc).cell? ⟨wc.heap.size + 1, 10, none⟩ = some (.slice (some ⟨wc.heap.size, 0, none⟩) 8 8) := cell_of_row _ _ 10 _ _ _ (upW_new wc)
                change Code.wp Try.prog _ _ _ (upW wc)
                generalize upW wc = w12 at hrow hthere hN hre hcell ⊢
                have h26 : (Try.prog.info? 26).map (·.size) = some c.size := by rw [hc11]; exact size26
                have hcall := refresh_spec hN (by simp) 0 (by omega) n' rfl
                rw [show ((0 : Nat) : Int) = 0 from rfl] at hcall
                have Hcall := Lib.hid hcall
                have Hrow := Lib.hid hrow
                have Hthere := Lib.hid hthere
                have Hone := Lib.hid hone
                have Hc11 := Lib.hid hc11
                have H26 := Lib.hid h26
                have Hre := Lib.hid hre
                clear hrow hthere hone hN hre hc11 h26 hcall hmk hc0 hfz
                go_wp2_with (first
                  | (refine wpList_load_nd (.tmp 60) (by rfl) (by rfl) g 1 (by rfl) c (by with_reducible exact Hc11.out) (by with_reducible exact Hrow.out) ?_)
                  | (refine wpList_store_mid (by rfl) 26 (.tmp 62) (.tmp 61) (by rfl) wc.heap.size 0 c (by rfl) (by rfl) (by with_reducible exact Hthere.out) (by with_reducible exact H26.out) (by with_reducible exact Hone.out) ?_))
                (with_reducible refine Hcall.out.mono ?_)
                rintro e w14 ⟨rfl, hN14, hT14⟩
                obtain ⟨c', hc11', hrow', hone', hthere', hs15⟩ := Hre.out w14 (upNd n') hT14 hN14
                have hc0' := hs15.cell0
                rw [← HL.out] at hc0'
                have hfz' := hs15.frozen 0
                have hS2 := hs15.setH (h' + 1)
                rw [show ((h' + 1 : Nat) : Int) = L + 1 by rw [HL.out]; omega] at hS2
                have HS2 := Lib.hid hS2
                have h26' : (Try.prog.info? 26).map (·.size) = some c'.size := by rw [hc11']; exact size26
                have Hrow' := Lib.hid hrow'
                have Hthere' := Lib.hid hthere'
                have Hone' := Lib.hid hone'
                have Hc11' := Lib.hid hc11'
                have H26' := Lib.hid h26'
                clear hrow' hthere' hone' hc11' h26' hS2 hs15 hT14 hN14 Hre Hcall hcell Hrow Hthere Hone Hc11 H26
                go_wp2_with (first
                  | (refine wpList_load_nd (.tmp 11) (by rfl) (by rfl) (wc.heap.size + 1) 0 (by rfl) c' (by with_reducible exact Hc11'.out) (by with_reducible exact Hrow'.out) ?_)
                  | (refine wpList_store_mid (by rfl) 26 (.tmp 65) (.tmp 64) (by rfl) g 1 c' (by rfl) (by rfl) (by with_reducible exact Hthere'.out) (by with_reducible exact H26'.out) (by with_reducible exact Hone'.out) ?_))
                go_roundw
                case rel => exact ⟨h' + 1, f, upNd n', by omega, by omega, by omega, Lib.hid (by have := HGr2.out; simpa using this), HS2⟩
                case measure =>
                  rw [HS2.out.cell0, Hsr.out.cell0]
                  simp [intOf]; omega
end Go.Proofs.Ytmdmbnpgdkmklaa
