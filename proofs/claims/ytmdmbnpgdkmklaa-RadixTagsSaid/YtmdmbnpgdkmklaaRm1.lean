/- radix.mark: the walk where the index is in range. -/
import Derived.Test.YtmdmbnpgdkmklaaRl9
namespace Go.Proofs.Ytmdmbnpgdkmklaa
open Go.RowKit
set_option linter.unusedVariables false
set_option linter.unusedSimpArgs false

set_option maxRecDepth 100000 in
set_option maxHeartbeats 8000000 in
theorem mark_main {w : World} {r : Rx} {c : Array Value} {i tag : Nat} {on : Bool} (h : IsR w r c) (hi : i < 1073741824) (ht : tag ≤ 1) (hc : r.check = 0) :
    Calls Try.prog 87 #[.agg c, .int .i64 i, .int .i64 tag, .bool on] w (RPost w (if r.get i = 0 then (Rx.empty, 6) else (⟨r.h, r.root.upd (markChg tag on) (r.h.toNat - 1) i⟩, 0))) := by
  obtain ⟨fin, hfin⟩ : ∃ fin : Rx × Int, (if r.get i = 0 then (Rx.empty, 6) else (⟨r.h, r.root.upd (markChg tag on) (r.h.toNat - 1) i⟩, 0)) = fin := ⟨_, rfl⟩
  obtain ⟨post, hpost⟩ : ∃ post, post = RPost w fin := ⟨_, rfl⟩
  have HP : Hid (∀ e W', RPost w fin e W' → post e W') := Lib.hid (by rw [hpost]; exact fun e W' a => a)
  rw [hfin, ← hpost]
  have hget := fun (W : World) (k : Keeps w W) => Get_spec (h.keeps k) (i := (i : Int)) ⟨by omega, by omega⟩
  have hch := fun (W : World) (k : Keeps w W) => Check_spec (h.keeps k)
  rw [hc] at hch
  obtain ⟨hh0, hh1, hha, hok⟩ := check_zero hc
  have hslim : Slim r.root := by
    rcases Int.lt_or_le r.h 1 with q | q
    · exact slim_absent (hha (by omega))
    · have := hok q
      rw [show r.h.toNat = (r.h.toNat - 1) + 1 by omega] at this
      exact slim_ok _ _ this
  have hnice : r.root.nice (r.h.toNat - 1) := by
    rcases Int.lt_or_le r.h 1 with q | q
    · exact nice_absent (hha (by omega)) _
    · have := hok q
      rw [show r.h.toNat = (r.h.toNat - 1) + 1 by omega] at this
      obtain ⟨_, nc, _, hn⟩ := h
      exact nice_ok _ _ hn.wf this
  obtain ⟨gv, hgv⟩ : ∃ gv, gv = r.get i := ⟨_, rfl⟩
  rw [← hgv] at hget hfin
  have hpos : gv ≠ 0 → 1 ≤ r.h := fun q => by
    rcases Int.lt_or_le r.h 1 with q1 | q1
    · exfalso; apply q; rw [hgv]; unfold Rx.get
      rw [set_opt_leaf_none (w := w) (.inr (.inr (.inr (.inr (by omega)))))]
    · exact q1
  clear hgv
  have hR := h
  obtain ⟨hh, nc, rfl, hn0⟩ := h
  have hcl := fun (W : World) (k : Keeps w W) => clone_spec hn0 hslim W k
  obtain ⟨x0, x1, x2, x3, x4, x5, x6, x7, xp, xl, xc, rfl⟩ := hn0.lit
  simp only [List.append_toArray, List.cons_append, List.nil_append] at hch hget hcl ⊢
  have Hch := Lib.hid hch
  have Hget := Lib.hid hget
  have Hcl := Lib.hid hcl
  have Hfin := Lib.hid hfin
  have Hnice := Lib.hid hnice
  have Hpos := Lib.hid hpos
  obtain ⟨H, hH⟩ : ∃ H : Nat, r.h = (H : Int) := ⟨r.h.toNat, by omega⟩
  rw [hH] at Hch Hget hh1 ⊢
  have hh1' : H ≤ 10 := by omega
  have HH := Lib.hid hH
  clear hch hget hcl hfin hnice hha hok hc hslim hR hh hn0 hpost hh0 hH hpos
  have ht0 : (tag : Int) ≤ 1 := by omega
  have ht1 : decide ((1 : Int) < (tag : Int)) = false := by simp; omega
  have hone : emptyCells.all (·.oneCell') = true := by simp [emptyCells, Value.oneCell']
  have hsz28e : (Try.prog.info? 28).map (·.size) = some emptyCells.size := size28
  have hb3 := boxes4 w (.cells #[.int .i64 H, .int .i64 x0, .int .i64 x1, .int .i64 x2, .int .i64 x3, .int .i64 x4, .int .i64 x5, .int .i64 x6, .int .i64 x7, .int .i64 r.root.t0, .int .i64 r.root.t1, .slice xp xl xc] 28) (.cells #[.int .i64 tag] 3) (.cells #[.bool on] 4) (.cells emptyCells 28)
  have hk3 : Keeps w ((((w.alloc (.cells #[.int .i64 H, .int .i64 x0, .int .i64 x1, .int .i64 x2, .int .i64 x3, .int .i64 x4, .int .i64 x5, .int .i64 x6, .int .i64 x7, .int .i64 r.root.t0, .int .i64 r.root.t1, .slice xp xl xc] 28)).alloc (.cells #[.int .i64 tag] 3)).alloc (.cells #[.bool on] 4)).alloc (.cells emptyCells 28)) := Keeps.of_below hb3.1
  go_enter Try.func87, Try.ntmps87
  go_wp2_with fail
  (with_reducible refine (Hch.out _ ((Keeps.alloc _ _).trans ((Keeps.alloc _ _).trans ((Keeps.alloc _ _).trans (Keeps.alloc _ _))))).mono ?_)
  obtain ⟨W3, hW3⟩ : ∃ W3, W3 = ((((w.alloc (.cells #[.int .i64 H, .int .i64 x0, .int .i64 x1, .int .i64 x2, .int .i64 x3, .int .i64 x4, .int .i64 x5, .int .i64 x6, .int .i64 x7, .int .i64 r.root.t0, .int .i64 r.root.t1, .slice xp xl xc] 28)).alloc (.cells #[.int .i64 tag] 3)).alloc (.cells #[.bool on] 4)).alloc (.cells emptyCells 28)) := ⟨_, rfl⟩
  rw [← hW3] at hb3 hk3
  rintro e w2 ⟨rfl, hB2⟩
  replace hB2 : Below W3.heap.size W3 w2 := by rw [hW3]; exact hB2
  have Hk3 := Lib.hid hk3
  obtain ⟨hbW, hs3, hgA, hgB, hgT, hgC⟩ := hb3
  have HbW := Lib.hid hbW
  have HgC := Lib.hid hgC
  have HgA := Lib.hid hgA
  have HgB := Lib.hid hgB
  have HgT := Lib.hid hgT
  have HB2 := Lib.hid hB2
  clear hB2 hbW hgA hgB hgC hgT hk3 hW3
  have hcA := fun q => (HB2.out.cell (p := ⟨w.heap.size, q, none⟩) (by simp; omega)).trans (cell_of_row W3 w.heap.size q _ _ _ HgA.out)
  have hc0 : w2.cell? ⟨w.heap.size, 0, none⟩ = some (.int .i64 H) := hcA 0
  have hc1 : w2.cell? ⟨w.heap.size, 1, none⟩ = some (.int .i64 x0) := hcA 1
  have hc2 : w2.cell? ⟨w.heap.size, 2, none⟩ = some (.int .i64 x1) := hcA 2
  have hc3 : w2.cell? ⟨w.heap.size, 3, none⟩ = some (.int .i64 x2) := hcA 3
  have hc4 : w2.cell? ⟨w.heap.size, 4, none⟩ = some (.int .i64 x3) := hcA 4
  have hc5 : w2.cell? ⟨w.heap.size, 5, none⟩ = some (.int .i64 x4) := hcA 5
  have hc6 : w2.cell? ⟨w.heap.size, 6, none⟩ = some (.int .i64 x5) := hcA 6
  have hc7 : w2.cell? ⟨w.heap.size, 7, none⟩ = some (.int .i64 x6) := hcA 7
  have hc8 : w2.cell? ⟨w.heap.size, 8, none⟩ = some (.int .i64 x7) := hcA 8
  have hc9 : w2.cell? ⟨w.heap.size, 9, none⟩ = some (.int .i64 r.root.t0) := hcA 9
  have hc10 : w2.cell? ⟨w.heap.size, 10, none⟩ = some (.int .i64 r.root.t1) := hcA 10
  have hc11 : w2.cell? ⟨w.heap.size, 11, none⟩ = some (.slice xp xl xc) := hcA 11
  clear hcA
  have hct : w2.cell? ⟨w.heap.size + 1, 0, none⟩ = some (.int .i64 tag) := (HB2.out.cell (p := ⟨w.heap.size + 1, 0, none⟩) (by simp; omega)).trans (cell_of_row W3 _ 0 _ _ _ HgB.out)
  go_wp2_with fail
  (with_reducible refine (Hget.out _ (Hk3.out.trans (Keeps.of_below HB2.out))).mono ?_)
  rintro e w22 ⟨rfl, hB22⟩
  replace HB2 := Lib.hid (HB2.out.trans (hB22.mono HB2.out.size))
  clear hB22 hc0 hc1 hc2 hc3 hc4 hc5 hc6 hc7 hc8 hc9 hc10 hc11 hct
  clear w2
  rename World => w2
  by_cases hz : gv = 0
  · subst hz
    have hfin : fin = (Rx.empty, 6) := by rw [← Hfin.out, if_pos rfl]
    have hg : w2.heap[w.heap.size + 3]? = some (.cells emptyCells 28 (0, 0)) := (HB2.out.block _ (by omega)).trans HgC.out
    have hpost := HP.out (.returned (.tuple #[.agg emptyCells, .int .i64 6])) (w2.setRow (w.heap.size + 3) emptyCells) ⟨⟨_, by rw [hfin], by rw [hfin]; exact ownR_empty _ _⟩, Below.putRow (HbW.out.trans (HB2.out.mono (by omega))) (by omega) _⟩
    have Hpost := Lib.hid hpost
    have Hg := Lib.hid hg
    clear hpost hg hfin
    go_wp2_with (first | (refine wpList_store_row (by rfl) 28 (.tmp 8) (.tmp 40) (by rfl) (w.heap.size + 1 + 1 + 1) emptyCells (by rfl) (by rfl) 28 _ (by with_reducible exact Hg.out) hsz28e (by rfl) hone ?_))
    exact bodyPost_ret (results_cell_tmp (p := 8) (q := 9) rfl _ _ (w.heap.size + 3) _ rfl (load28 (setRow_heap _ _ _ _ _ _ Hg.out) rfl)) rfl Hpost.out
  · have hz' : (gv == 0) = false := by simpa using hz
    have hfin : fin = (⟨r.h, r.root.upd (markChg tag on) (r.h.toNat - 1) i⟩, 0) := by rw [← Hfin.out, if_neg hz]
    have hHp := Hpos.out hz
    have hHt : r.h.toNat = H := by have := HH.out; omega
    have hnice := Hnice.out
    rw [hHt] at hfin hnice
    obtain ⟨l, rfl⟩ : ∃ l, H = l + 1 := ⟨H - 1, by have := HH.out; omega⟩
    have Hfin2 := Lib.hid hfin
    have Hni := Lib.hid hnice
    clear hfin hHp hHt hnice Hfin Hnice Hpos Hget Hch
    obtain ⟨H, hHl⟩ : ∃ H, H = l + 1 := ⟨_, rfl⟩
    rw [← hHl] at hh1' hh1 HgA HH ⊢
    have HHl := Lib.hid hHl
    clear hHl
    go_upto_region 10 with fail
    have hcA := fun q => (HB2.out.cell (p := ⟨w.heap.size, q, none⟩) (by simp; omega)).trans (cell_of_row W3 w.heap.size q _ _ _ HgA.out)
    have hc0 : w2.cell? ⟨w.heap.size, 0, none⟩ = some (.int .i64 H) := hcA 0
    have hc1 : w2.cell? ⟨w.heap.size, 1, none⟩ = some (.int .i64 x0) := hcA 1
    have hc2 : w2.cell? ⟨w.heap.size, 2, none⟩ = some (.int .i64 x1) := hcA 2
    have hc3 : w2.cell? ⟨w.heap.size, 3, none⟩ = some (.int .i64 x2) := hcA 3
    have hc4 : w2.cell? ⟨w.heap.size, 4, none⟩ = some (.int .i64 x3) := hcA 4
    have hc5 : w2.cell? ⟨w.heap.size, 5, none⟩ = some (.int .i64 x4) := hcA 5
    have hc6 : w2.cell? ⟨w.heap.size, 6, none⟩ = some (.int .i64 x5) := hcA 6
    have hc7 : w2.cell? ⟨w.heap.size, 7, none⟩ = some (.int .i64 x6) := hcA 7
    have hc8 : w2.cell? ⟨w.heap.size, 8, none⟩ = some (.int .i64 x7) := hcA 8
    have hc9 : w2.cell? ⟨w.heap.size, 9, none⟩ = some (.int .i64 r.root.t0) := hcA 9
    have hc10 : w2.cell? ⟨w.heap.size, 10, none⟩ = some (.int .i64 r.root.t1) := hcA 10
    have hc11 : w2.cell? ⟨w.heap.size, 11, none⟩ = some (.slice xp xl xc) := hcA 11
    clear hcA
    have HkD : Hid (Keeps w w2.drew) := Lib.hid (Hk3.out.trans (Keeps.of_below HB2.out.drew))
    have HkA : Hid (∀ o, Keeps w (w2.alloc o).drew) := Lib.hid (fun o => Hk3.out.trans (Keeps.of_below (HB2.out.alloc HB2.out.size o).drew))
    have hlt2 : w.heap.size < w2.heap.size := by have := HB2.out.size; omega
    go_cut [11] from 41 to 46 (fun s11 wx => ∃ g : Nat, s11 = .pointer (some ⟨g, 0, none⟩) ∧ Hid (SetAt W3 g H r.root wx))
    case first =>
      go_region_law (first
        | (go_simp; go_at_call 72
           (with_reducible refine (Hcl.out w2.drew HkD.out).mono ?_)
           rintro e w5 ⟨⟨c5, S5, rfl, hO, hS⟩, hB5⟩
           obtain ⟨y0, y1, y2, y3, y4, y5, y6, y7, yp, yl, yc, rfl⟩ := hO.isN.lit
           have hc05 : w5.cell? ⟨w.heap.size, 0, none⟩ = some (.int .i64 H) := Keeps.of_below hB5 _ _ hc0
           have hlt5 := lt_of_cell hc05
           have hF := setAt_newL (H := H) HB2.out hB5 hO hS
           have HF := Lib.hid hF
           clear hF
           have HO := Lib.hid hO
           have HS := Lib.hid hS
           have HB5 := Lib.hid hB5
           clear hO hS hB5)
        | (go_simp; go_at_call 72
           (with_reducible refine (Hcl.out (w2.alloc (.cells #[.int .i64 0, .int .i64 0, .int .i64 0, .int .i64 0, .int .i64 0, .int .i64 0, .int .i64 0, .int .i64 0, .int .i64 0, .int .i64 0, .int .i64 0, .slice none 0 0] 28)).drew (HkA.out _)).mono ?_)
           rintro e w5 ⟨⟨c5, S5, rfl, hO, hS⟩, hB5⟩
           obtain ⟨y0, y1, y2, y3, y4, y5, y6, y7, yp, yl, yc, rfl⟩ := hO.isN.lit
           have hc05 : w5.cell? ⟨w.heap.size, 0, none⟩ = some (.int .i64 H) := Keeps.of_below hB5 _ _ (Keeps.alloc w2 _ _ _ hc0)
           have hg5 : w5.heap[w2.heap.size]? = some (.cells #[.int .i64 0, .int .i64 0, .int .i64 0, .int .i64 0, .int .i64 0, .int .i64 0, .int .i64 0, .int .i64 0, .int .i64 0, .int .i64 0, .int .i64 0, .slice none 0 0] 28 (0, 0)) := (hB5.block w2.heap.size (by simp)).trans (heap_alloc_new w2 _)
           have hcz := fun q => cell_of_row w5 w2.heap.size q _ _ _ hg5
           have hz0 : w5.cell? ⟨w2.heap.size, 0, none⟩ = some (.int .i64 0) := hcz 0
           have hz1 : w5.cell? ⟨w2.heap.size, 1, none⟩ = some (.int .i64 0) := hcz 1
           have hz2 : w5.cell? ⟨w2.heap.size, 2, none⟩ = some (.int .i64 0) := hcz 2
           have hz3 : w5.cell? ⟨w2.heap.size, 3, none⟩ = some (.int .i64 0) := hcz 3
           have hz4 : w5.cell? ⟨w2.heap.size, 4, none⟩ = some (.int .i64 0) := hcz 4
           have hz5 : w5.cell? ⟨w2.heap.size, 5, none⟩ = some (.int .i64 0) := hcz 5
           have hz6 : w5.cell? ⟨w2.heap.size, 6, none⟩ = some (.int .i64 0) := hcz 6
           have hz7 : w5.cell? ⟨w2.heap.size, 7, none⟩ = some (.int .i64 0) := hcz 7
           have hz8 : w5.cell? ⟨w2.heap.size, 8, none⟩ = some (.int .i64 0) := hcz 8
           have hz9 : w5.cell? ⟨w2.heap.size, 9, none⟩ = some (.int .i64 0) := hcz 9
           have hz10 : w5.cell? ⟨w2.heap.size, 10, none⟩ = some (.int .i64 0) := hcz 10
           have hz11 : w5.cell? ⟨w2.heap.size, 11, none⟩ = some (.slice none 0 0) := hcz 11
           have hfz := fun q => frozen_of_row w5 w2.heap.size q _ _ hg5
           have hlt5 := lt_of_cell hc05
           have hF := setAt_putL (H := H) HB2.out hB5 hg5 hO hS
           have HF := Lib.hid hF
           clear hF
           have HO := Lib.hid hO
           have HS := Lib.hid hS
           have HB5 := Lib.hid hB5
           have HG5 := Lib.hid hg5
           clear hO hS hB5 hcz hg5))
      all_goals
        go_wp2_with fail
        go_meet
        case rel =>
          exact ⟨_, rfl, HF⟩
    case rest =>
      obtain ⟨g, rfl, Hs⟩ := hcut
      clear hc0 hc1 hc2 hc3 hc4 hc5 hc6 hc7 hc8 hc9 hc10 hc11 HkD HkA hlt2 HB2 Hcl
      obtain rfl := HHl.out
      have hC0 : W3.cell? ⟨w.heap.size + 1, 0, none⟩ = some (.int .i64 tag) ∧ W3.cell? ⟨w.heap.size + 1 + 1, 0, none⟩ = some (.bool on) := ⟨cell_of_row W3 _ 0 _ _ _ HgB.out, cell_of_row W3 _ 0 _ _ _ HgT.out⟩
      have hupd := SetAt.update (mark1_spec (w.heap.size + 1) (w.heap.size + 1 + 1) tag on ht) (fun W W' hk hC => by
          rw [World.cell?, World.cell?] at hC ⊢
          rw [hk _ (.inl rfl), hk _ (.inr rfl)]; exact hC) (.inr rfl) hC0 (fun k hk => by omega) i (by omega) (by omega) Hs.out (nice_fit l _ Hni.out)
      obtain ⟨L, hL⟩ : ∃ L : Int, L = (l : Int) + 1 := ⟨_, rfl⟩
      have hc0 := Hs.out.cell0
      rw [show ((l + 1 : Nat) : Int) = L by rw [hL]; omega] at hc0
      rw [← hL] at hupd
      have Hupd := Lib.hid hupd
      clear hupd hC0 hL
      go_wp2_with fail
      (with_reducible refine Hupd.out.mono ?_)
      rintro e w8 ⟨rfl, hs8⟩
      obtain ⟨cs, hgc, hcs, hone, hR⟩ := hs8.fin (b := w.heap.size + 3) (by omega) (by omega)
      have hgb := ((hs8.below.block (w.heap.size + 3) (by omega)).trans HgC.out)
      have hsz28 : (Try.prog.info? 28).map (·.size) = some cs.size := by rw [hcs]; exact size28
      have hbf : Below w.heap.size w (w8.setRow (w.heap.size + 3) cs) := Below.putRow (HbW.out.trans (hs8.below.mono (by omega))) (by omega) _
      have hfin := Hfin2.out
      have hpost := HP.out (.returned (.tuple #[.agg cs, .int .i64 0])) _ ⟨⟨cs, by rw [hfin], by rw [hfin, HH.out]; exact hR.mono (by omega)⟩, hbf⟩
      have Hpost := Lib.hid hpost
      have Hgb := Lib.hid hgb
      have Hgc := Lib.hid hgc
      have Hcs := Lib.hid hcs
      have Hone := Lib.hid hone
      have Hsz := Lib.hid hsz28
      have Hes : Hid (emptyCells.size = cs.size) := Lib.hid (by rw [hcs]; rfl)
      clear hpost hgb hgc hcs hone hsz28 hR hbf hfin hs8
      go_wp2_with (first
        | (refine wpList_load_row (by rfl) 28 (.tmp 11) (by rfl) g (by rfl) 28 cs _ _ (by with_reducible exact Hgc.out) Try.underlying28 (by rfl) (by with_reducible exact Hsz.out) ?_)
        | (refine wpList_store_row (by rfl) 28 (.tmp 8) (.tmp 53) (by rfl) (w.heap.size + 1 + 1 + 1) cs (by rfl) (by rfl) 28 _ (by with_reducible exact Hgb.out) (by with_reducible exact Hsz.out) (by with_reducible exact Hes.out) (by with_reducible exact Hone.out) ?_))
      exact bodyPost_ret (results_cell_tmp (p := 8) (q := 9) rfl _ _ (w.heap.size + 3) _ rfl (load28 (setRow_heap _ _ _ _ _ _ Hgb.out) Hcs.out)) rfl Hpost.out
end Go.Proofs.Ytmdmbnpgdkmklaa
