/- RadixOrder, the law's own walk. -/
import Derived.Test.YtmdmbnpgdkmklaaRm5
namespace Go.Proofs.Ytmdmbnpgdkmklaa
open Go.RowKit
set_option linter.unusedVariables false
set_option linter.unusedSimpArgs false

set_option maxRecDepth 100000 in
set_option maxHeartbeats 8000000 in
theorem law5_spec {w : World} {v : Value} {zs : List Nat} (h : U16s w v zs) :
    Calls Try.prog 5 #[v] w fun e w' => e = .returned (.bool true) ∧ Below w.heap.size w w' := by
  obtain ⟨post, hpost⟩ : ∃ post : Ending → World → Prop, post = fun e w' => e = .returned (.bool true) ∧ Below w.heap.size w w' := ⟨_, rfl⟩
  have HP : Hid (∀ W', Below w.heap.size w W' → post (.returned (.bool true)) W') := Lib.hid (by rw [hpost]; exact fun W' a => ⟨rfl, a⟩)
  rw [← hpost]
  clear hpost
  obtain ⟨p, cap, rfl, hcell, hz, hlc, hcm⟩ := h
  obtain ⟨n, hn⟩ : ∃ n, n = zs.length := ⟨_, rfl⟩
  rw [← hn] at hlc ⊢
  have Hcell := Lib.hid hcell
  have Hz := Lib.hid hz
  have Hn := Lib.hid hn
  have hnm : n ≤ maxLen := by omega
  unfold maxLen at hnm
  clear hcell hz hn hlc hcm
  go_enter Try.func5, Try.ntmps5
  go_wp2_with fail
  (with_reducible refine (awake_spec w).mono ?_)
  rintro e wb ⟨rfl, hBb⟩
  have HbB := Lib.hid hBb
  clear hBb
  by_cases h40 : 40 < n
  · have h40' : decide ((40 : Int) < (n : Int)) = true := by simp; omega
    go_wp2_with fail
    (with_reducible refine (awake_spec wb).mono ?_)
    rintro e wd ⟨rfl, hBd⟩
    have Hfin := Lib.hid (HP.out wd (HbB.out.trans (hBd.mono HbB.out.size)))
    clear hBd
    go_wp2_with fail
    exact Hfin.out
  · have h40' : decide ((40 : Int) < (n : Int)) = false := by simp; omega
    have h40i : (n : Int) ≤ 40 := by omega
    go_wp2_with fail
    (with_reducible refine (New_spec wb).mono ?_)
    rintro e wn ⟨rfl, hBn⟩
    simp only [emptyCells]
    go_wp2_with fail
    (with_reducible refine (New_spec wn).mono ?_)
    rintro e w0 ⟨rfl, hB00⟩
    have hB0 : Below wb.heap.size wb w0 := hBn.trans (hB00.mono hBn.size)
    clear hBn hB00
    have HB0 := Lib.hid (HbB.out.trans (hB0.mono HbB.out.size))
    clear hB0 HbB
    obtain ⟨hbox1, hbox2⟩ := treeBox_two w0
    have Hbox1 := Lib.hid hbox1
    have Hbox2 := Lib.hid hbox2
    clear hbox1 hbox2
    simp only [emptyCells]
    go_upto_region 4 with fail
    obtain ⟨B, hB⟩ : ∃ B, B = w0.heap.size := ⟨_, rfl⟩
    have hB' : w0.heap.size ≤ B := by omega
    rw [← hB] at Hbox1 Hbox2 ⊢
    clear hB
    generalize (w0.alloc (.cells #[.int .i64 0, .int .i64 0, .int .i64 0, .int .i64 0, .int .i64 0, .int .i64 0, .int .i64 0, .int .i64 0, .int .i64 0, .int .i64 0, .int .i64 0, .slice none 0 0] 28)).alloc (.cells #[.int .i64 0, .int .i64 0, .int .i64 0, .int .i64 0, .int .i64 0, .int .i64 0, .int .i64 0, .int .i64 0, .int .i64 0, .int .i64 0, .int .i64 0, .slice none 0 0] 28) = w1 at Hbox1 Hbox2 ⊢
    obtain ⟨C, hC⟩ : ∃ C, C = B + 1 := ⟨_, rfl⟩
    rw [← hC] at Hbox2 ⊢
    rw [show B + 2 = C + 1 by omega] at Hbox1 Hbox2
    have hBC : B < C := by omega
    have HX0 : w0.heap.size ≤ B := hB'
    have HX1 : B < C + 1 := by omega
    have HX2 : B ≠ C := by omega
    have HY0 : w0.heap.size ≤ C := by omega
    have HY1 : C < C + 1 := by omega
    have HY2 : C ≠ B := by omega
    clear hC
    go_wp2_with fail
    go_loopw [20] (fun i wr => ∃ k : Nat, k ≤ n ∧ i = .int .i64 k ∧ Hid (TreeBox w0 (C + 1) B (putAll (fun x => x) (fun x => 1 + (x : Int)) Rx.empty (zs.take k)) wr) ∧ Hid (TreeBox w0 (C + 1) C Rx.empty wr)) (fun i _ => n - (intOf i).toNat)
    case atStart => exact ⟨0, by omega, rfl, Hbox1, Hbox2⟩
    case round =>
      obtain ⟨k, hk, rfl, Hb, Hob⟩ := hrel
      by_cases hlt : k < n
      · have HZ5 := Hz.out
        have hkz : k < zs.length := by rw [← Hn.out]; exact hlt
        obtain ⟨bb, oo, rfl, hel⟩ := Hcell.out (by intro e; rw [e] at hkz; simp at hkz)
        obtain ⟨z, hze⟩ : ∃ z, z = zs[k] := ⟨_, rfl⟩
        have hz64 : z < 65536 := by rw [hze]; exact Hz.out _ (List.getElem_mem _)
        have hnext := putAll_take (fun x => x) (fun x => 1 + (x : Int)) Rx.empty zs k hkz
        obtain ⟨rk, hrk⟩ : ∃ rk, rk = putAll (fun x => x) (fun x => 1 + (x : Int)) Rx.empty (zs.take k) := ⟨_, rfl⟩
        have hb := Hb.out
        rw [← hrk] at hb hnext
        rw [← hze] at hnext
        obtain ⟨x0, x1, x2, x3, x4, x5, x6, x7, xp, xl, xc, hg, hR, hBlt, hBw⟩ := hb.lit
        have hfine : rk.fine := by
          rw [hrk]
          exact (putAll_fine _ _ (fun x => by omega) (fun x y h => by rw [h]) _ _ fine_empty (fun x hx => by have := HZ5 x (List.mem_of_mem_take hx); omega)).1
        have hcz := hel k hkz
        rw [← hze] at hcz
        have hez : wr.cell? ⟨bb, oo + k, none⟩ = some (.int .u16 (z : Int)) := (Keeps.of_below hBw) _ _ ((Keeps.of_below HB0.out) _ _ hcz)
        have hset := fun (W : World) (q : Keeps wr W) => Set_spec (hR.keeps q) (i := (z : Int)) (v := 1 + (z : Int)) ⟨by omega, by omega⟩ ⟨by omega, by omega⟩
        obtain ⟨hs0, hs1, hs2⟩ := set_fine hfine (i := z) (by omega) (1 + (z : Int))
        obtain ⟨ns, hns⟩ : ∃ ns, ns = rk.set (z : Int) (1 + (z : Int)) := ⟨_, rfl⟩
        rw [← hns] at hset hs0
        have hnext : putAll (fun x => x) (fun x => 1 + (x : Int)) Rx.empty (zs.take (k + 1)) = ns.1 := by rw [hns]; exact hnext
        have hca := fun q => cell_of_row wr B q _ _ _ hg
        have hd0 : wr.cell? ⟨B, 0, none⟩ = some (.int .i64 rk.h) := hca 0
        have hd1 : wr.cell? ⟨B, 1, none⟩ = some (.int .i64 x0) := hca 1
        have hd2 : wr.cell? ⟨B, 2, none⟩ = some (.int .i64 x1) := hca 2
        have hd3 : wr.cell? ⟨B, 3, none⟩ = some (.int .i64 x2) := hca 3
        have hd4 : wr.cell? ⟨B, 4, none⟩ = some (.int .i64 x3) := hca 4
        have hd5 : wr.cell? ⟨B, 5, none⟩ = some (.int .i64 x4) := hca 5
        have hd6 : wr.cell? ⟨B, 6, none⟩ = some (.int .i64 x5) := hca 6
        have hd7 : wr.cell? ⟨B, 7, none⟩ = some (.int .i64 x6) := hca 7
        have hd8 : wr.cell? ⟨B, 8, none⟩ = some (.int .i64 x7) := hca 8
        have hd9 : wr.cell? ⟨B, 9, none⟩ = some (.int .i64 rk.root.t0) := hca 9
        have hd10 : wr.cell? ⟨B, 10, none⟩ = some (.int .i64 rk.root.t1) := hca 10
        have hd11 : wr.cell? ⟨B, 11, none⟩ = some (.slice xp xl xc) := hca 11
        have Hset := Lib.hid (hset wr.drew (Keeps.of_below (Below.refl _ _).drew))
        have Hb := Lib.hid hb
        have Hnext := Lib.hid hnext
        have Hs0 := Lib.hid hs0
        have hz1 : (z : Int) ≤ 65535 := by omega
        have hz0 : (0 : Int) ≤ (z : Int) := by omega
        have Hwr := Lib.hid (wrap_inc (z : Int) hz0 hz1)
        have Hlt := Lib.hid hBlt
        have Hgr := Lib.hid hg
        clear hca hg hset hs0 hs1 hs2 hns hnext hb hR hBlt hBw hcz hfine hrk hze hel HZ5
        go_wp2_with fail
        go_region_law (first
          | (go_simp; go_at_call 24
             rw [Hwr.out.1, Hwr.out.2]
             (with_reducible refine Hset.out.mono ?_)
             rintro e w5 ⟨⟨c5, he, hO⟩, hB5⟩
             rw [Hs0.out] at he
             subst he
             obtain ⟨y0, y1, y2, y3, y4, y5, y6, y7, yp, yl, yc, rfl⟩ := hO.lit
             have hg5 := (hB5.block B Hlt.out).trans Hgr.out
             have hcy := fun q => cell_of_row w5 B q _ _ _ hg5
             have he0 : w5.cell? ⟨B, 0, none⟩ = some (.int .i64 rk.h) := hcy 0
             have he1 : w5.cell? ⟨B, 1, none⟩ = some (.int .i64 x0) := hcy 1
             have he2 : w5.cell? ⟨B, 2, none⟩ = some (.int .i64 x1) := hcy 2
             have he3 : w5.cell? ⟨B, 3, none⟩ = some (.int .i64 x2) := hcy 3
             have he4 : w5.cell? ⟨B, 4, none⟩ = some (.int .i64 x3) := hcy 4
             have he5 : w5.cell? ⟨B, 5, none⟩ = some (.int .i64 x4) := hcy 5
             have he6 : w5.cell? ⟨B, 6, none⟩ = some (.int .i64 x5) := hcy 6
             have he7 : w5.cell? ⟨B, 7, none⟩ = some (.int .i64 x6) := hcy 7
             have he8 : w5.cell? ⟨B, 8, none⟩ = some (.int .i64 x7) := hcy 8
             have he9 : w5.cell? ⟨B, 9, none⟩ = some (.int .i64 rk.root.t0) := hcy 9
             have he10 : w5.cell? ⟨B, 10, none⟩ = some (.int .i64 rk.root.t1) := hcy 10
             have he11 : w5.cell? ⟨B, 11, none⟩ = some (.slice xp xl xc) := hcy 11
             have hfz := fun q => frozen_of_row w5 B q _ _ hg5
             have HF := Lib.hid (TreeBox.putL Hb.out hB5 hg5 hO)
             have HO := Lib.hid (TreeBox.otherL Hob.out hB5 hg5 HX0 HX1 HX2 hO)
             clear hcy hg5 hO hB5))
        all_goals
          go_wp2_with fail
          go_roundw
          case rel => exact ⟨k + 1, by omega, by go_num, Lib.hid (by rw [Hnext.out]; exact HF.out), HO⟩
          case measure => simp [intOf]; omega
      · obtain rfl : k = n := by omega
        clear hlt
        obtain ⟨hsame, hfin⟩ := order_same zs (fun x hx => by have := Hz.out x hx; omega)
        obtain ⟨R, hR⟩ : ∃ R, R = putAll (fun x => x) (fun x => 1 + (x : Int)) Rx.empty zs := ⟨_, rfl⟩
        have hA : TreeBox w0 (C + 1) B R wr := by
          have := Hb.out
          rw [Hn.out, List.take_length, ← hR] at this
          exact this
        rw [← hR] at hsame hfin
        have HA := Lib.hid hA
        have Hsame := Lib.hid hsame
        have HRf := Lib.hid hfin
        clear hA hsame hfin hR Hb
        go_wp2_with fail
        go_loopw [7] (fun i wx => ∃ q : Nat, q ≤ k ∧ i = .int .i64 ((q : Int) - 1) ∧ Hid (TreeBox w0 (C + 1) C (putAll (fun x => x) (fun x => 1 + (x : Int)) Rx.empty (zs.reverse.take (k - q))) wx) ∧ Hid (TreeBox w0 (C + 1) B R wx)) (fun i _ => (intOf i + 1).toNat)
        case atStart => exact ⟨k, Nat.le_refl _, rfl, Lib.hid (by rw [Nat.sub_self, List.take_zero]; exact Hob.out), HA⟩
        case round =>
          rename World => wx
          obtain ⟨q, hq, rfl, Hb, Hob2⟩ := hrel
          cases q with
          | succ q =>
            rw [show ((q + 1 : Nat) : Int) - 1 = (q : Int) by omega]
            have hge : decide ((0 : Int) ≤ (q : Int)) = true := by simp
            have hkz : q < zs.length := by rw [← Hn.out]; omega
            obtain ⟨bb, oo, rfl, hel⟩ := Hcell.out (by intro e; rw [e] at hkz; simp at hkz)
            obtain ⟨z, hze⟩ : ∃ z, z = zs[q] := ⟨_, rfl⟩
            have hz64 : z < 65536 := by rw [hze]; exact Hz.out _ (List.getElem_mem _)
            have hrl : k - (q + 1) < zs.reverse.length := by rw [List.length_reverse, ← Hn.out]; omega
            have hqk : (q : Int) < (k : Int) := by omega
            have hnext := putAll_take (fun x => x) (fun x => 1 + (x : Int)) Rx.empty zs.reverse (k - (q + 1)) hrl
            have hrz : zs.reverse[k - (q + 1)] = zs[q] := by
              rw [List.getElem_reverse]
              congr 1
              have := Hn.out
              omega
            obtain ⟨rk, hrk⟩ : ∃ rk, rk = putAll (fun x => x) (fun x => 1 + (x : Int)) Rx.empty (zs.reverse.take (k - (q + 1))) := ⟨_, rfl⟩
            rw [hrz] at hnext
            have HZ5 : ∀ x ∈ zs.reverse, x < 65536 := fun x hx => Hz.out x (by simpa using hx)
            have hb := Hb.out
            rw [← hrk] at hb hnext
            rw [← hze] at hnext
            obtain ⟨x0, x1, x2, x3, x4, x5, x6, x7, xp, xl, xc, hg, hR, hBlt, hBw⟩ := hb.lit
            have hfine : rk.fine := by
              rw [hrk]
              exact (putAll_fine _ _ (fun x => by omega) (fun x y h => by rw [h]) _ _ fine_empty (fun x hx => by have := HZ5 x (List.mem_of_mem_take hx); omega)).1
            have hcz := hel q hkz
            rw [← hze] at hcz
            have hez : wx.cell? ⟨bb, oo + q, none⟩ = some (.int .u16 (z : Int)) := (Keeps.of_below hBw) _ _ ((Keeps.of_below HB0.out) _ _ hcz)
            have hset := fun (W : World) (q : Keeps wx W) => Set_spec (hR.keeps q) (i := (z : Int)) (v := 1 + (z : Int)) ⟨by omega, by omega⟩ ⟨by omega, by omega⟩
            obtain ⟨hs0, hs1, hs2⟩ := set_fine hfine (i := z) (by omega) (1 + (z : Int))
            obtain ⟨ns, hns⟩ : ∃ ns, ns = rk.set (z : Int) (1 + (z : Int)) := ⟨_, rfl⟩
            rw [← hns] at hset hs0
            have hnext : putAll (fun x => x) (fun x => 1 + (x : Int)) Rx.empty (zs.reverse.take (k - (q + 1) + 1)) = ns.1 := by rw [hns]; exact hnext
            have hca := fun q => cell_of_row wx C q _ _ _ hg
            have hd0 : wx.cell? ⟨C, 0, none⟩ = some (.int .i64 rk.h) := hca 0
            have hd1 : wx.cell? ⟨C, 1, none⟩ = some (.int .i64 x0) := hca 1
            have hd2 : wx.cell? ⟨C, 2, none⟩ = some (.int .i64 x1) := hca 2
            have hd3 : wx.cell? ⟨C, 3, none⟩ = some (.int .i64 x2) := hca 3
            have hd4 : wx.cell? ⟨C, 4, none⟩ = some (.int .i64 x3) := hca 4
            have hd5 : wx.cell? ⟨C, 5, none⟩ = some (.int .i64 x4) := hca 5
            have hd6 : wx.cell? ⟨C, 6, none⟩ = some (.int .i64 x5) := hca 6
            have hd7 : wx.cell? ⟨C, 7, none⟩ = some (.int .i64 x6) := hca 7
            have hd8 : wx.cell? ⟨C, 8, none⟩ = some (.int .i64 x7) := hca 8
            have hd9 : wx.cell? ⟨C, 9, none⟩ = some (.int .i64 rk.root.t0) := hca 9
            have hd10 : wx.cell? ⟨C, 10, none⟩ = some (.int .i64 rk.root.t1) := hca 10
            have hd11 : wx.cell? ⟨C, 11, none⟩ = some (.slice xp xl xc) := hca 11
            have Hset := Lib.hid (hset wx.drew (Keeps.of_below (Below.refl _ _).drew))
            have Hb := Lib.hid hb
            have Hnext := Lib.hid hnext
            have Hs0 := Lib.hid hs0
            have hz1 : (z : Int) ≤ 65535 := by omega
            have hz0 : (0 : Int) ≤ (z : Int) := by omega
            have Hwr := Lib.hid (wrap_inc (z : Int) hz0 hz1)
            have Hlt := Lib.hid hBlt
            have Hgr := Lib.hid hg
            clear hca hg hset hs0 hs1 hs2 hns hnext hb hR hBlt hBw hcz hfine hrk hze hel HZ5 hrz hrl
            go_wp2_with fail
            go_region_law (first
              | (go_simp; go_at_call 24
                 rw [Hwr.out.1, Hwr.out.2]
                 (with_reducible refine Hset.out.mono ?_)
                 rintro e w5 ⟨⟨c5, he, hO⟩, hB5⟩
                 rw [Hs0.out] at he
                 subst he
                 obtain ⟨y0, y1, y2, y3, y4, y5, y6, y7, yp, yl, yc, rfl⟩ := hO.lit
                 have hg5 := (hB5.block C Hlt.out).trans Hgr.out
                 have hcy := fun q => cell_of_row w5 C q _ _ _ hg5
                 have he0 : w5.cell? ⟨C, 0, none⟩ = some (.int .i64 rk.h) := hcy 0
                 have he1 : w5.cell? ⟨C, 1, none⟩ = some (.int .i64 x0) := hcy 1
                 have he2 : w5.cell? ⟨C, 2, none⟩ = some (.int .i64 x1) := hcy 2
                 have he3 : w5.cell? ⟨C, 3, none⟩ = some (.int .i64 x2) := hcy 3
                 have he4 : w5.cell? ⟨C, 4, none⟩ = some (.int .i64 x3) := hcy 4
                 have he5 : w5.cell? ⟨C, 5, none⟩ = some (.int .i64 x4) := hcy 5
                 have he6 : w5.cell? ⟨C, 6, none⟩ = some (.int .i64 x5) := hcy 6
                 have he7 : w5.cell? ⟨C, 7, none⟩ = some (.int .i64 x6) := hcy 7
                 have he8 : w5.cell? ⟨C, 8, none⟩ = some (.int .i64 x7) := hcy 8
                 have he9 : w5.cell? ⟨C, 9, none⟩ = some (.int .i64 rk.root.t0) := hcy 9
                 have he10 : w5.cell? ⟨C, 10, none⟩ = some (.int .i64 rk.root.t1) := hcy 10
                 have he11 : w5.cell? ⟨C, 11, none⟩ = some (.slice xp xl xc) := hcy 11
                 have hfz := fun q => frozen_of_row w5 C q _ _ hg5
                 have HF := Lib.hid (TreeBox.putL Hb.out hB5 hg5 hO)
                 have HO := Lib.hid (TreeBox.otherL Hob2.out hB5 hg5 HY0 HY1 HY2 hO)
                 clear hcy hg5 hO hB5))
            all_goals
              go_wp2_with fail
              go_roundw
              case rel => exact ⟨q, by omega, rfl, Lib.hid (by rw [show k - q = k - (q + 1) + 1 by omega, Hnext.out]; exact HF.out), HO⟩
              case measure => simp [intOf] <;> omega
          | zero =>
            have hC : TreeBox w0 (C + 1) C R wx := by
              have := Hb.out
              rw [Nat.sub_zero, List.take_of_length_le (by rw [List.length_reverse, Hn.out]; exact Nat.le_refl _), ← Hsame.out] at this
              exact this
            obtain ⟨x0, x1, x2, x3, x4, x5, x6, x7, xp, xl, xc, hgB, hRB, hltB, hBw⟩ := Hob2.out.lit
            obtain ⟨y0, y1, y2, y3, y4, y5, y6, y7, yp, yl, yc, hgC, hRC, hltC, -⟩ := hC.lit
            have hca := fun q => cell_of_row wx B q _ _ _ hgB
            have hcc := fun q => cell_of_row wx C q _ _ _ hgC
            have hd0 : wx.cell? ⟨B, 0, none⟩ = some (.int .i64 R.h) := hca 0
            have hd1 : wx.cell? ⟨B, 1, none⟩ = some (.int .i64 x0) := hca 1
            have hd2 : wx.cell? ⟨B, 2, none⟩ = some (.int .i64 x1) := hca 2
            have hd3 : wx.cell? ⟨B, 3, none⟩ = some (.int .i64 x2) := hca 3
            have hd4 : wx.cell? ⟨B, 4, none⟩ = some (.int .i64 x3) := hca 4
            have hd5 : wx.cell? ⟨B, 5, none⟩ = some (.int .i64 x4) := hca 5
            have hd6 : wx.cell? ⟨B, 6, none⟩ = some (.int .i64 x5) := hca 6
            have hd7 : wx.cell? ⟨B, 7, none⟩ = some (.int .i64 x6) := hca 7
            have hd8 : wx.cell? ⟨B, 8, none⟩ = some (.int .i64 x7) := hca 8
            have hd9 : wx.cell? ⟨B, 9, none⟩ = some (.int .i64 R.root.t0) := hca 9
            have hd10 : wx.cell? ⟨B, 10, none⟩ = some (.int .i64 R.root.t1) := hca 10
            have hd11 : wx.cell? ⟨B, 11, none⟩ = some (.slice xp xl xc) := hca 11
            have he0 : wx.cell? ⟨C, 0, none⟩ = some (.int .i64 R.h) := hcc 0
            have he1 : wx.cell? ⟨C, 1, none⟩ = some (.int .i64 y0) := hcc 1
            have he2 : wx.cell? ⟨C, 2, none⟩ = some (.int .i64 y1) := hcc 2
            have he3 : wx.cell? ⟨C, 3, none⟩ = some (.int .i64 y2) := hcc 3
            have he4 : wx.cell? ⟨C, 4, none⟩ = some (.int .i64 y3) := hcc 4
            have he5 : wx.cell? ⟨C, 5, none⟩ = some (.int .i64 y4) := hcc 5
            have he6 : wx.cell? ⟨C, 6, none⟩ = some (.int .i64 y5) := hcc 6
            have he7 : wx.cell? ⟨C, 7, none⟩ = some (.int .i64 y6) := hcc 7
            have he8 : wx.cell? ⟨C, 8, none⟩ = some (.int .i64 y7) := hcc 8
            have he9 : wx.cell? ⟨C, 9, none⟩ = some (.int .i64 R.root.t0) := hcc 9
            have he10 : wx.cell? ⟨C, 10, none⟩ = some (.int .i64 R.root.t1) := hcc 10
            have he11 : wx.cell? ⟨C, 11, none⟩ = some (.slice yp yl yc) := hcc 11
            have hchk := fun (W : World) (q : Keeps wx W) => Check_spec (hRB.keeps q)
            rw [HRf.out.2] at hchk
            have Hsm := Lib.hid (Same_spec hRB hRC)
            have Hchk := Lib.hid hchk
            have HBx := Lib.hid (HB0.out.trans (hBw.mono HB0.out.size))
            have HgB := Lib.hid hgB
            have HltB := Lib.hid hltB
            clear hca hcc hgB hgC hRB hRC hltB hltC hBw hC hchk
            rw [show (((0 : Nat) : Int) - 1) = -1 from rfl]
            go_wp2_with fail
            (with_reducible refine Hsm.out.mono ?_)
            rintro e w3 ⟨rfl, hB3⟩
            have hgB3 := (hB3.block B HltB.out).trans HgB.out
            clear hd0 he0 hd1 he1 hd2 he2 hd3 he3 hd4 he4 hd5 he5 hd6 he6 hd7 he7 hd8 he8 hd9 he9 hd10 he10 hd11 he11
            have hca := fun q => cell_of_row w3 B q _ _ _ hgB3
            have hd0 : w3.cell? ⟨B, 0, none⟩ = some (.int .i64 R.h) := hca 0
            have hd1 : w3.cell? ⟨B, 1, none⟩ = some (.int .i64 x0) := hca 1
            have hd2 : w3.cell? ⟨B, 2, none⟩ = some (.int .i64 x1) := hca 2
            have hd3 : w3.cell? ⟨B, 3, none⟩ = some (.int .i64 x2) := hca 3
            have hd4 : w3.cell? ⟨B, 4, none⟩ = some (.int .i64 x3) := hca 4
            have hd5 : w3.cell? ⟨B, 5, none⟩ = some (.int .i64 x4) := hca 5
            have hd6 : w3.cell? ⟨B, 6, none⟩ = some (.int .i64 x5) := hca 6
            have hd7 : w3.cell? ⟨B, 7, none⟩ = some (.int .i64 x6) := hca 7
            have hd8 : w3.cell? ⟨B, 8, none⟩ = some (.int .i64 x7) := hca 8
            have hd9 : w3.cell? ⟨B, 9, none⟩ = some (.int .i64 R.root.t0) := hca 9
            have hd10 : w3.cell? ⟨B, 10, none⟩ = some (.int .i64 R.root.t1) := hca 10
            have hd11 : w3.cell? ⟨B, 11, none⟩ = some (.slice xp xl xc) := hca 11
            have HK3 := Lib.hid (Keeps.of_below hB3)
            have HB3 := Lib.hid (HBx.out.trans (hB3.mono HBx.out.size))
            clear hca hgB3 hB3
            go_wp2_with fail
            (with_reducible refine (Hchk.out w3 HK3.out).mono ?_)
            rintro e w4 ⟨rfl, hB4⟩
            have Hfin := Lib.hid (HP.out w4 (HB3.out.trans (hB4.mono HB3.out.size)))
            clear hB4
            go_wp2_with fail
            exact Hfin.out
end Go.Proofs.Ytmdmbnpgdkmklaa
