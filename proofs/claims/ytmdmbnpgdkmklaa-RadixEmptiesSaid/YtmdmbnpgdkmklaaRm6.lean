/- RadixEmpties, the law's own walk. -/
import Derived.Test.YtmdmbnpgdkmklaaRm5
namespace Go.Proofs.Ytmdmbnpgdkmklaa
open Go.RowKit
set_option linter.unusedVariables false
set_option linter.unusedSimpArgs false

set_option maxRecDepth 100000 in
set_option maxHeartbeats 8000000 in
theorem law8_spec {w : World} {v : Value} {zs : List Nat} (h : U16s w v zs) :
    Calls Try.prog 8 #[v] w fun e w' => e = .returned (.bool true) ∧ Below w.heap.size w w' := by
  obtain ⟨post, hpost⟩ : ∃ post : Ending → World → Prop, post = fun e w' => e = .returned (.bool true) ∧ Below w.heap.size w w' := ⟨_, rfl⟩
  have HP : Hid (∀ W', Below w.heap.size w W' → post (.returned (.bool true)) W') := Lib.hid (by rw [hpost]; exact fun W' a => ⟨rfl, a⟩)
  rw [← hpost]
  clear hpost
  obtain ⟨p, cap, rfl, hcell, hz, hlc, hcm⟩ := h
  obtain ⟨n, hn⟩ : ∃ n, n = zs.length := ⟨_, rfl⟩
  rw [← hn] at hlc ⊢
  have Hcell := Lib.hid hcell
  have Hz := Lib.hid hz
  have Hn := Lib.hid hn
  have hnm : n ≤ maxLen := by omega
  unfold maxLen at hnm
  clear hcell hz hn hlc hcm
  go_enter Try.func8, Try.ntmps8
  go_wp2_with fail
  (with_reducible refine (awake_spec w).mono ?_)
  rintro e wb ⟨rfl, hBb⟩
  have HbB := Lib.hid hBb
  clear hBb
  by_cases h40 : 40 < n
  · have h40' : decide ((40 : Int) < (n : Int)) = true := by simp; omega
    go_wp2_with fail
    (with_reducible refine (awake_spec wb).mono ?_)
    rintro e wd ⟨rfl, hBd⟩
    have Hfin := Lib.hid (HP.out wd (HbB.out.trans (hBd.mono HbB.out.size)))
    clear hBd
    go_wp2_with fail
    exact Hfin.out
  · have h40' : decide ((40 : Int) < (n : Int)) = false := by simp; omega
    have h40i : (n : Int) ≤ 40 := by omega
    go_wp2_with fail
    (with_reducible refine (New_spec wb).mono ?_)
    rintro e w0 ⟨rfl, hB0⟩
    have HB0 := Lib.hid (HbB.out.trans (hB0.mono HbB.out.size))
    clear hB0 HbB
    have Hbox := Lib.hid (treeBox_new w0)
    simp only [emptyCells]
    go_upto_region 4 with fail
    obtain ⟨B, hB⟩ : ∃ B, B = w0.heap.size := ⟨_, rfl⟩
    rw [← hB] at Hbox ⊢
    clear hB
    generalize w0.alloc (.cells #[.int .i64 0, .int .i64 0, .int .i64 0, .int .i64 0, .int .i64 0, .int .i64 0, .int .i64 0, .int .i64 0, .int .i64 0, .int .i64 0, .int .i64 0, .slice none 0 0] 28) = w1 at Hbox ⊢
    go_wp2_with fail
    go_loopw [18] (fun i wr => ∃ k : Nat, k ≤ n ∧ i = .int .i64 k ∧ Hid (TreeBox w0 (B + 1) B (putAll (fun x => x * 16384) (fun _ => -7) Rx.empty (zs.take k)) wr)) (fun i _ => n - (intOf i).toNat)
    case atStart => exact ⟨0, by omega, rfl, Hbox⟩
    case round =>
      obtain ⟨k, hk, rfl, Hb⟩ := hrel
      by_cases hlt : k < n
      · have hkz : k < zs.length := by rw [← Hn.out]; exact hlt
        obtain ⟨bb, oo, rfl, hel⟩ := Hcell.out (by intro e; rw [e] at hkz; simp at hkz)
        obtain ⟨z, hze⟩ : ∃ z, z = zs[k] := ⟨_, rfl⟩
        have hz64 : z < 65536 := by rw [hze]; exact Hz.out _ (List.getElem_mem _)
        have hnext := putAll_take (fun x => x * 16384) (fun _ => (-7)) Rx.empty zs k hkz
        obtain ⟨rk, hrk⟩ : ∃ rk, rk = putAll (fun x => x * 16384) (fun _ => (-7)) Rx.empty (zs.take k) := ⟨_, rfl⟩
        have hb := Hb.out
        rw [← hrk] at hb hnext
        rw [← hze] at hnext
        obtain ⟨x0, x1, x2, x3, x4, x5, x6, x7, xp, xl, xc, hg, hR, hBlt, hBw⟩ := hb.lit
        have hfine : rk.fine := by
          rw [hrk]
          exact (putAll_fine _ _ (fun x => by omega) (fun x y h => rfl) _ _ fine_empty (fun x hx => by have := Hz.out x (List.mem_of_mem_take hx); omega)).1
        have hcz := hel k hkz
        rw [← hze] at hcz
        have hez : wr.cell? ⟨bb, oo + k, none⟩ = some (.int .u16 (z : Int)) := (Keeps.of_below hBw) _ _ ((Keeps.of_below HB0.out) _ _ hcz)
        have hset := fun (W : World) (q : Keeps wr W) => Set_spec (hR.keeps q) (i := ((z * 16384 : Nat) : Int)) (v := (-7)) ⟨by omega, by omega⟩ (i64_small (x := (-7)) (by omega) (by omega))
        obtain ⟨hs0, hs1, hs2⟩ := set_fine hfine (i := z * 16384) (by omega) (-7)
        obtain ⟨ns, hns⟩ : ∃ ns, ns = rk.set ((z * 16384 : Nat) : Int) (-7) := ⟨_, rfl⟩
        rw [← hns] at hset hs0
        have hnext : putAll (fun x => x * 16384) (fun _ => (-7)) Rx.empty (zs.take (k + 1)) = ns.1 := by rw [hns]; exact hnext
        rw [show ((z * 16384 : Nat) : Int) = (z : Int) * 16384 by omega] at hset
        have hca := fun q => cell_of_row wr B q _ _ _ hg
        have hd0 : wr.cell? ⟨B, 0, none⟩ = some (.int .i64 rk.h) := hca 0
        have hd1 : wr.cell? ⟨B, 1, none⟩ = some (.int .i64 x0) := hca 1
        have hd2 : wr.cell? ⟨B, 2, none⟩ = some (.int .i64 x1) := hca 2
        have hd3 : wr.cell? ⟨B, 3, none⟩ = some (.int .i64 x2) := hca 3
        have hd4 : wr.cell? ⟨B, 4, none⟩ = some (.int .i64 x3) := hca 4
        have hd5 : wr.cell? ⟨B, 5, none⟩ = some (.int .i64 x4) := hca 5
        have hd6 : wr.cell? ⟨B, 6, none⟩ = some (.int .i64 x5) := hca 6
        have hd7 : wr.cell? ⟨B, 7, none⟩ = some (.int .i64 x6) := hca 7
        have hd8 : wr.cell? ⟨B, 8, none⟩ = some (.int .i64 x7) := hca 8
        have hd9 : wr.cell? ⟨B, 9, none⟩ = some (.int .i64 rk.root.t0) := hca 9
        have hd10 : wr.cell? ⟨B, 10, none⟩ = some (.int .i64 rk.root.t1) := hca 10
        have hd11 : wr.cell? ⟨B, 11, none⟩ = some (.slice xp xl xc) := hca 11
        have Hset := Lib.hid (hset wr.drew (Keeps.of_below (Below.refl _ _).drew))
        have Hb := Lib.hid hb
        have Hnext := Lib.hid hnext
        have Hs0 := Lib.hid hs0
        have hz1 : (z : Int) ≤ 65535 := by omega
        have hz0 : (0 : Int) ≤ (z : Int) := by omega
        have Hwr := Lib.hid (wrap_mul (z : Int) hz0 hz1)
        have Hlt := Lib.hid hBlt
        have Hgr := Lib.hid hg
        clear hca hg hset hs0 hs1 hs2 hns hnext hb hR hBlt hBw hcz hfine hrk hze hel
        go_wp2_with fail
        go_region_law (first
          | (go_simp; go_at_call 24
             rw [Hwr.out]
             (with_reducible refine Hset.out.mono ?_)
             rintro e w5 ⟨⟨c5, he, hO⟩, hB5⟩
             rw [Hs0.out] at he
             subst he
             obtain ⟨y0, y1, y2, y3, y4, y5, y6, y7, yp, yl, yc, rfl⟩ := hO.lit
             have hg5 := (hB5.block B Hlt.out).trans Hgr.out
             have hcy := fun q => cell_of_row w5 B q _ _ _ hg5
             have he0 : w5.cell? ⟨B, 0, none⟩ = some (.int .i64 rk.h) := hcy 0
             have he1 : w5.cell? ⟨B, 1, none⟩ = some (.int .i64 x0) := hcy 1
             have he2 : w5.cell? ⟨B, 2, none⟩ = some (.int .i64 x1) := hcy 2
             have he3 : w5.cell? ⟨B, 3, none⟩ = some (.int .i64 x2) := hcy 3
             have he4 : w5.cell? ⟨B, 4, none⟩ = some (.int .i64 x3) := hcy 4
             have he5 : w5.cell? ⟨B, 5, none⟩ = some (.int .i64 x4) := hcy 5
             have he6 : w5.cell? ⟨B, 6, none⟩ = some (.int .i64 x5) := hcy 6
             have he7 : w5.cell? ⟨B, 7, none⟩ = some (.int .i64 x6) := hcy 7
             have he8 : w5.cell? ⟨B, 8, none⟩ = some (.int .i64 x7) := hcy 8
             have he9 : w5.cell? ⟨B, 9, none⟩ = some (.int .i64 rk.root.t0) := hcy 9
             have he10 : w5.cell? ⟨B, 10, none⟩ = some (.int .i64 rk.root.t1) := hcy 10
             have he11 : w5.cell? ⟨B, 11, none⟩ = some (.slice xp xl xc) := hcy 11
             have hfz := fun q => frozen_of_row w5 B q _ _ hg5
             have HF := Lib.hid (TreeBox.putL Hb.out hB5 hg5 hO)
             clear hcy hg5 hO hB5))
        all_goals
          go_wp2_with fail
          go_roundw
          case rel => exact ⟨k + 1, by omega, by go_num, Lib.hid (by rw [Hnext.out]; exact HF.out)⟩
          case measure => simp [intOf]; omega
      · obtain rfl : k = n := by omega
        have hlast : TreeBox w0 (B + 1) B (putAll (fun x => x * 16384) (fun _ => 0) (putAll (fun x => x * 16384) (fun _ => -7) Rx.empty zs) (zs.take 0)) wr := by
          have := Hb.out
          rw [Hn.out, List.take_length] at this
          exact this
        have Hlast := Lib.hid hlast
        clear hlast
        go_wp2_with fail
        go_loopw [37] (fun i wr => ∃ k2 : Nat, k2 ≤ k ∧ i = .int .i64 k2 ∧ Hid (TreeBox w0 (B + 1) B (putAll (fun x => x * 16384) (fun _ => 0) (putAll (fun x => x * 16384) (fun _ => -7) Rx.empty zs) (zs.take k2)) wr)) (fun i _ => k - (intOf i).toNat)
        case atStart => exact ⟨0, by omega, rfl, Hlast⟩
        case round =>
          clear hlt
          rename World => wx
          obtain ⟨k2, hk2, rfl, Hb2⟩ := hrel
          by_cases hlt : k2 < k
          · have hkz : k2 < zs.length := by rw [← Hn.out]; exact hlt
            obtain ⟨bb, oo, rfl, hel⟩ := Hcell.out (by intro e; rw [e] at hkz; simp at hkz)
            obtain ⟨z, hze⟩ : ∃ z, z = zs[k2] := ⟨_, rfl⟩
            have hz64 : z < 65536 := by rw [hze]; exact Hz.out _ (List.getElem_mem _)
            have hnext := putAll_take (fun x => x * 16384) (fun _ => 0) (putAll (fun x => x * 16384) (fun _ => -7) Rx.empty zs) zs k2 hkz
            obtain ⟨rk, hrk⟩ : ∃ rk, rk = putAll (fun x => x * 16384) (fun _ => 0) (putAll (fun x => x * 16384) (fun _ => -7) Rx.empty zs) (zs.take k2) := ⟨_, rfl⟩
            have hb := Hb2.out
            rw [← hrk] at hb hnext
            rw [← hze] at hnext
            obtain ⟨x0, x1, x2, x3, x4, x5, x6, x7, xp, xl, xc, hg, hR, hBlt, hBw⟩ := hb.lit
            have hfine : rk.fine := by
              rw [hrk]
              exact (clrAll_fine _ _ _ (putAll_fine _ _ (fun x => by omega) (fun x y h => rfl) _ _ fine_empty (fun x hx => by have := Hz.out x hx; omega)).1 (fun x hx => by have := Hz.out x (List.mem_of_mem_take hx); omega)).1
            have hcz := hel k2 hkz
            rw [← hze] at hcz
            have hez : wx.cell? ⟨bb, oo + k2, none⟩ = some (.int .u16 (z : Int)) := (Keeps.of_below hBw) _ _ ((Keeps.of_below HB0.out) _ _ hcz)
            have hset := fun (W : World) (q : Keeps wx W) => Set_spec (hR.keeps q) (i := ((z * 16384 : Nat) : Int)) (v := 0) ⟨by omega, by omega⟩ (i64_small (x := 0) (by omega) (by omega))
            obtain ⟨hs0, hs1, hs2⟩ := set_fine hfine (i := z * 16384) (by omega) 0
            obtain ⟨ns, hns⟩ : ∃ ns, ns = rk.set ((z * 16384 : Nat) : Int) 0 := ⟨_, rfl⟩
            rw [← hns] at hset hs0
            have hnext : putAll (fun x => x * 16384) (fun _ => 0) (putAll (fun x => x * 16384) (fun _ => -7) Rx.empty zs) (zs.take (k2 + 1)) = ns.1 := by rw [hns]; exact hnext
            rw [show ((z * 16384 : Nat) : Int) = (z : Int) * 16384 by omega] at hset
            have hca := fun q => cell_of_row wx B q _ _ _ hg
            have hd0 : wx.cell? ⟨B, 0, none⟩ = some (.int .i64 rk.h) := hca 0
            have hd1 : wx.cell? ⟨B, 1, none⟩ = some (.int .i64 x0) := hca 1
            have hd2 : wx.cell? ⟨B, 2, none⟩ = some (.int .i64 x1) := hca 2
            have hd3 : wx.cell? ⟨B, 3, none⟩ = some (.int .i64 x2) := hca 3
            have hd4 : wx.cell? ⟨B, 4, none⟩ = some (.int .i64 x3) := hca 4
            have hd5 : wx.cell? ⟨B, 5, none⟩ = some (.int .i64 x4) := hca 5
            have hd6 : wx.cell? ⟨B, 6, none⟩ = some (.int .i64 x5) := hca 6
            have hd7 : wx.cell? ⟨B, 7, none⟩ = some (.int .i64 x6) := hca 7
            have hd8 : wx.cell? ⟨B, 8, none⟩ = some (.int .i64 x7) := hca 8
            have hd9 : wx.cell? ⟨B, 9, none⟩ = some (.int .i64 rk.root.t0) := hca 9
            have hd10 : wx.cell? ⟨B, 10, none⟩ = some (.int .i64 rk.root.t1) := hca 10
            have hd11 : wx.cell? ⟨B, 11, none⟩ = some (.slice xp xl xc) := hca 11
            have Hset := Lib.hid (hset wx.drew (Keeps.of_below (Below.refl _ _).drew))
            have Hb := Lib.hid hb
            have Hnext := Lib.hid hnext
            have Hs0 := Lib.hid hs0
            have hz1 : (z : Int) ≤ 65535 := by omega
            have hz0 : (0 : Int) ≤ (z : Int) := by omega
            have Hwr := Lib.hid (wrap_mul (z : Int) hz0 hz1)
            have Hlt := Lib.hid hBlt
            have Hgr := Lib.hid hg
            clear hca hg hset hs0 hs1 hs2 hns hnext hb hR hBlt hBw hcz hfine hrk hze hel
            go_wp2_with fail
            go_region_law (first
              | (go_simp; go_at_call 24
                 rw [Hwr.out]
                 (with_reducible refine Hset.out.mono ?_)
                 rintro e w5 ⟨⟨c5, he, hO⟩, hB5⟩
                 rw [Hs0.out] at he
                 subst he
                 obtain ⟨y0, y1, y2, y3, y4, y5, y6, y7, yp, yl, yc, rfl⟩ := hO.lit
                 have hg5 := (hB5.block B Hlt.out).trans Hgr.out
                 have hcy := fun q => cell_of_row w5 B q _ _ _ hg5
                 have he0 : w5.cell? ⟨B, 0, none⟩ = some (.int .i64 rk.h) := hcy 0
                 have he1 : w5.cell? ⟨B, 1, none⟩ = some (.int .i64 x0) := hcy 1
                 have he2 : w5.cell? ⟨B, 2, none⟩ = some (.int .i64 x1) := hcy 2
                 have he3 : w5.cell? ⟨B, 3, none⟩ = some (.int .i64 x2) := hcy 3
                 have he4 : w5.cell? ⟨B, 4, none⟩ = some (.int .i64 x3) := hcy 4
                 have he5 : w5.cell? ⟨B, 5, none⟩ = some (.int .i64 x4) := hcy 5
                 have he6 : w5.cell? ⟨B, 6, none⟩ = some (.int .i64 x5) := hcy 6
                 have he7 : w5.cell? ⟨B, 7, none⟩ = some (.int .i64 x6) := hcy 7
                 have he8 : w5.cell? ⟨B, 8, none⟩ = some (.int .i64 x7) := hcy 8
                 have he9 : w5.cell? ⟨B, 9, none⟩ = some (.int .i64 rk.root.t0) := hcy 9
                 have he10 : w5.cell? ⟨B, 10, none⟩ = some (.int .i64 rk.root.t1) := hcy 10
                 have he11 : w5.cell? ⟨B, 11, none⟩ = some (.slice xp xl xc) := hcy 11
                 have hfz := fun q => frozen_of_row w5 B q _ _ hg5
                 have HF := Lib.hid (TreeBox.putL Hb.out hB5 hg5 hO)
                 clear hcy hg5 hO hB5))
            all_goals
              go_wp2_with fail
              go_roundw
              case rel => exact ⟨k2 + 1, by omega, by go_num, Lib.hid (by rw [Hnext.out]; exact HF.out)⟩
              case measure => simp [intOf]; omega
          · obtain rfl : k2 = k := by omega
            have hend : TreeBox w0 (B + 1) B Rx.empty wx := by
              have := Hb2.out
              rw [Hn.out, List.take_length, empties_same zs (fun x hx => by have := Hz.out x hx; omega)] at this
              exact this
            obtain ⟨x0, x1, x2, x3, x4, x5, x6, x7, xp, xl, xc, hg, hR, hBlt, hBw⟩ := hend.lit
            have hca := fun q => cell_of_row wx B q _ _ _ hg
            have hd0 : wx.cell? ⟨B, 0, none⟩ = some (.int .i64 Rx.empty.h) := hca 0
            have hd1 : wx.cell? ⟨B, 1, none⟩ = some (.int .i64 x0) := hca 1
            have hd2 : wx.cell? ⟨B, 2, none⟩ = some (.int .i64 x1) := hca 2
            have hd3 : wx.cell? ⟨B, 3, none⟩ = some (.int .i64 x2) := hca 3
            have hd4 : wx.cell? ⟨B, 4, none⟩ = some (.int .i64 x3) := hca 4
            have hd5 : wx.cell? ⟨B, 5, none⟩ = some (.int .i64 x4) := hca 5
            have hd6 : wx.cell? ⟨B, 6, none⟩ = some (.int .i64 x5) := hca 6
            have hd7 : wx.cell? ⟨B, 7, none⟩ = some (.int .i64 x6) := hca 7
            have hd8 : wx.cell? ⟨B, 8, none⟩ = some (.int .i64 x7) := hca 8
            have hd9 : wx.cell? ⟨B, 9, none⟩ = some (.int .i64 Rx.empty.root.t0) := hca 9
            have hd10 : wx.cell? ⟨B, 10, none⟩ = some (.int .i64 Rx.empty.root.t1) := hca 10
            have hd11 : wx.cell? ⟨B, 11, none⟩ = some (.slice xp xl xc) := hca 11
            clear hca hg
            obtain ⟨ι, F, hF, hG⟩ := world_class wx
            obtain ⟨i0, hi0⟩ := hG wx.drew (Below.refl _ _).drew
            have hk0 := fun i => (Keeps.of_below (hF i)) _ _ hd0
            have hk1 := fun i => (Keeps.of_below (hF i)) _ _ hd1
            have hk2 := fun i => (Keeps.of_below (hF i)) _ _ hd2
            have hk3 := fun i => (Keeps.of_below (hF i)) _ _ hd3
            have hk4 := fun i => (Keeps.of_below (hF i)) _ _ hd4
            have hk5 := fun i => (Keeps.of_below (hF i)) _ _ hd5
            have hk6 := fun i => (Keeps.of_below (hF i)) _ _ hd6
            have hk7 := fun i => (Keeps.of_below (hF i)) _ _ hd7
            have hk8 := fun i => (Keeps.of_below (hF i)) _ _ hd8
            have hk9 := fun i => (Keeps.of_below (hF i)) _ _ hd9
            have hk10 := fun i => (Keeps.of_below (hF i)) _ _ hd10
            have hk11 := fun i => (Keeps.of_below (hF i)) _ _ hd11
            have HF := Lib.hid hF
            have HG := Lib.hid hG
            have hsm := fun i => Same_spec (hR.keeps (Keeps.of_below (hF i))) (isR_empty (F i))
            have hnx := fun i => Next_spec (hR.keeps (Keeps.of_below (hF i))) 0 (-1) (i64_small (x := 0) (by omega) (by omega)) (i64_small (x := -1) (by omega) (by omega))
            simp only [next_empty] at hnx
            have Hsm := Lib.hid hsm
            have Hnx := Lib.hid hnx
            have HBx := Lib.hid (HB0.out.trans (hBw.mono HB0.out.size))
            clear hF hG hR hend hBw hBlt hsm hnx
            go_wp2_with fail
            refine wp_region_class F (by kernel_rfl) ⟨i0, hi0⟩ ?_
            clear hd0 hd1 hd2 hd3 hd4 hd5 hd6 hd7 hd8 hd9 hd10 hd11
            repeat (go_big_quiet_step ((first
              | (go_at_call 22; exact Calls.class_of HF HG (New_spec _))
              | (go_at_call 21; exact Calls.class_of HF HG (Hsm.out _))
              | (go_at_call 33; exact Calls.class_of HF HG (Hnx.out _))
              | with_reducible rfl)))
            refine wpQuiet_nil ?_
            rintro w3 ⟨i3, rfl⟩
            have Hfin := Lib.hid (HP.out (F i3) (HBx.out.trans ((HF.out i3).mono HBx.out.size)))
            go_wp2_with fail
            exact Hfin.out
end Go.Proofs.Ytmdmbnpgdkmklaa
