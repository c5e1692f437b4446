/- radix.leaf: the leaf that contains an index. -/
import Derived.Test.YtmdmbnpgdkmklaaSc
namespace Go.Proofs.Ytmdmbnpgdkmklaa
open Go.RowKit
set_option linter.unusedVariables false
set_option linter.unusedSimpArgs false

set_option maxRecDepth 100000 in
set_option maxHeartbeats 4000000 in
theorem leaf_none {w : World} {r : Rx} {c : Array Value} {i : Int} (h : IsR w r c) (hi : inI64 i) (hn : r.check ≠ 0 ∨ i < 0 ∨ 1073741824 ≤ i ∨ 0 < i / 2 ^ (3 * r.h.toNat)) :
    Calls Try.prog 81 #[.agg c, .int .i64 i] w fun e w' => e = .returned (.tuple #[.agg #[.int .i64 0, .int .i64 0, .int .i64 0, .int .i64 0, .int .i64 0, .int .i64 0, .int .i64 0, .int .i64 0, .int .i64 0, .int .i64 0, .slice none 0 0], .bool false]) ∧ Below w.heap.size w w' := by
  have hR := h
  obtain ⟨hh, nc, rfl, hn0⟩ := h
  obtain ⟨x0, x1, x2, x3, x4, x5, x6, x7, xp, xl, xc, rfl⟩ := hn0.lit
  have hch := fun (W : World) (k : Keeps w W) => Check_spec (hR.keeps k)
  simp only [List.append_toArray, List.cons_append, List.nil_append] at hch ⊢
  obtain ⟨ck, hck⟩ : ∃ ck, r.check = ck := ⟨_, rfl⟩
  have hcz := fun h : r.check = 0 => check_zero h
  rw [hck] at hch hcz hn
  have Hch := Lib.hid hch
  obtain ⟨H, root⟩ := r
  simp only at hcz hn ⊢
  have Hcz := Lib.hid hcz
  have Hn := Lib.hid hn
  unfold inI64 at hi
  obtain ⟨hi1, hi2⟩ := hi
  clear hch hn0 hck hcz hn hR
  by_cases h0 : ck = 0
  · subst h0
    obtain ⟨hH0, hH1, _, _⟩ := Hcz.out rfl
    replace Hn := Lib.hid (Hn.out.resolve_left (fun h => h rfl))
    by_cases h1 : i < 0
    · go_enter Try.func81, Try.ntmps81
      go_wp2_with fail
      (with_reducible refine (Hch.out _ ((Keeps.alloc _ _).trans (Keeps.alloc _ _))).mono ?_)
      rintro e w2 ⟨rfl, hB2⟩
      have hg : w2.heap[w.heap.size + 1]? = _ := (hB2.block (w.heap.size + 1) (by simp)).trans (heap_alloc2_new _ _ _)
      have hbb : Below w.heap.size w w2 := (((Below.refl w.heap.size w).alloc (Nat.le_refl _) _).alloc (by simp) _).trans (hB2.mono (by simp; omega))
      have hc0 : w2.cell? ⟨w.heap.size, 0, none⟩ = some (.int .i64 H) := by
        rw [hB2.cell (p := ⟨w.heap.size, 0, none⟩) (by simp; omega)]; simp [go_sem]
      go_wp2_with (first | (refine wpList_store_nd rfl _ _ rfl (w.heap.size + 1) _ rfl rfl rfl zero_one 26 _ hg rfl ?_))
      exact bodyPost_ret (results_cell_tmp rfl _ _ (w.heap.size + 1) _ rfl (load26 (setRow_heap _ _ _ _ _ _ hg) rfl)) rfl ⟨rfl, Below.putRow hbb (by omega) _⟩
    · by_cases h2 : 1073741824 ≤ i
      · go_enter Try.func81, Try.ntmps81
        go_wp2_with fail
        (with_reducible refine (Hch.out _ ((Keeps.alloc _ _).trans (Keeps.alloc _ _))).mono ?_)
        rintro e w2 ⟨rfl, hB2⟩
        have hg : w2.heap[w.heap.size + 1]? = _ := (hB2.block (w.heap.size + 1) (by simp)).trans (heap_alloc2_new _ _ _)
        have hbb : Below w.heap.size w w2 := (((Below.refl w.heap.size w).alloc (Nat.le_refl _) _).alloc (by simp) _).trans (hB2.mono (by simp; omega))
        have hc0 : w2.cell? ⟨w.heap.size, 0, none⟩ = some (.int .i64 H) := by
          rw [hB2.cell (p := ⟨w.heap.size, 0, none⟩) (by simp; omega)]; simp [go_sem]
        go_wp2_with (first | (refine wpList_store_nd rfl _ _ rfl (w.heap.size + 1) _ rfl rfl rfl zero_one 26 _ hg rfl ?_))
        exact bodyPost_ret (results_cell_tmp rfl _ _ (w.heap.size + 1) _ rfl (load26 (setRow_heap _ _ _ _ _ _ hg) rfl)) rfl ⟨rfl, Below.putRow hbb (by omega) _⟩
      · have h3 : 0 < i / 2 ^ (3 * H.toNat) := (Hn.out.resolve_left h1).resolve_left h2
        have h3' : 0 < i / 2 ^ (3 * H).toNat := by rw [show (3 * H).toNat = 3 * H.toNat by omega]; exact h3
        go_enter Try.func81, Try.ntmps81
        go_wp2_with fail
        (with_reducible refine (Hch.out _ ((Keeps.alloc _ _).trans (Keeps.alloc _ _))).mono ?_)
        rintro e w2 ⟨rfl, hB2⟩
        have hg : w2.heap[w.heap.size + 1]? = _ := (hB2.block (w.heap.size + 1) (by simp)).trans (heap_alloc2_new _ _ _)
        have hbb : Below w.heap.size w w2 := (((Below.refl w.heap.size w).alloc (Nat.le_refl _) _).alloc (by simp) _).trans (hB2.mono (by simp; omega))
        have hc0 : w2.cell? ⟨w.heap.size, 0, none⟩ = some (.int .i64 H) := by
          rw [hB2.cell (p := ⟨w.heap.size, 0, none⟩) (by simp; omega)]; simp [go_sem]
        go_wp2_with (first | (refine wpList_store_nd rfl _ _ rfl (w.heap.size + 1) _ rfl rfl rfl zero_one 26 _ hg rfl ?_))
        exact bodyPost_ret (results_cell_tmp rfl _ _ (w.heap.size + 1) _ rfl (load26 (setRow_heap _ _ _ _ _ _ hg) rfl)) rfl ⟨rfl, Below.putRow hbb (by omega) _⟩
  · have h0' : (ck != 0) = true := by simpa using h0
    go_enter Try.func81, Try.ntmps81
    go_wp2_with fail
    (with_reducible refine (Hch.out _ ((Keeps.alloc _ _).trans (Keeps.alloc _ _))).mono ?_)
    rintro e w2 ⟨rfl, hB2⟩
    have hg : w2.heap[w.heap.size + 1]? = _ := (hB2.block (w.heap.size + 1) (by simp)).trans (heap_alloc2_new _ _ _)
    have hbb : Below w.heap.size w w2 := (((Below.refl w.heap.size w).alloc (Nat.le_refl _) _).alloc (by simp) _).trans (hB2.mono (by simp; omega))
    have hc0 : w2.cell? ⟨w.heap.size, 0, none⟩ = some (.int .i64 H) := by
      rw [hB2.cell (p := ⟨w.heap.size, 0, none⟩) (by simp; omega)]; simp [go_sem]
    go_wp2_with (first | (refine wpList_store_nd rfl _ _ rfl (w.heap.size + 1) _ rfl rfl rfl zero_one 26 _ hg rfl ?_))
    exact bodyPost_ret (results_cell_tmp rfl _ _ (w.heap.size + 1) _ rfl (load26 (setRow_heap _ _ _ _ _ _ hg) rfl)) rfl ⟨rfl, Below.putRow hbb (by omega) _⟩

set_option maxRecDepth 100000 in
set_option maxHeartbeats 8000000 in
/-- Where the index lies in the reach of a valid tree. -/
theorem leaf_walk {w : World} {r : Rx} {c : Array Value} {i : Nat} (h : IsR w r c) (hi : i < 1073741824) (hck : r.check = 0) (hH : 1 ≤ r.h) (hr : i / 8 ^ r.h.toNat = 0) :
    Calls Try.prog 81 #[.agg c, .int .i64 i] w fun e w' => LeafPost w r i e ∧ Below w.heap.size w w' := by
  obtain ⟨hh0, hh1, hha, hok⟩ := check_zero hck
  clear hha
  replace hok := hok hH
  have hlf : r.leafOf i = r.root.leafAt (r.h.toNat - 1) i := by
    unfold Rx.leafOf
    have e : (2 : Int) ^ (3 * r.h.toNat) = ((8 ^ r.h.toNat : Nat) : Int) := by
      rw [show (8 : Nat) = 2 ^ 3 by rfl, ← Nat.pow_mul]; simp
    have : (i : Int) / 2 ^ (3 * r.h.toNat) = 0 := by
      rw [e, ← Int.natCast_ediv, hr]; rfl
    rw [if_neg (by rw [this, hck]; omega)]
    simp
  have hR := h
  obtain ⟨hh, nc, rfl, hn0⟩ := h
  have hch := fun (W : World) (k : Keeps w W) => Check_spec (hR.keeps k)
  rw [hck] at hch
  have hpost : ∀ e, (∃ nd cn, e = Ending.returned (.tuple #[.agg cn, .bool (r.root.leafAt (r.h.toNat - 1) i).isSome]) ∧ IsN w nd cn ∧ (∀ m, r.root.leafAt (r.h.toNat - 1) i = some m → m = nd)) → LeafPost w r i e := fun e h => by
    unfold LeafPost; rw [hlf]; exact h
  obtain ⟨post, hpo⟩ : ∃ post, post = LeafPost w r i := ⟨_, rfl⟩
  rw [← hpo] at hpost ⊢
  obtain ⟨H, root⟩ := r
  simp only at hpost hok hH hh1 hr hlf hn0 hch ⊢
  obtain ⟨l, hHl⟩ : ∃ l : Nat, H = (l : Int) + 1 := ⟨(H - 1).toNat, by omega⟩
  rw [show H.toNat = l + 1 by omega] at hok hpost hr
  rw [show l + 1 - 1 = l by omega] at hpost
  have Hpost := Lib.hid hpost
  have Hl9 := Lib.hid (show l ≤ 9 by omega)
  have hr' : decide ((0 : Int) < (i : Int) / 2 ^ (3 * H).toNat) = false := by
    have e : (2 : Int) ^ (3 * H).toNat = ((8 ^ (l + 1) : Nat) : Int) := by
      rw [show (3 * H).toNat = 3 * (l + 1) by omega, show (8 : Nat) = 2 ^ 3 by rfl, ← Nat.pow_mul]; simp
    rw [e, ← Int.natCast_ediv, hr]; simp
  have HHl := Lib.hid hHl
  have Hch := Lib.hid hch
  have Hn0 := Lib.hid hn0
  have Hok := Lib.hid hok
  obtain ⟨x0, x1, x2, x3, x4, x5, x6, x7, xp, xl, xc, hx⟩ := hn0.lit
  rw [hx] at Hch Hn0 ⊢
  simp only [List.append_toArray, List.cons_append, List.nil_append] at Hch ⊢
  clear hpost hpo hlf hr hn0 hx hck hR hch hok hh hHl
  go_enter Try.func81, Try.ntmps81
  go_wp2_with fail
  (with_reducible refine (Hch.out _ ((Keeps.alloc _ _).trans (Keeps.alloc _ _))).mono ?_)
  rintro e w2 ⟨rfl, hB2⟩
  have hg : w2.heap[w.heap.size + 1]? = _ := (hB2.block (w.heap.size + 1) (by simp)).trans (heap_alloc2_new _ _ _)
  have hg0 : w2.heap[w.heap.size]? = _ := (hB2.block (w.heap.size) (by simp; omega)).trans (heap_alloc2_old _ _ _)
  have hbb : Below w.heap.size w w2 := (((Below.refl w.heap.size w).alloc (Nat.le_refl _) _).alloc (by simp) _).trans (hB2.mono (by simp; omega))
  have hz : w.heap.size + 1 < w2.heap.size := by have := hB2.size; simp at this; omega
  have hrow : RowAt w2 w.heap.size 1 _ := rowAt_tail (b := w.heap.size) (o := 0) (x := .int .i64 H) (nc := #[.int .i64 x0, .int .i64 x1, .int .i64 x2, .int .i64 x3, .int .i64 x4, .int .i64 x5, .int .i64 x6, .int .i64 x7, .int .i64 root.t0, .int .i64 root.t1, .slice xp xl xc]) (fun j hj => by
    rw [World.cell?, hg0]; simp only [Nat.zero_add]; simp)
  have hc0 : w2.cell? ⟨w.heap.size, 0, none⟩ = some (.int .i64 H) := by
    rw [World.cell?, hg0]; rfl
  have hz1 : w.heap.size < w2.heap.size := by omega
  have Hrow := Lib.hid hrow
  have Hg := Lib.hid hg
  have Hg0 := Lib.hid hg0
  have Hi := Lib.hid hi
  have hd1 : decide ((i : Int) < 0) = false := by simp
  have hd2 : decide (1073741824 ≤ (i : Int)) = false := by simp; omega
  clear hg hg0 hrow hB2 hi
  go_wp2_with (first | (refine wpList_load_nd (.tmp 28) rfl rfl w.heap.size 1 rfl _ rfl Hrow.out ?_))
  have HH0 := Lib.hid Hg0.out
  obtain ⟨g, hgeq⟩ : ∃ g, g = w2.heap.size := ⟨_, rfl⟩
  have hz2 : w.heap.size + 1 < g := by omega
  have hB3 : Below w.heap.size w (w2.alloc (.cells #[.int .i64 x0, .int .i64 x1, .int .i64 x2, .int .i64 x3, .int .i64 x4, .int .i64 x5, .int .i64 x6, .int .i64 x7, .int .i64 root.t0, .int .i64 root.t1, .slice xp xl xc] 26)) := hbb.alloc (by omega) _
  have hA := heap_alloc_new w2 (.cells #[.int .i64 x0, .int .i64 x1, .int .i64 x2, .int .i64 x3, .int .i64 x4, .int .i64 x5, .int .i64 x6, .int .i64 x7, .int .i64 root.t0, .int .i64 root.t1, .slice xp xl xc] 26)
  have hA1 := (Below.heap_alloc w2 (.cells #[.int .i64 x0, .int .i64 x1, .int .i64 x2, .int .i64 x3, .int .i64 x4, .int .i64 x5, .int .i64 x6, .int .i64 x7, .int .i64 root.t0, .int .i64 root.t1, .slice xp xl xc] 26) _ hz).trans Hg.out
  have hA0 := (Below.heap_alloc w2 (.cells #[.int .i64 x0, .int .i64 x1, .int .i64 x2, .int .i64 x3, .int .i64 x4, .int .i64 x5, .int .i64 x6, .int .i64 x7, .int .i64 root.t0, .int .i64 root.t1, .slice xp xl xc] 26) _ hz1).trans Hg0.out
  have hsz : g < (w2.alloc (.cells #[.int .i64 x0, .int .i64 x1, .int .i64 x2, .int .i64 x3, .int .i64 x4, .int .i64 x5, .int .i64 x6, .int .i64 x7, .int .i64 root.t0, .int .i64 root.t1, .slice xp xl xc] 26)).heap.size := by simp; omega
  rw [← hgeq] at hA
  obtain ⟨w3, hw3⟩ : ∃ w3, w3 = w2.alloc (.cells #[.int .i64 x0, .int .i64 x1, .int .i64 x2, .int .i64 x3, .int .i64 x4, .int .i64 x5, .int .i64 x6, .int .i64 x7, .int .i64 root.t0, .int .i64 root.t1, .slice xp xl xc] 26) := ⟨_, rfl⟩
  rw [← hw3] at hB3 hA hA1 hA0 hsz
  rw [← hw3, ← hgeq]
  have HA := Lib.hid hA
  have HA1 := Lib.hid hA1
  have HA0 := Lib.hid hA0
  clear hA hA1 hA0 hw3 hgeq Hg Hg0 HH0 Hrow hz hz1 hbb hc0
  go_loopw [7] (fun lv wr => ∃ (q : Nat) (nd : Nd) (cn : Array Value), lv = .int .i64 ((q : Int) + 1) ∧ q ≤ l ∧ Hid (IsN w nd cn) ∧ Hid (wr.heap[g]? = some (.cells cn 26 (0, 0))) ∧
      Hid (nd.leafAt q i = root.leafAt l i) ∧ Hid (nd.ok (q + 1) = true) ∧
      Hid (wr.heap[w.heap.size + 1]? = some (.cells #[.int .i64 0, .int .i64 0, .int .i64 0, .int .i64 0, .int .i64 0, .int .i64 0, .int .i64 0, .int .i64 0, .int .i64 0, .int .i64 0, .slice none 0 0] 26 (0, 0))) ∧
      Hid (wr.heap[w.heap.size]? = some (.cells #[.int .i64 H, .int .i64 x0, .int .i64 x1, .int .i64 x2, .int .i64 x3, .int .i64 x4, .int .i64 x5, .int .i64 x6, .int .i64 x7, .int .i64 root.t0, .int .i64 root.t1, .slice xp xl xc] 28 (0, 0))) ∧
      Below w.heap.size w wr ∧ g < wr.heap.size) (fun lv _ => (intOf lv).toNat)
  case atStart => exact ⟨l, root, _, by rw [HHl.out], Nat.le_refl _, Hn0, HA, Lib.hid rfl, Hok, HA1, HA0, hB3, hsz⟩
  case round =>
    obtain ⟨q, nd, cn, rfl, hq, HN, Hg, Hleaf, Hok2, Hz, Hr, hbe, hgz⟩ := hrel
    cases q with
    | zero =>
      have hgc := Hg.out
      obtain ⟨y0, y1, y2, y3, y4, y5, y6, y7, yp, yl, yc, hy⟩ := HN.out.lit
      rw [hy] at hgc
      have k10 := fun j => cell_of_row wr g j _ _ _ hgc
      have k0 := cell_of_row wr w.heap.size 0 _ _ _ Hr.out
      have hH0 : decide (0 < H) = true := by simp; omega
      have HNy := HN.out
      rw [hy] at HNy
      have HNy' := Lib.hid HNy
      clear hgc hy HN HNy
      rw [show (((0 : Nat) : Int) + 1) = 1 from rfl]
      go_wp2_with fail
      have hkz := fun j => cell_of_row wr (w.heap.size + 1) j _ _ _ Hz.out
      have hfz := fun j => frozen_of_row wr (w.heap.size + 1) j _ _ Hz.out
      go_region
      rw [setCells11 Hz.out]
      go_wp2_with fail
      refine bodyPost_ret (results_cell_tmp rfl _ _ (w.heap.size + 1) _ rfl (load26 (w := World.drew _) (setRow_heap wr _ _ _ _ _ Hz.out) rfl)) rfl ⟨Hpost.out _ ⟨nd, _, ?_, HNy'.out, ?_⟩, (Below.putRow hbe (by omega) _).drew⟩
      · rw [← Hleaf.out]; rfl
      · rw [← Hleaf.out]; intro m hm; exact (Option.some.inj hm).symm
    | succ q =>
      rw [show ((q + 1 : Nat) : Int) + 1 = (q : Int) + 2 by omega]
      have hlen := ok_len Hok2.out
      have Hq := Lib.hid hq
      obtain ⟨kd, hkd⟩ : ∃ kd, kd = nd.kid (dig i (q + 1)) := ⟨_, rfl⟩
      have hkok : kd.absent = true ∨ kd.ok (q + 1) = true := by rw [hkd]; exact ok_kid Hok2.out (dig_lt _ _)
      have hlf2 : nd.leafAt (q + 1) i = if kd.absent = true then none else kd.leafAt q i := by rw [hkd]; rfl
      have hKb := Keeps.of_below hbe
      have hn := HN.out
      have hgc := Hg.out
      cases hn with
      | mk v t0 t1 ks a b o cap f hv hvb h0 h1 haa hl hcp hf hk =>
        replace hlen : ks.length = 8 := hlen
        obtain rfl : a = some ⟨b, o, none⟩ := haa (by intro h; simp [h] at hlen)
        have hd8 := dig_lt i (q + 1)
        have hkn : IsN w kd (f (dig i (q + 1))) := by
          have := hk (dig i (q + 1)) (by omega)
          rwa [show ks[dig i (q + 1)] = kd by rw [hkd]; simp [Nd.kid, Nd.ks, hlen, hd8]] at this
        have hkr : RowAt wr b (o + dig i (q + 1) * 11) (f (dig i (q + 1))) := (hf _ (by omega)).keeps hKb
        obtain ⟨y0, y1, y2, y3, y4, y5, y6, y7, yp, yl, yc, hy⟩ := hkn.lit
        rw [hy] at hkn hkr
        obtain ⟨k0, k1, k2, k3, k4, k5, k6, k7, k8, k9, k10⟩ := row11 hkr
        obtain ⟨v0, v1, v2, v3, v4, v5, v6, v7, rfl⟩ := list8 hv
        rw [hlen] at hgc
        simp only [ndCells, List.map_cons, List.map_nil, List.cons_append, List.nil_append] at hgc
        have hcg : wr.cell? ⟨g, 10, none⟩ = some (.slice (some ⟨b, o, none⟩) 8 cap) := by rw [World.cell?, hgc]; rfl
        have hdig := fun W => digit_spec i (q + 1) (by have := Hi.out; omega) (by have := Hl9.out; omega) W
        rw [show ((q + 1 : Nat) : Int) + 1 = (q : Int) + 2 by omega] at hdig
        obtain ⟨dd, hdd⟩ : ∃ dd, dd = dig i (q + 1) := ⟨_, rfl⟩
        rw [← hdd] at hdig k0 k1 k2 k3 k4 k5 k6 k7 k8 k9 k10 hd8
        have Hdig := Lib.hid hdig
        have Hkn := Lib.hid hkn
        have Hgc := Lib.hid hgc
        have Hlf2 := Lib.hid hlf2
        have Hkok := Lib.hid hkok
        have ht2 : decide (1 < (q : Int) + 2) = true := by simp; omega
        have hd8' : (dd : Int) < 8 := by omega
        have hq9 : (q : Int) ≤ 9 := by have := Hl9.out; omega
        clear hkd hkok hlf2 hKb hgc hv hvb h0 h1 haa hl hcp hf hk hkn hkr hy hdig hdd hlen
        go_wp2_with fail
        refine wp_region_still_tail 7 (by kernel_rfl) (by kernel_rfl) ?_
        simp only [List.take_succ_cons, List.take_zero, List.drop_succ_cons, List.drop_zero]
        repeat still_step
        still_call ((Hdig.out _).mono fun e w' ⟨he, hw⟩ => ⟨he, hw.symm⟩)
        repeat still_step
        refine wpStill_nil ?_
        change wpList _ _ _ _ _ wr.drew
        have hgd : wr.drew.heap[g]? = _ := Hgc.out
        refine wpList_store_nd rfl _ _ rfl g _ rfl rfl Hkn.out.size Hkn.out.one 26 _ hgd rfl ?_
        have hgn := setRow_heap _ _ _ #[.int .i64 y0, .int .i64 y1, .int .i64 y2, .int .i64 y3, .int .i64 y4, .int .i64 y5, .int .i64 y6, .int .i64 y7, .int .i64 kd.t0, .int .i64 kd.t1, .slice yp yl yc] _ _ hgd
        have hbe4 := Below.putRow (g := g) (hbe.drew) (by omega) #[.int .i64 y0, .int .i64 y1, .int .i64 y2, .int .i64 y3, .int .i64 y4, .int .i64 y5, .int .i64 y6, .int .i64 y7, .int .i64 kd.t0, .int .i64 kd.t1, .slice yp yl yc]
        have hz4 := (setRow_other wr.drew g (w.heap.size + 1) #[.int .i64 y0, .int .i64 y1, .int .i64 y2, .int .i64 y3, .int .i64 y4, .int .i64 y5, .int .i64 y6, .int .i64 y7, .int .i64 kd.t0, .int .i64 kd.t1, .slice yp yl yc] (by omega)).trans Hz.out
        have hr4 := (setRow_other wr.drew g (w.heap.size) #[.int .i64 y0, .int .i64 y1, .int .i64 y2, .int .i64 y3, .int .i64 y4, .int .i64 y5, .int .i64 y6, .int .i64 y7, .int .i64 kd.t0, .int .i64 kd.t1, .slice yp yl yc] (by omega)).trans Hr.out
        have hs4 : g < (wr.drew.setRow g #[.int .i64 y0, .int .i64 y1, .int .i64 y2, .int .i64 y3, .int .i64 y4, .int .i64 y5, .int .i64 y6, .int .i64 y7, .int .i64 kd.t0, .int .i64 kd.t1, .slice yp yl yc]).heap.size := by
          rw [size_setRow]; exact hgz
        obtain ⟨w4, hw4⟩ : ∃ w4, w4 = wr.drew.setRow g #[.int .i64 y0, .int .i64 y1, .int .i64 y2, .int .i64 y3, .int .i64 y4, .int .i64 y5, .int .i64 y6, .int .i64 y7, .int .i64 kd.t0, .int .i64 kd.t1, .slice yp yl yc] := ⟨_, rfl⟩
        rw [← hw4] at hgn hbe4 hz4 hr4 hs4 ⊢
        have Hgn := Lib.hid hgn
        have Hz4 := Lib.hid hz4
        have Hr4 := Lib.hid hr4
        clear hw4 hgn hz4 hr4 hgd k0 k1 k2 k3 k4 k5 k6 k7 k8 k9 k10 hcg Hgc Hg Hz Hr hbe HN
        go_wp2_with (first | (refine wpList_load_row rfl 26 (.tmp 6) rfl g rfl 26 _ _ _ Hgn.out Try.underlying26 rfl size26 ?_))
        (with_reducible refine (absent_spec (Hkn.out.keeps (Keeps.of_below hbe4))).mono ?_)
        rintro e w5 ⟨rfl, hB5⟩
        have hgn5 := (hB5.block g hs4).trans Hgn.out
        have hz5 := (hB5.block _ (by omega)).trans Hz4.out
        have hr5 := (hB5.block _ (by omega)).trans Hr4.out
        have hbe5 : Below w.heap.size w w5 := hbe4.trans (hB5.mono (by omega))
        have hs5 : g < w5.heap.size := Nat.lt_of_lt_of_le hs4 hB5.size
        have Hgn5 := Lib.hid hgn5
        have Hz5 := Lib.hid hz5
        have Hr5 := Lib.hid hr5
        clear hgn5 hz5 hr5 hB5 hs4 hbe4 Hgn Hz4 Hr4
        cases hab : kd.absent with
        | true =>
          have Hab := Lib.hid hab
          clear hab
          go_wp2_with (first | (refine wpList_store_nd rfl _ _ rfl (w.heap.size + 1) _ rfl rfl rfl zero_one 26 _ Hz5.out rfl ?_))
          refine bodyPost_ret (results_cell_tmp rfl _ _ (w.heap.size + 1) _ rfl (load26 (setRow_heap _ _ _ _ _ _ Hz5.out) rfl)) rfl ⟨Hpost.out _ ⟨Nd.zero, _, ?_, isN_zero w, ?_⟩, Below.putRow hbe5 (by omega) _⟩
          · rw [← Hleaf.out, Hlf2.out, if_pos Hab.out]; rfl
          · rw [← Hleaf.out, Hlf2.out, if_pos Hab.out]; intro m hm; cases hm
        | false =>
          have Hab := Lib.hid hab
          clear hab
          go_wp2_with fail
          go_roundw
          case rel => exact ⟨q, kd, _, by go_num, by have := Hq.out; omega, Lib.hid Hkn.out, Hgn5, Lib.hid (by rw [← Hleaf.out, Hlf2.out, if_neg (by rw [Hab.out]; simp)]), Lib.hid (Hkok.out.resolve_left (by rw [Hab.out]; simp)), Hz5, Hr5, hbe5, hs5⟩
          case measure => simp only [intOf]; omega
end Go.Proofs.Ytmdmbnpgdkmklaa
