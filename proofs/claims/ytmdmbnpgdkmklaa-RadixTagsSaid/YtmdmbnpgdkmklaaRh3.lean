/- radix.leaf at every tree and index; radix.Get. -/
import Derived.Test.YtmdmbnpgdkmklaaRh2
namespace Go.Proofs.Ytmdmbnpgdkmklaa
open Go.RowKit
set_option linter.unusedVariables false
set_option linter.unusedSimpArgs false

set_option maxRecDepth 100000 in
set_option maxHeartbeats 4000000 in
theorem leaf_zero {w : World} {r : Rx} {c : Array Value} (h : IsR w r c) (hck : r.check = 0) (hH : r.h = 0) :
    Calls Try.prog 81 #[.agg c, .int .i64 0] w fun e w' => (∃ cn, e = .returned (.tuple #[.agg cn, .bool false]) ∧ IsN w r.root cn) ∧ Below w.heap.size w w' := by
  have hR := h
  obtain ⟨hh, nc, rfl, hn0⟩ := h
  have hch := fun (W : World) (k : Keeps w W) => Check_spec (hR.keeps k)
  rw [hck] at hch
  obtain ⟨H, root⟩ := r
  simp only at hH hn0 hch ⊢
  subst hH
  have Hch := Lib.hid hch
  have Hn0 := Lib.hid hn0
  obtain ⟨x0, x1, x2, x3, x4, x5, x6, x7, xp, xl, xc, hx⟩ := hn0.lit
  rw [hx] at Hch Hn0 ⊢
  simp only [List.append_toArray, List.cons_append, List.nil_append] at Hch ⊢
  clear hn0 hx hck hR hch hh
  go_enter Try.func81, Try.ntmps81
  go_wp2_with fail
  (with_reducible refine (Hch.out _ ((Keeps.alloc _ _).trans (Keeps.alloc _ _))).mono ?_)
  rintro e w2 ⟨rfl, hB2⟩
  have hg := (hB2.block (w.heap.size + 1) (by simp)).trans (heap_alloc2_new _ _ _)
  have hg0 := (hB2.block (w.heap.size) (by simp; omega)).trans (heap_alloc2_old _ _ _)
  have hbb : Below w.heap.size w w2 := (((Below.refl w.heap.size w).alloc (Nat.le_refl _) _).alloc (by simp) _).trans (hB2.mono (by simp; omega))
  have hz : w.heap.size + 1 < w2.heap.size := by have := hB2.size; simp at this; omega
  have hz1 : w.heap.size < w2.heap.size := by omega
  have hcr := fun j => cell_of_row w2 w.heap.size j _ _ _ hg0
  have hkz := fun j => cell_of_row w2 (w.heap.size + 1) j _ _ _ hg
  have hfz := fun j => frozen_of_row w2 (w.heap.size + 1) j _ _ hg
  have Hg := Lib.hid hg
  clear hg hg0 hB2
  go_wp2_with fail
  refine wp_loop_rounds 1 ?_
  rw [rounds_succ]
  go_wp2_with fail
  go_region
  rw [setCells11 Hg.out]
  have hg3 := fun X o => (Below.heap_alloc (w2.setRow (w.heap.size + 1) X) o _ (by rw [size_setRow]; exact hz)).trans (setRow_heap w2 _ _ X _ _ Hg.out)
  go_wp2_with fail
  refine bodyPost_ret (results_cell_tmp rfl _ _ (w.heap.size + 1) _ rfl (load26 (w := World.drew _) (hg3 _ _) rfl)) rfl ⟨⟨_, rfl, Hn0.out⟩, ((Below.putRow hbb (by omega) _).alloc (by rw [size_setRow]; omega) _).drew⟩

theorem leaf_spec' {w : World} {r : Rx} {c : Array Value} {i : Int} (h : IsR w r c) (hi : inI64 i) :
    Calls Try.prog 81 #[.agg c, .int .i64 i] w fun e w' => LeafPost w r i e ∧ Below w.heap.size w w' := by
  by_cases hn : r.check ≠ 0 ∨ i < 0 ∨ 1073741824 ≤ i ∨ 0 < i / 2 ^ (3 * r.h.toNat)
  · refine (leaf_none h hi hn).mono fun e w' ⟨he, hB⟩ => ⟨⟨Nd.zero, _, ?_, isN_zero w, ?_⟩, hB⟩
    · have : r.leafOf i = none := set_opt_leaf_none (w := w) (by rcases hn with h | h | h | h <;> simp [h])
      rw [this]; exact he
    · have : r.leafOf i = none := set_opt_leaf_none (w := w) (by rcases hn with h | h | h | h <;> simp [h])
      rw [this]; intro m hm; cases hm
  · have hck : r.check = 0 := by
      rcases Int.decEq r.check 0 with q | q
      · exact absurd (.inl q) hn
      · exact q
    have h0 : 0 ≤ i := by omega
    have h1 : i < 1073741824 := by omega
    have h2 : ¬ 0 < i / 2 ^ (3 * r.h.toNat) := by omega
    obtain ⟨hh0, hh1, _, _⟩ := check_zero hck
    obtain ⟨n, rfl⟩ := Int.eq_ofNat_of_zero_le h0
    have e : (2 : Int) ^ (3 * r.h.toNat) = ((8 ^ r.h.toNat : Nat) : Int) := by
      rw [show (8 : Nat) = 2 ^ 3 by rfl, ← Nat.pow_mul]; simp
    rw [e, ← Int.natCast_ediv] at h2
    have h3 : n / 8 ^ r.h.toNat = 0 := by clear hn; generalize n / 8 ^ r.h.toNat = q at *; omega
    by_cases hH : r.h = 0
    · rw [hH] at h3
      have hn0 : n = 0 := by simpa using h3
      subst hn0
      have hlf : r.leafOf (0 : Nat) = none := set_opt_leaf_none (w := w) (by simp [hH])
      refine (leaf_zero h hck hH).mono fun e w' ⟨⟨cn, he, hI⟩, hB⟩ => ⟨⟨r.root, cn, ?_, hI, ?_⟩, hB⟩
      · rw [hlf]; exact he
      · rw [hlf]; intro m hm; cases hm
    · exact leaf_walk h (by omega) hck (by omega) h3

/-- The value at an index, or 0. -/
def Rx.get (r : Rx) (i : Int) : Int :=
  match r.leafOf i with
  | none => 0
  | some n => n.vs.getD (dig i.toNat 0) 0

theorem leafOf_nonneg {r : Rx} {i : Int} {n : Nd} (h : r.leafOf i = some n) : 0 ≤ i ∧ i < 1073741824 ∧ r.check = 0 := by
  unfold Rx.leafOf at h
  split at h
  · cases h
  · rename_i hq
    exact ⟨by omega, by omega, by omega⟩

set_option maxRecDepth 100000 in
set_option maxHeartbeats 4000000 in
theorem Get_spec {w : World} {r : Rx} {c : Array Value} {i : Int} (h : IsR w r c) (hi : inI64 i) :
    Calls Try.prog 26 #[.agg c, .int .i64 i] w fun e w' => e = .returned (.int .i64 (r.get i)) ∧ Below w.heap.size w w' := by
  have hlf := leaf_spec' (h.keeps (Keeps.alloc w (.cells c 28))) hi
  obtain ⟨res, hres⟩ : ∃ res, r.get i = res := ⟨_, rfl⟩
  have Hres := Lib.hid hres
  rw [hres]
  obtain ⟨hh, nc, rfl, hn0⟩ := h
  obtain ⟨x0, x1, x2, x3, x4, x5, x6, x7, xp, xl, xc, rfl⟩ := hn0.lit
  simp only [List.append_toArray, List.cons_append, List.nil_append] at hlf ⊢
  have Hlf := Lib.hid hlf
  have Hi := Lib.hid hi
  clear hlf hn0 hh hres hi
  go_enter Try.func26, Try.ntmps26
  go_wp2_with fail
  (with_reducible refine Hlf.out.mono ?_)
  rintro e w2 ⟨⟨nd, cn, rfl, hn, hsome⟩, hB2⟩
  have hbb : Below w.heap.size w w2 := ((Below.refl w.heap.size w).alloc (Nat.le_refl _) _).trans (hB2.mono (by simp))
  have hz : w.heap.size < w2.heap.size := by have := hB2.size; simp at this; omega
  cases hq : r.leafOf i with
  | none =>
    have hr0 : res = 0 := by rw [← Hres.out]; unfold Rx.get; rw [hq]
    subst hr0
    obtain ⟨y0, y1, y2, y3, y4, y5, y6, y7, yp, yl, yc, rfl⟩ := hn.lit
    clear hq hsome hn hB2
    go_wp2_with fail
    go_ret
    exact ⟨rfl, hbb.alloc (by omega) _⟩
  | some m =>
    obtain rfl := hsome m hq
    obtain ⟨hi0, hi1, _⟩ := leafOf_nonneg hq
    obtain ⟨k, rfl⟩ := Int.eq_ofNat_of_zero_le hi0
    have hr0 : res = m.vs.getD (dig k 0) 0 := by rw [← Hres.out]; unfold Rx.get; rw [hq]; rfl
    have hdig := fun W => digit_spec k 0 (by omega) (by omega) W
    rw [show (((0 : Nat) : Int) + 1) = 1 from rfl] at hdig
    have Hdig := Lib.hid hdig
    have Hr0 := Lib.hid hr0
    have hd8 := dig_lt k 0
    cases hn with
    | mk v t0 t1 ks a b o cap f hv hvb h0 h1 haa hl hcp hf hk =>
      obtain ⟨v0, v1, v2, v3, v4, v5, v6, v7, rfl⟩ := list8 hv
      simp only [ndCells, List.map_cons, List.map_nil, List.cons_append, List.nil_append]
      have hcv := fun (hr : RowAt _ _ 0 _) => cellV (w := w2.alloc (.cells #[.int .i64 v0, .int .i64 v1, .int .i64 v2, .int .i64 v3, .int .i64 v4, .int .i64 v5, .int .i64 v6, .int .i64 v7, .int .i64 t0, .int .i64 t1, .slice a ks.length cap] 26)) (b := w2.heap.size) (v0 := v0) (v1 := v1) (v2 := v2) (v3 := v3) (v4 := v4) (v5 := v5) (v6 := v6) (v7 := v7) (c8 := .int .i64 t0) (c9 := .int .i64 t1) (c10 := .slice a ks.length cap) hr hd8
      replace hcv := hcv (rowAt_new w2 _ 26)
      replace hr0 : res = [v0, v1, v2, v3, v4, v5, v6, v7].getD (dig k 0) 0 := hr0
      rw [← hr0] at hcv
      obtain ⟨dd, hdd⟩ : ∃ dd, dd = dig k 0 := ⟨_, rfl⟩
      rw [← hdd] at Hdig hd8 hcv
      have hd8' : (dd : Int) < 8 := by omega
      have hd0' : (0 : Int) ≤ (dd : Int) := by omega
      have Hcv := Lib.hid hcv
      clear hr0 Hr0 hdd hq hsome hB2 hv hvb h0 h1 haa hl hcp hf hk hdig hcv hi0 hi1
      have hcv := Hcv.out
      go_wp2_with (first | ((with_reducible refine (Hdig.out _).mono ?_); rintro e w3 ⟨rfl, rfl⟩))
      go_ret
      exact ⟨rfl, hbb.alloc (by omega) _⟩
end Go.Proofs.Ytmdmbnpgdkmklaa
