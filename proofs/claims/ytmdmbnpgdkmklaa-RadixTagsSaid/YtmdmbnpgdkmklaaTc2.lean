/- The reference's node: the tags of a part as one mask; one round's end; the empty list. -/
import Derived.Test.YtmdmbnpgdkmklaaTa2
import Derived.Test.YtmdmbnpgdkmklaaRs5
namespace Go.Proofs.Ytmdmbnpgdkmklaa
open Go.RowKit
set_option linter.unusedVariables false
set_option linter.unusedSimpArgs false

def maskE (l : List En) : Int := l.foldl (fun m e => bits .or .i64 m e.t) 0

theorem or4 : ∀ m t : Fin 4, 0 ≤ bits .or .i64 (m.val : Int) (t.val : Int) ∧ bits .or .i64 (m.val : Int) (t.val : Int) ≤ 3 ∧
    tb (bits .or .i64 (m.val : Int) (t.val : Int)) 0 = (tb (m.val : Int) 0 || tb (t.val : Int) 0) ∧ tb (bits .or .i64 (m.val : Int) (t.val : Int)) 1 = (tb (m.val : Int) 1 || tb (t.val : Int) 1) := by
  decide

theorem or_small {m t : Int} (h0 : 0 ≤ m) (h1 : m ≤ 3) (k0 : 0 ≤ t) (k1 : t ≤ 3) : 0 ≤ bits .or .i64 m t ∧ bits .or .i64 m t ≤ 3 ∧
    tb (bits .or .i64 m t) 0 = (tb m 0 || tb t 0) ∧ tb (bits .or .i64 m t) 1 = (tb m 1 || tb t 1) := by
  obtain ⟨a, rfl⟩ := Int.eq_ofNat_of_zero_le h0
  obtain ⟨b, rfl⟩ := Int.eq_ofNat_of_zero_le k0
  exact or4 ⟨a, by omega⟩ ⟨b, by omega⟩

theorem mask_fold : ∀ (l : List En) (m : Int), 0 ≤ m → m ≤ 3 → (∀ e ∈ l, 0 ≤ e.t ∧ e.t ≤ 3) →
    0 ≤ l.foldl (fun m e => bits .or .i64 m e.t) m ∧ l.foldl (fun m e => bits .or .i64 m e.t) m ≤ 3 ∧
    tb (l.foldl (fun m e => bits .or .i64 m e.t) m) 0 = (tb m 0 || anyT l 0) ∧ tb (l.foldl (fun m e => bits .or .i64 m e.t) m) 1 = (tb m 1 || anyT l 1)
  | [], m, h0, h1, _ => by simp [anyT, h0, h1]
  | e :: l, m, h0, h1, h => by
    obtain ⟨k0, k1⟩ := h e (by simp)
    obtain ⟨q0, q1, q2, q3⟩ := or_small h0 h1 k0 k1
    obtain ⟨r0, r1, r2, r3⟩ := mask_fold l _ q0 q1 (fun x hx => h x (by simp [hx]))
    simp only [List.foldl_cons]
    refine ⟨r0, r1, ?_, ?_⟩
    · rw [r2, q2]; unfold anyT; rw [List.any_cons, Bool.or_assoc]
    · rw [r3, q3]; unfold anyT; rw [List.any_cons, Bool.or_assoc]

theorem maskE_spec {l : List En} (h : ∀ e ∈ l, 0 ≤ e.t ∧ e.t ≤ 3) : 0 ≤ maskE l ∧ maskE l ≤ 3 ∧ bits .and .i64 (maskE l) 1 = (if anyT l 0 = true then 1 else 0) ∧ bits .and .i64 (maskE l / 2) 1 = (if anyT l 1 = true then 1 else 0) := by
  obtain ⟨r0, r1, r2, r3⟩ := mask_fold l 0 (by omega) (by omega) h
  refine ⟨r0, r1, ?_, ?_⟩
  · have := bit01_tb (maskE l) 0
    unfold bit01 at this
    rw [Int.pow_zero, Int.ediv_one] at this
    rw [this]
    unfold maskE
    rw [r2, tb_zero, Bool.false_or]
  · have := bit01_tb (maskE l) 1
    unfold bit01 at this
    rw [Int.pow_one] at this
    rw [this]
    unfold maskE
    rw [r3, tb_zero, Bool.false_or]

theorem maskE_take {l : List En} {j : Nat} (hj : j < l.length) : maskE (l.take (j + 1)) = bits .or .i64 (maskE (l.take j)) l[j].t := by
  unfold maskE
  rw [List.take_succ_eq_append_getElem hj, List.foldl_append]
  rfl

/-- What the reference's node asks of its entries. -/
def EnOk (L : List En) (a : Nat) : Prop := L.length ≤ 1073741824 ∧ ∀ e ∈ L, a ≤ e.i ∧ e.i < 1073741824 ∧ inI64 e.v ∧ 0 ≤ e.t ∧ e.t ≤ 3

theorem partE_take {l : List En} {k : Nat} (hk : k < l.length) (a w i : Nat) : partE (l.take (k + 1)) a w i = partE (l.take k) a w i ++ if (l[k].i - a) / w = i then [l[k]] else [] := by
  unfold partE
  rw [List.take_succ_eq_append_getElem hk, List.filter_append]
  congr 1
  by_cases h : (l[k].i - a) / w = i
  · rw [if_pos h, List.filter_cons_of_pos (by simpa using h)]; rfl
  · rw [if_neg h, List.filter_cons_of_neg (by simpa using h)]; rfl

theorem partE_length (l : List En) (a w i : Nat) : (partE l a w i).length ≤ l.length := List.length_filter_le _ _

theorem EnOk.part {L : List En} {a : Nat} (h : EnOk L a) {w : Nat} (hw : 0 < w) (i : Nat) : EnOk (partE L a w i) (a + i * w) := by
  refine ⟨Nat.le_trans (partE_length L a w i) h.1, fun e he => ?_⟩
  unfold partE at he
  rw [List.mem_filter] at he
  obtain ⟨h1, h2, h3⟩ := h.2 e he.1
  have q : (e.i - a) / w = i := by simpa using he.2
  refine ⟨?_, h2, h3⟩
  have := Nat.div_mul_le_self (e.i - a) w
  rw [q] at this
  omega

/-- What node leaves. -/
abbrev Noded := Cloned

set_option maxRecDepth 100000 in
set_option maxHeartbeats 2000000 in
theorem node_nil {W : World} {base : Nat} {v : Value} (hv : W.ownsRow base 83 3 v 0 []) (lev a : Int) : Calls Try.prog 103 #[v, .int .i64 lev, .int .i64 a] W (Cloned W Nd.zero) := by
  obtain ⟨p, cp, rfl⟩ : ∃ p cp, v = .slice p 0 cp := by
    rcases hv.2 with ⟨h1, h0⟩ | ⟨g, cap, cur, h1, _⟩
    · exact ⟨none, 0, h1⟩
    · exact ⟨_, _, h1⟩
  obtain ⟨post, hpost⟩ : ∃ post : Ending → World → Prop, post = Cloned W Nd.zero := ⟨_, rfl⟩
  have HP : Hid (∀ W', Below W.heap.size W W' → post (.returned (.agg #[.int .i64 0, .int .i64 0, .int .i64 0, .int .i64 0, .int .i64 0, .int .i64 0, .int .i64 0, .int .i64 0, .int .i64 0, .int .i64 0, .slice none 0 0])) W') := Lib.hid (by
    rw [hpost]; exact fun W' hB => ⟨⟨_, _, rfl, owns_zero W', fun k hk => hk.elim⟩, hB⟩)
  rw [← hpost]
  clear hpost hv
  go_enter Try.func103, Try.ntmps103
  go_wp2_with fail
  exact bodyPost_ret (results_cell rfl _ _ W.heap.size _ rfl (load26 (heap_alloc2_old W _ _) rfl)) rfl (HP.out _ (((Below.refl _ _).alloc (Nat.le_refl _) _).alloc (by simp) _))

/-- The state behind one round: one child more (the node lies at bn, the result's variable at bz). -/
theorem node_round {W w6 w7 w8 : World} {ks : List Nd} {j : Nat} {sv : Value} {xs : List Value} {S7 : Nat → Prop} {gg cap8 B : Nat} {p0 p1 p2 p3 p4 p5 p6 p7 p8 p9 : Value} {zc : Array Value} {y0 y1 y2 y3 y4 y5 y6 y7 z0 z1 : Int} {yp : Option Addr} {yl yc : Nat} (hj : j < ks.length)
    (hBW : B = W.heap.size) (hsz : B + 2 ≤ w6.heap.size)
    (hg1 : w6.heap[B + 1]? = some (.cells #[p0, p1, p2, p3, p4, p5, p6, p7, p8, p9, sv] 26 (0, 0))) (hg2 : w6.heap[B]? = some (.cells zc 26 (0, 0)))
    (hown : w6.ownsRow (B + 2) 26 11 sv j xs) (hk : KidsAt (B + 2) w6 ks j sv xs) (hbe : Below W.heap.size W w6)
    (hB7 : Below w6.drew.heap.size w6.drew w7) (hO : Owns w7 ks[j] #[.int .i64 y0, .int .i64 y1, .int .i64 y2, .int .i64 y3, .int .i64 y4, .int .i64 y5, .int .i64 y6, .int .i64 y7, .int .i64 z0, .int .i64 z1, .slice yp yl yc] S7) (hS : ∀ k, S7 k → w6.drew.heap.size ≤ k)
    (hown8 : w8.ownsRow (B + 2) 26 11 (.slice (some ⟨gg, 0, none⟩) (j + 1) cap8) (j + 1) (xs ++ [.int .i64 y0, .int .i64 y1, .int .i64 y2, .int .i64 y3, .int .i64 y4, .int .i64 y5, .int .i64 y6, .int .i64 y7, .int .i64 z0, .int .i64 z1, .slice yp yl yc]))
    (hgrow : (w7.alloc (.cells #[.int .i64 y0, .int .i64 y1, .int .i64 y2, .int .i64 y3, .int .i64 y4, .int .i64 y5, .int .i64 y6, .int .i64 y7, .int .i64 z0, .int .i64 z1, .slice yp yl yc] 26)).grownBy w8 sv.ownBlock) (hat : sv.ownBlock = some gg ∨ gg = w7.heap.size + 1) :
    ∀ wf, wf = w8.setCell ⟨B + 1, 10, none⟩ (.slice (some ⟨gg, 0, none⟩) (j + 1) cap8) →
    wf.heap[B + 1]? = some (.cells #[p0, p1, p2, p3, p4, p5, p6, p7, p8, p9, .slice (some ⟨gg, 0, none⟩) (j + 1) cap8] 26 (0, 0)) ∧ wf.heap[B]? = some (.cells zc 26 (0, 0)) ∧
    wf.ownsRow (B + 2) 26 11 (.slice (some ⟨gg, 0, none⟩) (j + 1) cap8) (j + 1) (xs ++ [.int .i64 y0, .int .i64 y1, .int .i64 y2, .int .i64 y3, .int .i64 y4, .int .i64 y5, .int .i64 y6, .int .i64 y7, .int .i64 z0, .int .i64 z1, .slice yp yl yc]) ∧ KidsAt (B + 2) wf ks (j + 1) (.slice (some ⟨gg, 0, none⟩) (j + 1) cap8) (xs ++ [.int .i64 y0, .int .i64 y1, .int .i64 y2, .int .i64 y3, .int .i64 y4, .int .i64 y5, .int .i64 y6, .int .i64 y7, .int .i64 z0, .int .i64 z1, .slice yp yl yc]) ∧
    Below W.heap.size W wf ∧ B + 2 ≤ wf.heap.size := by
  intro wf hwf
  subst hBW
  have hlt := fun k hk => hown.lt k hk
  have hs7 : w6.heap.size ≤ w7.heap.size := hB7.size
  have hsA : (w7.alloc (.cells #[.int .i64 y0, .int .i64 y1, .int .i64 y2, .int .i64 y3, .int .i64 y4, .int .i64 y5, .int .i64 y6, .int .i64 y7, .int .i64 z0, .int .i64 z1, .slice yp yl yc] 26)).heap.size = w7.heap.size + 1 := by simp
  have hs8 := hgrow.size
  rw [hsA] at hs8
  have hBA : Below w6.drew.heap.size w6.drew (w7.alloc (.cells #[.int .i64 y0, .int .i64 y1, .int .i64 y2, .int .i64 y3, .int .i64 y4, .int .i64 y5, .int .i64 y6, .int .i64 y7, .int .i64 z0, .int .i64 z1, .slice yp yl yc] 26)) := hB7.alloc hs7 _
  have hne1 : (some (W.heap.size + 1) : Option Nat) ≠ sv.ownBlock := fun e => by have := hlt _ e.symm; omega
  have hne2 : (some W.heap.size : Option Nat) ≠ sv.ownBlock := fun e => by have := hlt _ e.symm; omega
  have e1 : w8.heap[W.heap.size + 1]? = some (.cells #[p0, p1, p2, p3, p4, p5, p6, p7, p8, p9, sv] 26 (0, 0)) :=
    (hgrow.block _ (by omega) hne1).trans ((hBA.block _ (show W.heap.size + 1 < w6.heap.size by omega)).trans hg1)
  have e2 : w8.heap[W.heap.size]? = some (.cells zc 26 (0, 0)) :=
    (hgrow.block _ (by omega) hne2).trans ((hBA.block _ (show W.heap.size < w6.heap.size by omega)).trans hg2)
  have hoth : ∀ k, k ≠ W.heap.size + 1 → wf.heap[k]? = w8.heap[k]? := fun k hk => by rw [hwf]; exact Below.heap_setCell _ _ _ _ hk
  have hszf : wf.heap.size = w8.heap.size := by rw [hwf]; simp [World.setCell]
  have hkD : KidsAt (W.heap.size + 2) w6.drew ks j sv xs := hk.kept (Below.refl _ _).drew
  have hk8 := hkD.succ (w := w7.alloc (.cells #[.int .i64 y0, .int .i64 y1, .int .i64 y2, .int .i64 y3, .int .i64 y4, .int .i64 y5, .int .i64 y6, .int .i64 y7, .int .i64 z0, .int .i64 z1, .slice yp yl yc] 26)) (w' := w8) (c := #[.int .i64 y0, .int .i64 y1, .int .i64 y2, .int .i64 y3, .int .i64 y4, .int .i64 y5, .int .i64 y6, .int .i64 y7, .int .i64 z0, .int .i64 z1, .slice yp yl yc]) (S := S7) (gg := gg) (cap := cap8) (n := j + 1) hsz (by rw [hown.1]) hj hBA (hO.kept ((Below.refl _ _).alloc (Nat.le_refl _) _)) rfl hS (fun k hk => (hlt k hk).2) hgrow (by rw [hsA]; exact hat)
  refine ⟨?_, (hoth _ (by omega)).trans e2, ownsRow_put hown8 (by omega) hoth, hk8.put (by omega) hszf hoth, ?_, by omega⟩
  · rw [hwf]
    have := heap_setCell_same w8 (W.heap.size + 1) 10 _ 26 (.slice (some ⟨gg, 0, none⟩) (j + 1) cap8) e1
    rw [this]; rfl
  · rw [hwf]
    have h7 : Below W.heap.size W (w7.alloc (.cells #[.int .i64 y0, .int .i64 y1, .int .i64 y2, .int .i64 y3, .int .i64 y4, .int .i64 y5, .int .i64 y6, .int .i64 y7, .int .i64 z0, .int .i64 z1, .slice yp yl yc] 26)) := hbe.drew.trans (hBA.mono (show W.heap.size ≤ w6.heap.size by omega))
    exact (h7.grown hgrow (by omega) (fun k hk => by have := hlt k hk; omega)).setCell (p := ⟨W.heap.size + 1, 10, none⟩) (Nat.le_succ _) _
end Go.Proofs.Ytmdmbnpgdkmklaa

/-! The reference's node at a leaf's level and at an inner level. -/
namespace Go.Proofs.Ytmdmbnpgdkmklaa
open Go.RowKit
set_option linter.unusedVariables false
set_option linter.unusedSimpArgs false

theorem wp_last {P : Program} {c : Code} {Q : Exit → Act → World → Prop} {a : Act} {w : World} (h : ∀ K : Act → World → Prop, (∀ a' w', Q .normal a' w' → K a' w') → c.wp P (Exit.then K Q) a w) : c.wp P Q a w := by
  refine Code.wp_mono ?_ (h (fun a' w' => Q .normal a' w') (fun _ _ h => h))
  intro e a' w' hq
  cases e <;> exact hq
theorem inI64_tsum (f : Nat → Bool) : ∀ k, inI64 (tsum f k)
  | 0 => by unfold inI64; rw [tsum]; omega
  | k + 1 => by rw [tsum]; exact inI64_bits _ _ _
theorem pow7 {i : Nat} (h : i < 8) : (0 : Int) ≤ 2 ^ i ∧ (2 : Int) ^ i ≤ 128 := by
  match i, h with
  | 0, _ | 1, _ | 2, _ | 3, _ | 4, _ | 5, _ | 6, _ | 7, _ => decide
theorem small_mul {q p : Int} (hq : 0 ≤ q ∧ q ≤ 1) (hp : 0 ≤ p ∧ p ≤ 128) : 0 ≤ q * p ∧ q * p ≤ 128 := by
  have : q = 0 ∨ q = 1 := by omega
  rcases this with rfl | rfl <;> omega

/-- The values of a leaf of which i are made. -/
def leafV (L : List En) (a P i : Nat) : List Int := (List.range 8).map fun j => if j < i then headV (partE L a P j) else 0
theorem leafV_getD (L : List En) (a P i : Nat) {j : Nat} (hj : j < 8) : (leafV L a P i).getD j 0 = if j < i then headV (partE L a P j) else 0 := by
  rw [List.getD_eq_getElem?_getD]
  unfold leafV
  rw [List.getElem?_map, List.getElem?_range hj]
  rfl
theorem leafV_len (L : List En) (a P i : Nat) : (leafV L a P i).length = 8 := by simp [leafV]
theorem set_getD (v : List Int) (d : Nat) (x : Int) (j : Nat) (hd : d < v.length) : (v.set d x).getD j 0 = if j = d then x else v.getD j 0 := by
  rw [List.getD_eq_getElem?_getD, List.getD_eq_getElem?_getD, List.getElem?_set]
  by_cases q : d = j
  · subst q; rw [if_pos rfl, if_pos hd, if_pos rfl]; rfl
  · rw [if_neg q, if_neg (fun h => q h.symm)]
theorem leafV_set {L : List En} {a P i : Nat} (hi : i < 8) : (leafV L a P i).set i (headV (partE L a P i)) = leafV L a P (i + 1) := by
  refine vals_ext (by rw [List.length_set, leafV_len]) (leafV_len _ _ _ _) (fun j hj => ?_)
  rw [set_getD _ _ _ _ (by rw [leafV_len]; exact hi), leafV_getD _ _ _ _ hj, leafV_getD _ _ _ _ hj]
  by_cases e : j = i
  · subst e; rw [if_pos rfl, if_pos (by omega)]
  · rw [if_neg e]
    by_cases q : j < i
    · rw [if_pos q, if_pos (by omega)]
    · rw [if_neg q, if_neg (by omega)]
theorem leafV_same {L : List En} {a P i : Nat} (hi : i < 8) (h : headV (partE L a P i) = 0) : leafV L a P i = leafV L a P (i + 1) := by
  refine vals_ext (leafV_len _ _ _ _) (leafV_len _ _ _ _) (fun j hj => ?_)
  rw [leafV_getD _ _ _ _ hj, leafV_getD _ _ _ _ hj]
  by_cases e : j = i
  · subst e; rw [if_neg (by omega), if_pos (by omega), h]
  · by_cases q : j < i
    · rw [if_pos q, if_pos (by omega)]
    · rw [if_neg q, if_neg (by omega)]
theorem leafV_end (L : List En) (a P : Nat) : leafV L a P 8 = (List.range 8).map fun i => headV (partE L a P i) := by
  unfold leafV
  apply List.map_congr_left
  intro j hj
  rw [if_pos (by simpa using hj)]
theorem leaf_start {w : World} {b : Nat} {L : List En} {a P : Nat} (h : w.heap[b]? = some (.cells #[.int .i64 0, .int .i64 0, .int .i64 0, .int .i64 0, .int .i64 0, .int .i64 0, .int .i64 0, .int .i64 0, .int .i64 0, .int .i64 0, .slice none 0 0] 26 (0, 0))) :
    NodeAt w b 0 26 (.mk (leafV L a P 0) (tsum (fun i => anyT (partE L a P i) 0) 0) (tsum (fun i => anyT (partE L a P i) 1) 0) []) (fun _ => False) := by
  have e : leafV L a P 0 = [0, 0, 0, 0, 0, 0, 0, 0] := rfl
  rw [e]
  refine ⟨_, _, h, fun i hi => ?_, owns_zero w, fun k => k⟩
  rw [cell_of_row w b _ _ _ _ h]
  simp only [Nat.zero_add]
  exact Array.getElem?_eq_getElem hi
set_option maxRecDepth 100000 in
set_option maxHeartbeats 16000000 in
theorem node_leaf {W : World} {base : Nat} {v : Value} {L : List En} {a : Nat} (hv : W.ownsRow base 83 3 v L.length (enCells L)) (hok : EnOk L a) (ha : a + 8 ≤ 1073741824) (hne : L ≠ []) :
    Calls Try.prog 103 #[v, .int .i64 1, .int .i64 a] W (Cloned W (nodeE 0 L a)) := by
  obtain ⟨P, hP⟩ : ∃ P, P = 1 := ⟨_, rfl⟩
  have hP0 : 0 < P := by omega
  have hP30 : a + 8 * P ≤ 1073741824 := by omega
  have hspan := fun W => span_spec W 0 (by omega)
  obtain ⟨Lv, hLv⟩ : ∃ Lv : Int, Lv = 1 := ⟨_, rfl⟩
  rw [show 8 ^ 0 = P by omega, show ((0 : Nat) : Int) = Lv - 1 by omega] at hspan
  rw [← hLv]
  have hLv2 : 1 ≤ Lv := by omega
  have hLv10 : Lv ≤ 10 := by omega
  have hLv1 : decide (1 < Lv) = false := by simp; omega
  have hnd : nodeE 0 L a = .mk ((List.range 8).map fun i => headV (partE L a P i)) (tsum (fun i => anyT (partE L a P i) 0) 8) (tsum (fun i => anyT (partE L a P i) 1) 8) [] := by
    rw [nodeE, if_neg hne, hP]
  rw [hnd]
  clear hnd ha
  obtain ⟨post, hpost⟩ : ∃ post : Ending → World → Prop, post = Cloned W (Nd.mk ((List.range 8).map fun i => headV (partE L a P i)) (tsum (fun i => anyT (partE L a P i) 0) 8) (tsum (fun i => anyT (partE L a P i) 1) 8) []) := ⟨_, rfl⟩
  have HP : Hid (∀ e W', Cloned W (Nd.mk ((List.range 8).map fun i => headV (partE L a P i)) (tsum (fun i => anyT (partE L a P i) 0) 8) (tsum (fun i => anyT (partE L a P i) 1) 8) []) e W' → post e W') := Lib.hid (by rw [hpost]; exact fun e W' a => a)
  rw [← hpost]
  obtain ⟨M, hM⟩ : ∃ M, M = L.length := ⟨_, rfl⟩
  have hM0 : M ≠ 0 := by rw [hM]; intro q; exact hne (List.length_eq_zero_iff.1 q)
  have hM30 : M ≤ 1073741824 := by rw [hM]; exact hok.1
  obtain ⟨g, cp, rfl⟩ : ∃ g cp, v = .slice (some ⟨g, 0, none⟩) M cp := by
    rcases hv.2 with ⟨h1, h0⟩ | ⟨g, cap, cur, h1, _⟩
    · exact absurd (hM.trans h0) hM0
    · exact ⟨g, cap, by rw [hM]; exact h1⟩
  rw [hM] at hv
  have Hv := Lib.hid hv
  have HM := Lib.hid hM
  have Hok := Lib.hid hok
  have HLv := Lib.hid hLv
  have Hspan := Lib.hid hspan
  have HP0 := Lib.hid hP
  have ha30 : (a : Int) ≤ 1073741824 := by omega
  have hP30' : (P : Int) ≤ 1073741824 := by omega
  have hPne : ((P : Int) == 0) = false := by simp; omega
  have hPne2 : ¬ (P : Int) = 0 := by omega
  obtain ⟨i0, hi0, hz0, hzs, hzb⟩ := info_parts info83
  obtain ⟨i1, hi1, hz1, hzs1, hzb1⟩ := info_parts info26
  clear hv hok hLv hspan hP hpost hne hM
  go_enter Try.func103, Try.ntmps103
  go_wp2_with fail
  have hb1 := heap_alloc2_old W (.cells #[.int .i64 0, .int .i64 0, .int .i64 0, .int .i64 0, .int .i64 0, .int .i64 0, .int .i64 0, .int .i64 0, .int .i64 0, .int .i64 0, .slice none 0 0] 26) (.cells #[.int .i64 0, .int .i64 0, .int .i64 0, .int .i64 0, .int .i64 0, .int .i64 0, .int .i64 0, .int .i64 0, .int .i64 0, .int .i64 0, .slice none 0 0] 26)
  have hb2 := heap_alloc2_new W (.cells #[.int .i64 0, .int .i64 0, .int .i64 0, .int .i64 0, .int .i64 0, .int .i64 0, .int .i64 0, .int .i64 0, .int .i64 0, .int .i64 0, .slice none 0 0] 26) (.cells #[.int .i64 0, .int .i64 0, .int .i64 0, .int .i64 0, .int .i64 0, .int .i64 0, .int .i64 0, .int .i64 0, .int .i64 0, .int .i64 0, .slice none 0 0] 26)
  have hbb : Below W.heap.size W ((W.alloc (.cells #[.int .i64 0, .int .i64 0, .int .i64 0, .int .i64 0, .int .i64 0, .int .i64 0, .int .i64 0, .int .i64 0, .int .i64 0, .int .i64 0, .slice none 0 0] 26)).alloc (.cells #[.int .i64 0, .int .i64 0, .int .i64 0, .int .i64 0, .int .i64 0, .int .i64 0, .int .i64 0, .int .i64 0, .int .i64 0, .int .i64 0, .slice none 0 0] 26)) := ((Below.refl _ _).alloc (Nat.le_refl _) _).alloc (by simp) _
  have hsz : ((W.alloc (.cells #[.int .i64 0, .int .i64 0, .int .i64 0, .int .i64 0, .int .i64 0, .int .i64 0, .int .i64 0, .int .i64 0, .int .i64 0, .int .i64 0, .slice none 0 0] 26)).alloc (.cells #[.int .i64 0, .int .i64 0, .int .i64 0, .int .i64 0, .int .i64 0, .int .i64 0, .int .i64 0, .int .i64 0, .int .i64 0, .int .i64 0, .slice none 0 0] 26)).heap.size = W.heap.size + 2 := by simp
  obtain ⟨W2, hW2⟩ : ∃ W2, W2 = ((W.alloc (.cells #[.int .i64 0, .int .i64 0, .int .i64 0, .int .i64 0, .int .i64 0, .int .i64 0, .int .i64 0, .int .i64 0, .int .i64 0, .int .i64 0, .slice none 0 0] 26)).alloc (.cells #[.int .i64 0, .int .i64 0, .int .i64 0, .int .i64 0, .int .i64 0, .int .i64 0, .int .i64 0, .int .i64 0, .int .i64 0, .int .i64 0, .slice none 0 0] 26)) := ⟨_, rfl⟩
  rw [← hW2] at hb1 hb2 hbb hsz ⊢
  obtain ⟨B, hB⟩ : ∃ B, B = W.heap.size := ⟨_, rfl⟩
  rw [← hB] at hb1 hb2 hsz ⊢
  have Hb1 := Lib.hid hb1
  have Hb2 := Lib.hid hb2
  have Hbb := Lib.hid hbb
  have Hsz := Lib.hid hsz
  have HB := Lib.hid hB
  clear hb1 hb2 hbb hsz hW2 hB
  (with_reducible refine (Hspan.out W2).mono ?_)
  rintro e w3 ⟨rfl, rfl⟩
  go_wp2_with fail
  go_loopw [9] (fun iv wr => ∃ i : Nat, i ≤ 8 ∧ iv = .int .i64 i ∧ Hid (NodeAt wr (B + 1) 0 26 (.mk (leafV L a P i) (tsum (fun i => anyT (partE L a P i) 0) i) (tsum (fun i => anyT (partE L a P i) 1) i) []) (fun _ => False)) ∧ Hid (wr.heap[B]? = some (.cells #[.int .i64 0, .int .i64 0, .int .i64 0, .int .i64 0, .int .i64 0, .int .i64 0, .int .i64 0, .int .i64 0, .int .i64 0, .int .i64 0, .slice none 0 0] 26 (0, 0))) ∧
      Hid (Below W.heap.size W wr) ∧ B + 2 ≤ wr.heap.size) (fun iv _ => 8 - (intOf iv).toNat)
  case atStart => exact ⟨0, by omega, rfl, Lib.hid (leaf_start Hb2.out), Hb1, Hbb, by have := Hsz.out; omega⟩
  case round =>
    clear Hb1 Hb2 Hbb Hsz
    obtain ⟨i, hi8, rfl, Hnode, Hg2, Hbe, hsz⟩ := hrel
    rename World => wi
    by_cases hlt : i < 8
    · have hi8' : (i : Int) < 8 := by omega
      go_wp2_with fail
      have Hp0 : Hid (wi.ownsRow wi.heap.size 83 3 (.slice none 0 0) (partE (L.take 0) a P i).length (enCells (partE (L.take 0) a P i))) := Lib.hid (World.ownsRow_nil _ _ _ _)
      go_loopw [10, 11] (fun ov kv wx => ∃ k : Nat, k ≤ M ∧ kv = .int .i64 k ∧ Hid (wx.ownsRow wi.heap.size 83 3 ov (partE (L.take k) a P i).length (enCells (partE (L.take k) a P i))) ∧ Hid (Below wi.heap.size wi wx)) (fun _ kv _ => M - (intOf kv).toNat)
      case atStart => exact ⟨0, by omega, rfl, Hp0, Lib.hid (Below.refl _ _)⟩
      case round =>
        clear Hp0
        obtain ⟨k, hkM, rfl, Hpart, Hbk⟩ := hrel
        rename World => wk
        by_cases hlk : k < M
        · have hkl : k < L.length := by rw [← HM.out]; exact hlk
          have hv2 := ownsRow_below (ownsRow_below Hv.out Hbe.out) Hbk.out
          have hv3 := hv2
          obtain ⟨c0, c1, c2⟩ := own_cell hv3 k hkl
          obtain ⟨ej, hej⟩ : ∃ ej, ej = L[k] := ⟨_, rfl⟩
          obtain ⟨q1, q2, q3, q4, q5⟩ := Hok.out.2 L[k] (List.getElem_mem _)
          have hsucc := partE_take hkl a P i
          have hpl := partE_length (L.take k) a P i
          rw [List.length_take] at hpl
          rw [← hej] at c0 c1 c2 q1 q2 q3 q4 q5 hsucc
          obtain ⟨ei, ev, et⟩ := ej
          simp only at c0 c1 c2 q1 q2 q3 q4 q5 hsucc
          obtain ⟨D, hD⟩ : ∃ D : Nat, D = ei - a := ⟨_, rfl⟩
          have hsub : (ei : Int) - (a : Int) = (D : Int) := by omega
          obtain ⟨Q, hQ⟩ : ∃ Q : Nat, Q = D / P := ⟨_, rfl⟩
          have hquo : Int.tdiv (D : Int) (P : Int) = (Q : Int) := by rw [hQ, Int.tdiv_eq_ediv_of_nonneg (Int.natCast_nonneg D), ← Int.natCast_ediv]
          rw [← hD, ← hQ] at hsucc
          have hD30 : (D : Int) ≤ 1073741824 := by omega
          have hQD : Q ≤ D := by rw [hQ]; exact Nat.div_le_self _ _
          have hQ30 : (Q : Int) ≤ 1073741824 := by omega
          have hkM' : (k : Int) < (M : Int) := by omega
          have Hsucc := Lib.hid hsucc
          have Hpl := Lib.hid hpl
          have Hej := Lib.hid hej
          clear hv2 hv3 hej hsucc hpl hD hQ q3 hQD
          by_cases hQi : Q = i
          · have hQb : ((Q : Int) == (i : Int)) = true := by simp; omega
            have hszk : wi.heap.size ≤ wk.heap.size := Hbk.out.size
            have HpA := Lib.hid (Hpart.out.alloc (.cells #[.int .i64 (ei : Int), .int .i64 ev, .int .i64 et] 83))
            have Hz2 := Lib.hid (show wi.heap.size ≤ (wk.alloc (.cells #[.int .i64 (ei : Int), .int .i64 ev, .int .i64 et] 83)).heap.size by simp; omega)
            have hl1 := Hpl.out
            have Hm := Lib.hid (show (partE (L.take k) a P i).length + 1 ≤ maxLen by unfold maxLen; omega)
            have Hm2 := Lib.hid (show ((partE (L.take k) a P i).length + 1) * 24 ≤ 140737488355328 by omega)
            clear hl1
            go_wp2_with (first
              | (refine wpList_append_own _ (by rfl) (.tmp 42) (.tmp 47) 79 (by rfl) wi.heap.size 83 i0 _ 3 24 Try.underlying79 hi0 hz0 hzs hzb (by rfl) (by omega) u10 _ _ (by rfl) (by with_reducible exact HpA.out)
                  ⟨wk.heap.size, 0, none⟩ 1 1 [.int .i64 (ei : Int), .int .i64 ev, .int .i64 et] (by rfl) (by rfl) (World.news_of_block (heap_alloc_new wk _)) (by simp [Value.oneCell']) (by with_reducible exact Hm.out) (by with_reducible exact Hm2.out) (by with_reducible exact Hz2.out) ?_
                 intro v' w' hown' hgrow hnil'))
            have hlt8 := fun j hj => Hpart.out.lt j hj
            have hown2 : w'.ownsRow wi.heap.size 83 3 v' (partE (L.take (k + 1)) a P i).length (enCells (partE (L.take (k + 1)) a P i)) := by
              rw [Hsucc.out, if_pos hQi, enCells_append, List.length_append]
              have e : enCells [⟨ei, ev, et⟩] = [.int .i64 (ei : Int), .int .i64 ev, .int .i64 et] := by simp [enCells]
              rw [e]
              exact hown'
            have hb2 : Below wi.heap.size wi w' := (Hbk.out.alloc hszk _).grown hgrow (by simp; omega) (fun j hj => (hlt8 j hj).1)
            have Hown2 := Lib.hid hown2
            have Hb2 := Lib.hid hb2
            clear hown2 hb2 hown' hgrow hnil' hlt8 c0 c1 c2
            go_wp2_with fail
            go_roundw
            case rel => exact ⟨k + 1, by omega, by go_num, Hown2, Hb2⟩
            case measure => simp [intOf]; omega
          · have hQb : ((Q : Int) == (i : Int)) = false := by simp; omega
            have hown2 : wk.ownsRow wi.heap.size 83 3 u10 (partE (L.take (k + 1)) a P i).length (enCells (partE (L.take (k + 1)) a P i)) := by
              rw [Hsucc.out, if_neg hQi, List.append_nil]; exact Hpart.out
            have Hown2 := Lib.hid hown2
            clear hown2 c1 c2
            go_wp2_with fail
            go_roundw
            case rel => exact ⟨k + 1, by omega, by go_num, Hown2, Hbk⟩
            case measure => simp [intOf]; omega
        · obtain rfl : k = M := by omega
          obtain ⟨Lp, hLp⟩ : ∃ Lp, Lp = partE L a P i := ⟨_, rfl⟩
          have hpart : wk.ownsRow wi.heap.size 83 3 u10 Lp.length (enCells Lp) := by
            have := Hpart.out
            rw [HM.out, List.take_length, ← hLp] at this
            exact this
          have hLok : EnOk Lp (a + i * P) := by rw [hLp]; exact Hok.out.part (by omega) i
          obtain ⟨N, hN⟩ : ∃ N, N = Lp.length := ⟨_, rfl⟩
          have hN30 : N ≤ 1073741824 := by rw [hN]; exact hLok.1
          obtain ⟨pp, pc, hpv⟩ : ∃ pp pc, u10 = .slice pp N pc := by
            rcases hpart.2 with ⟨h1, h0⟩ | ⟨g, cap, cur, h1, _⟩
            · exact ⟨none, 0, by rw [hN, h0]; exact h1⟩
            · exact ⟨_, _, by rw [hN]; exact h1⟩
          subst hpv
          have hcellE : ∀ j, (hj : j < Lp.length) → ∃ gg, pp = some ⟨gg, 0, none⟩ ∧ wk.cell? ⟨gg, j * 3 + 1, none⟩ = some (.int .i64 Lp[j].v) ∧ wk.cell? ⟨gg, j * 3 + 2, none⟩ = some (.int .i64 Lp[j].t) := fun j hj => by
            have h2 := hpart
            rcases hpart.2 with ⟨h1, h0⟩ | ⟨gg, cap, cur, h1, _⟩
            · omega
            · simp only [Value.slice.injEq] at h1
              obtain ⟨rfl, -, -⟩ := h1
              rw [hN] at h2
              obtain ⟨_, d1, d2⟩ := own_cell h2 j hj
              exact ⟨gg, rfl, d1, d2⟩
          have hmsk := maskE_spec (fun e he => (hLok.2 e he).2.2.2)
          have HLp := Lib.hid hLp
          have HLok := Lib.hid hLok
          have HN := Lib.hid hN
          have HcE := Lib.hid hcellE
          have Hpart2 := Lib.hid hpart
          have Hmsk := Lib.hid hmsk
          clear hLp hpart hLok hN hcellE Hpart hmsk
          go_wp2_with fail
          go_loopw [12, 13] (fun mv jv wy => ∃ j : Nat, j ≤ N ∧ jv = .int .i64 j ∧ mv = .int .i64 (maskE (Lp.take j)) ∧ wk = wy) (fun _ jv _ => N - (intOf jv).toNat)
          case atStart => exact ⟨0, by omega, rfl, rfl, rfl⟩
          case round =>
            obtain ⟨j, hjN, rfl, rfl, rfl⟩ := hrel
            by_cases hlj : j < N
            · have hjl : j < Lp.length := by rw [← HN.out]; exact hlj
              obtain ⟨gg, rfl, d1, d2⟩ := HcE.out j hjl
              have hst := maskE_take hjl
              obtain ⟨tj, htj⟩ : ∃ tj, tj = Lp[j].t := ⟨_, rfl⟩
              rw [← htj] at d2 hst
              obtain ⟨mj, hmj⟩ : ∃ mj, mj = maskE (Lp.take j) := ⟨_, rfl⟩
              rw [← hmj] at hst ⊢
              have Hst := Lib.hid hst
              clear hst htj hmj d1
              have hjN' : (j : Int) < (N : Int) := by omega
              go_wp2_with fail
              go_roundw
              case rel => exact ⟨j + 1, by omega, by go_num, by rw [Hst.out], by simp⟩
              case measure => simp [intOf]; omega
            · obtain rfl : N = j := by omega
              have hmt : maskE (Lp.take N) = maskE Lp := by rw [HN.out, List.take_length]
              rw [hmt]
              obtain ⟨m, hm⟩ : ∃ m, m = maskE Lp := ⟨_, rfl⟩
              have hmk := Hmsk.out
              rw [← hm] at hmk ⊢
              obtain ⟨hm0, hm3, hma, hmb⟩ := hmk
              obtain ⟨qa, hqa⟩ : ∃ qa : Int, qa = if anyT Lp 0 = true then 1 else 0 := ⟨_, rfl⟩
              obtain ⟨qb, hqb⟩ : ∃ qb : Int, qb = if anyT Lp 1 = true then 1 else 0 := ⟨_, rfl⟩
              rw [← hqa] at hma
              rw [← hqb] at hmb
              have hqa2 : 0 ≤ qa ∧ qa ≤ 1 := by rw [hqa]; split <;> omega
              have hqb2 : 0 ≤ qb ∧ qb ≤ 1 := by rw [hqb]; split <;> omega
              obtain ⟨sa, hsa⟩ : ∃ sa : Int, qa * 2 ^ i = sa := ⟨_, rfl⟩
              obtain ⟨sb, hsb⟩ : ∃ sb : Int, qb * 2 ^ i = sb := ⟨_, rfl⟩
              have hp7 : (0 : Int) ≤ 2 ^ i ∧ (2 : Int) ^ i ≤ 128 := pow7 (by omega)
              have hsa2 : 0 ≤ sa ∧ sa ≤ 128 := by rw [← hsa]; exact small_mul hqa2 hp7
              have hsb2 : 0 ≤ sb ∧ sb ≤ 128 := by rw [← hsb]; exact small_mul hqb2 hp7
              obtain ⟨hsa0, hsa1⟩ := hsa2
              obtain ⟨hsb0, hsb1⟩ := hsb2
              obtain ⟨T0, hT0⟩ : ∃ T0, T0 = tsum (fun i => anyT (partE L a P i) 0) i := ⟨_, rfl⟩
              obtain ⟨T1, hT1⟩ : ∃ T1, T1 = tsum (fun i => anyT (partE L a P i) 1) i := ⟨_, rfl⟩
              have hN0 : tsum (fun i => anyT (partE L a P i) 0) (i + 1) = bits .or .i64 T0 sa := by rw [tsum, ← hT0, ← hsa, hqa, HLp.out]
              have hN1 : tsum (fun i => anyT (partE L a P i) 1) (i + 1) = bits .or .i64 T1 sb := by rw [tsum, ← hT1, ← hsb, hqb, HLp.out]
              have HN0 := Lib.hid hN0
              have HN1 := Lib.hid hN1
              have HT0 := Lib.hid hT0
              have HT1 := Lib.hid hT1
              clear hN0 hN1 hqa hqb hqa2 hqb2 hp7 hm hmt hT0 hT1
              have hnode := Hnode.out.kept (Hbk.out.block (B + 1) (by omega)) (fun k hk => hk.elim)
              rw [← HT0.out, ← HT1.out] at hnode
              obtain ⟨hc8', hc9', -⟩ := hnode.cells
              have hc8 : wk.cell? ⟨B + 1, 8, none⟩ = some (.int .i64 T0) := hc8'
              have hc9 : wk.cell? ⟨B + 1, 9, none⟩ = some (.int .i64 T1) := hc9'
              have hfz := hnode.frozen
              have hoth : ∀ q, q ≠ B + 1 → ((wk.setCell ⟨B + 1, 8, none⟩ (.int .i64 (bits .or .i64 T0 sa))).setCell ⟨B + 1, 9, none⟩ (.int .i64 (bits .or .i64 T1 sb))).heap[q]? = wk.heap[q]? := fun q hq => (Below.heap_setCell _ _ _ _ hq).trans (Below.heap_setCell _ _ _ _ hq)
              have hszt : ((wk.setCell ⟨B + 1, 8, none⟩ (.int .i64 (bits .or .i64 T0 sa))).setCell ⟨B + 1, 9, none⟩ (.int .i64 (bits .or .i64 T1 sb))).heap.size = wk.heap.size := by simp [World.setCell]
              have hszk : wi.heap.size ≤ wk.heap.size := Hbk.out.size
              have hBW : W.heap.size ≤ B := by have := HB.out; omega
              have hbt : Below W.heap.size W ((wk.setCell ⟨B + 1, 8, none⟩ (.int .i64 (bits .or .i64 T0 sa))).setCell ⟨B + 1, 9, none⟩ (.int .i64 (bits .or .i64 T1 sb))) := ((Hbe.out.trans (Hbk.out.mono (by omega))).setCell (p := ⟨B + 1, 8, none⟩) (by show W.heap.size ≤ B + 1; omega) _).setCell (p := ⟨B + 1, 9, none⟩) (by show W.heap.size ≤ B + 1; omega) _
              have hpt := ownsRow_put Hpart2.out (show B + 1 < wi.heap.size by omega) hoth
              have hg2 := (hoth B (by omega)).trans ((Hbk.out.block B (by omega)).trans Hg2.out)
              have HIN0 := Lib.hid (inI64_bits .or T0 sa)
              have HIN1 := Lib.hid (inI64_bits .or T1 sb)
              have hn2 : NodeAt ((wk.setCell ⟨B + 1, 8, none⟩ (.int .i64 (bits .or .i64 T0 sa))).setCell ⟨B + 1, 9, none⟩ (.int .i64 (bits .or .i64 T1 sb))) (B + 1) 0 26 (.mk (leafV L a P i) (bits .or .i64 T0 sa) (bits .or .i64 T1 sb) []) (fun _ => False) := (hnode.putT0 _ HIN0.out).putT1 _ HIN1.out
              have HBe := Lib.hid hbt
              have Hpt := Lib.hid hpt
              have Hg2t := Lib.hid hg2
              have Hn2 := Lib.hid hn2
              have Hszt := Lib.hid (show B + 2 ≤ ((wk.setCell ⟨B + 1, 8, none⟩ (.int .i64 (bits .or .i64 T0 sa))).setCell ⟨B + 1, 9, none⟩ (.int .i64 (bits .or .i64 T1 sb))).heap.size by rw [hszt]; omega)
              clear hc8' hc9' hnode hoth hszt hbt hpt hg2 hn2 hszk
              go_upto_region 21 with fail
              generalize (wk.setCell ⟨B + 1, 8, none⟩ (.int .i64 (bits .or .i64 T0 sa))).setCell ⟨B + 1, 9, none⟩ (.int .i64 (bits .or .i64 T1 sb)) = wt at HBe Hpt Hg2t Hn2 Hszt ⊢
              clear hc8 hc9 hfz Hnode Hg2 Hbe Hbk Hpart2
              by_cases hN0 : N = 0
              · have hNd : decide (0 < (N : Int)) = false := by simp; omega
                have hNd' : decide (0 < N) = false := by simp; omega
                have hLe : Lp = [] := List.length_eq_zero_iff.1 (by rw [← HN.out]; exact hN0)
                have hsame := leafV_same (L := L) (a := a) (P := P) hlt (by rw [← HLp.out, hLe]; rfl)
                have hn3 := Hn2.out
                rw [hsame, ← HN0.out, ← HN1.out] at hn3
                have Hn3 := Lib.hid hn3
                clear hn3 hsame hLe hN0
                go_wp2_with fail
                go_roundw
                case rel => exact ⟨i + 1, by omega, by go_num, Hn3, Hg2t, HBe, Hszt.out⟩
                case measure => simp [intOf]; omega
              · have hNd : decide (0 < (N : Int)) = true := by simp; omega
                have hNd' : decide (0 < N) = true := by simp; omega
                have hNp : 0 < N := by omega
                have hNp' : (0 : Int) < (N : Int) := by omega
                have hpt2 := Hpt.out
                have hN1 : 0 < Lp.length := by rw [← HN.out]; omega
                obtain ⟨gg, rfl⟩ : ∃ gg, pp = some ⟨gg, 0, none⟩ := by
                  rcases hpt2.2 with ⟨_, h0⟩ | ⟨gg, cap, cur, h1, _⟩
                  · omega
                  · simp only [Value.slice.injEq] at h1
                    exact ⟨gg, h1.1⟩
                rw [show N = Lp.length from HN.out] at hpt2
                obtain ⟨-, d1, -⟩ := own_cell hpt2 0 hN1
                rw [Nat.zero_mul, Nat.zero_add] at d1
                obtain ⟨v0, hv0⟩ : ∃ v0, v0 = Lp[0].v := ⟨_, rfl⟩
                rw [← hv0] at d1
                have hv0i : inI64 v0 := by rw [hv0]; exact (HLok.out.2 _ (List.getElem_mem _)).2.2.1
                have hhead : headV (partE L a P i) = v0 := by
                  rw [← HLp.out, hv0]
                  cases Lp with
                  | nil => simp at hN1
                  | cons e l => rfl
                have hset := leafV_set (L := L) (a := a) (P := P) hlt
                rw [hhead] at hset
                have hn3 := Hn2.out.putV (d := i) v0 hv0i hlt
                rw [hset, ← HN0.out, ← HN1.out, Nat.zero_add] at hn3
                have hcvi := Hn2.out.cells.2.2 i hlt
                rw [Nat.zero_add] at hcvi
                have hfz := Hn2.out.frozen
                have Hn3 := Lib.hid hn3
                have hg3 : (wt.setCell ⟨B + 1, i, none⟩ (.int .i64 v0)).heap[B]? = some (.cells #[.int .i64 0, .int .i64 0, .int .i64 0, .int .i64 0, .int .i64 0, .int .i64 0, .int .i64 0, .int .i64 0, .int .i64 0, .int .i64 0, .slice none 0 0] 26 (0, 0)) := (Below.heap_setCell _ _ _ _ (show B ≠ B + 1 by omega)).trans Hg2t.out
                have hb3 : Below W.heap.size W (wt.setCell ⟨B + 1, i, none⟩ (.int .i64 v0)) := HBe.out.setCell (p := ⟨B + 1, i, none⟩) (by show W.heap.size ≤ B + 1; omega) _
                have Hg3 := Lib.hid hg3
                have Hb3 := Lib.hid hb3
                have hs3 : B + 2 ≤ (wt.setCell ⟨B + 1, i, none⟩ (.int .i64 v0)).heap.size := by simp only [World.setCell, Array.size_modify]; exact Hszt.out
                have Hs3 := Lib.hid hs3
                clear hpt2 hv0 hv0i hhead hset hn3 hg3 hb3 hs3 hN0 hN1
                go_wp2_with fail
                go_roundw
                case rel => exact ⟨i + 1, by omega, by go_num, Hn3, Hg3, Hb3, Hs3.out⟩
                case measure => simp [intOf]; omega
    · obtain rfl : i = 8 := by omega
      rw [show ((8 : Nat) : Int) = 8 from rfl]
      have hn := Hnode.out
      rw [leafV_end] at hn
      obtain ⟨n, hnn⟩ : ∃ n, n = Nd.mk ((List.range 8).map fun i => headV (partE L a P i)) (tsum (fun i => anyT (partE L a P i) 0) 8) (tsum (fun i => anyT (partE L a P i) 1) 8) [] := ⟨_, rfl⟩
      rw [← hnn] at hn HP
      obtain ⟨cur, c, hg1, hr, hO, -⟩ := hn
      have hO2 := hO.other (w' := (wi.setRow B c)) (g := B) (fun hk => hk) (fun k hk => setRow_other _ _ _ _ hk)
      have hfin := HP.out (.returned (.agg c)) _ ⟨⟨_, _, rfl, hO2, fun k hk => hk.elim⟩, Below.putRow Hbe.out (by have := HB.out; omega) _⟩
      have Hfin := Lib.hid hfin
      have hone := hO.isN.one
      have hsize := hO.isN.size
      have Hrr := Lib.hid hr
      clear hO hO2 hfin hg1 hr hnn
      go_wp2_with (first
        | (refine wpList_load_nd (.tmp 7) (by rfl) (by rfl) (B + 1) 0 (by rfl) c hsize (by with_reducible exact Hrr.out) ?_)
        | (refine wpList_store_nd rfl (.tmp 6) _ rfl B _ rfl rfl hsize hone 26 _ Hg2.out rfl ?_))
      exact bodyPost_ret (results_cell rfl _ _ B _ rfl (load26 (setRow_heap _ _ _ _ _ _ Hg2.out) hsize)) rfl Hfin.out
end Go.Proofs.Ytmdmbnpgdkmklaa
