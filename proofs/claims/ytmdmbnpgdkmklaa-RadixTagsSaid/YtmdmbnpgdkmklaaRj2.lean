/- radix.clone: a copy of a tree in blocks of its own. -/
import Derived.Test.YtmdmbnpgdkmklaaSc
import Derived.Deep.RegionHeld3
import Derived.Deep.RegionLaw
import Derived.Deep.AppendLies
import Derived.OwnWalk
import Derived.Test.YtmdmbnpgdkmklaaSh
namespace Go.Proofs.Ytmdmbnpgdkmklaa
open Go.RowKit
set_option linter.unusedVariables false
set_option linter.unusedSimpArgs false

theorem info26 : (Try.prog.info? 26).map (fun i => (i.zero, i.size, i.bytes)) = some (some (.agg #[.int .i64 0, .int .i64 0, .int .i64 0, .int .i64 0, .int .i64 0, .int .i64 0, .int .i64 0, .int .i64 0, .int .i64 0, .int .i64 0, .slice none 0 0]), 11, 104) := by kernel_rfl

theorem sizes7 {w6 w7 : World} {gx B : Nat} (h : Below w6.drew.heap.size w6.drew w7) (h1 : gx < w6.heap.size) (h2 : B < w6.heap.size) (h3 : B + 2 ≤ w6.heap.size) : gx < w7.heap.size ∧ B < w7.heap.size ∧ B + 2 ≤ w7.heap.size ∧ w6.heap.size ≤ w7.heap.size := by
  have := h.size
  have e : w6.drew.heap.size = w6.heap.size := rfl
  rw [e] at this
  exact ⟨by omega, by omega, by omega, this⟩
theorem baseA (w : World) (o : Obj) {B : Nat} (h : B ≤ w.heap.size) : B ≤ (w.alloc o).heap.size := by simp; omega
theorem sizeA (w : World) (o : Obj) : (w.alloc o).heap.size = w.heap.size + 1 := by simp
theorem ones11 (y0 y1 y2 y3 y4 y5 y6 y7 y8 y9 : Int) (p : Option Addr) (l c : Nat) : ∀ u ∈ [Value.int .i64 y0, .int .i64 y1, .int .i64 y2, .int .i64 y3, .int .i64 y4, .int .i64 y5, .int .i64 y6, .int .i64 y7, .int .i64 y8, .int .i64 y9, .slice p l c], u.oneCell' = true := by
  simp [Value.oneCell']

theorem far8 {w7 w8 : World} {o : Obj} {row : Option Nat} {B : Nat} {sv : Value} (hg : (w7.alloc o).grownBy w8 row) (hB : B < w7.heap.size) (hne : (some B : Option Nat) ≠ row) (hc : w7.cell? ⟨B, 10, none⟩ = some sv) (hf : w7.frozen? ⟨B, 10, none⟩ = false) :
    w8.cell? ⟨B, 10, none⟩ = some sv ∧ w8.frozen? ⟨B, 10, none⟩ = false :=
  ⟨by rw [hg.cell_far _ (by simp; omega) hne]; exact (Keeps.alloc _ _) _ _ hc, by rw [hg.frozen_far _ (by simp; omega) hne]; exact frozen_below ((Below.refl _ _).alloc (Nat.le_refl _) _) hB hf⟩

/-- What clone leaves. -/
def Cloned (W : World) (n : Nd) (e : Ending) (W' : World) : Prop :=
  (∃ c S, e = .returned (.agg c) ∧ Owns W' n c S ∧ (∀ k, S k → W.heap.size ≤ k)) ∧ Below W.heap.size W W'

/-- The state behind one round of clone's loop. -/
theorem clone_round {W w6 w7 w8 : World} {ks : List Nd} {j : Nat} {sv : Value} {xs : List Value} {S7 : Nat → Prop} {gg cap8 : Nat} {p0 p1 p2 p3 p4 p5 p6 p7 p8 p9 : Value} {zc : Array Value} {y0 y1 y2 y3 y4 y5 y6 y7 z0 z1 : Int} {yp : Option Addr} {yl yc : Nat} (hj : j < ks.length)
    (hsz : W.heap.size + 2 ≤ w6.heap.size)
    (hg1 : w6.heap[W.heap.size]? = some (.cells #[p0, p1, p2, p3, p4, p5, p6, p7, p8, p9, sv] 26 (0, 0))) (hg2 : w6.heap[W.heap.size + 1]? = some (.cells zc 26 (0, 0)))
    (hown : w6.ownsRow (W.heap.size + 2) 26 11 sv j xs) (hk : KidsAt (W.heap.size + 2) w6 ks j sv xs) (hbe : Below W.heap.size W w6)
    (hB7 : Below w6.drew.heap.size w6.drew w7) (hO : Owns w7 ks[j] #[.int .i64 y0, .int .i64 y1, .int .i64 y2, .int .i64 y3, .int .i64 y4, .int .i64 y5, .int .i64 y6, .int .i64 y7, .int .i64 z0, .int .i64 z1, .slice yp yl yc] S7) (hS : ∀ k, S7 k → w6.drew.heap.size ≤ k)
    (hown8 : w8.ownsRow (W.heap.size + 2) 26 11 (.slice (some ⟨gg, 0, none⟩) (j + 1) cap8) (j + 1) (xs ++ [.int .i64 y0, .int .i64 y1, .int .i64 y2, .int .i64 y3, .int .i64 y4, .int .i64 y5, .int .i64 y6, .int .i64 y7, .int .i64 z0, .int .i64 z1, .slice yp yl yc]))
    (hgrow : (w7.alloc (.cells #[.int .i64 y0, .int .i64 y1, .int .i64 y2, .int .i64 y3, .int .i64 y4, .int .i64 y5, .int .i64 y6, .int .i64 y7, .int .i64 z0, .int .i64 z1, .slice yp yl yc] 26)).grownBy w8 sv.ownBlock) (hat : sv.ownBlock = some gg ∨ gg = w7.heap.size + 1) :
    ∀ wf, wf = w8.setCell ⟨W.heap.size, 10, none⟩ (.slice (some ⟨gg, 0, none⟩) (j + 1) cap8) →
    wf.heap[W.heap.size]? = some (.cells #[p0, p1, p2, p3, p4, p5, p6, p7, p8, p9, .slice (some ⟨gg, 0, none⟩) (j + 1) cap8] 26 (0, 0)) ∧ wf.heap[W.heap.size + 1]? = some (.cells zc 26 (0, 0)) ∧
    wf.ownsRow (W.heap.size + 2) 26 11 (.slice (some ⟨gg, 0, none⟩) (j + 1) cap8) (j + 1) (xs ++ [.int .i64 y0, .int .i64 y1, .int .i64 y2, .int .i64 y3, .int .i64 y4, .int .i64 y5, .int .i64 y6, .int .i64 y7, .int .i64 z0, .int .i64 z1, .slice yp yl yc]) ∧ KidsAt (W.heap.size + 2) wf ks (j + 1) (.slice (some ⟨gg, 0, none⟩) (j + 1) cap8) (xs ++ [.int .i64 y0, .int .i64 y1, .int .i64 y2, .int .i64 y3, .int .i64 y4, .int .i64 y5, .int .i64 y6, .int .i64 y7, .int .i64 z0, .int .i64 z1, .slice yp yl yc]) ∧
    Below W.heap.size W wf ∧ W.heap.size + 2 ≤ wf.heap.size := by
  intro wf hwf
  have hlt := fun k hk => hown.lt k hk
  have hs7 : w6.heap.size ≤ w7.heap.size := hB7.size
  have hsA : (w7.alloc (.cells #[.int .i64 y0, .int .i64 y1, .int .i64 y2, .int .i64 y3, .int .i64 y4, .int .i64 y5, .int .i64 y6, .int .i64 y7, .int .i64 z0, .int .i64 z1, .slice yp yl yc] 26)).heap.size = w7.heap.size + 1 := by simp
  have hs8 := hgrow.size
  rw [hsA] at hs8
  have hBA : Below w6.drew.heap.size w6.drew (w7.alloc (.cells #[.int .i64 y0, .int .i64 y1, .int .i64 y2, .int .i64 y3, .int .i64 y4, .int .i64 y5, .int .i64 y6, .int .i64 y7, .int .i64 z0, .int .i64 z1, .slice yp yl yc] 26)) := hB7.alloc hs7 _
  have hne1 : (some W.heap.size : Option Nat) ≠ sv.ownBlock := fun e => by have := hlt _ e.symm; omega
  have hne2 : (some (W.heap.size + 1) : Option Nat) ≠ sv.ownBlock := fun e => by have := hlt _ e.symm; omega
  have e1 : w8.heap[W.heap.size]? = some (.cells #[p0, p1, p2, p3, p4, p5, p6, p7, p8, p9, sv] 26 (0, 0)) :=
    (hgrow.block _ (by omega) hne1).trans ((hBA.block _ (show W.heap.size < w6.heap.size by omega)).trans hg1)
  have e2 : w8.heap[W.heap.size + 1]? = some (.cells zc 26 (0, 0)) :=
    (hgrow.block _ (by omega) hne2).trans ((hBA.block _ (show W.heap.size + 1 < w6.heap.size by omega)).trans hg2)
  have hoth : ∀ k, k ≠ W.heap.size → wf.heap[k]? = w8.heap[k]? := fun k hk => by rw [hwf]; exact Below.heap_setCell _ _ _ _ hk
  have hszf : wf.heap.size = w8.heap.size := by rw [hwf]; simp [World.setCell]
  have hkD : KidsAt (W.heap.size + 2) w6.drew ks j sv xs := hk.kept (Below.refl _ _).drew
  have hk8 := hkD.succ (w := w7.alloc (.cells #[.int .i64 y0, .int .i64 y1, .int .i64 y2, .int .i64 y3, .int .i64 y4, .int .i64 y5, .int .i64 y6, .int .i64 y7, .int .i64 z0, .int .i64 z1, .slice yp yl yc] 26)) (w' := w8) (c := #[.int .i64 y0, .int .i64 y1, .int .i64 y2, .int .i64 y3, .int .i64 y4, .int .i64 y5, .int .i64 y6, .int .i64 y7, .int .i64 z0, .int .i64 z1, .slice yp yl yc]) (S := S7) (gg := gg) (cap := cap8) (n := j + 1) hsz (by rw [hown.1]) hj hBA (hO.kept ((Below.refl _ _).alloc (Nat.le_refl _) _)) rfl hS (fun k hk => (hlt k hk).2) hgrow (by rw [hsA]; exact hat)
  refine ⟨?_, (hoth _ (by omega)).trans e2, ownsRow_put hown8 (by omega) hoth, hk8.put (by omega) hszf hoth, ?_, by omega⟩
  · rw [hwf]
    have := heap_setCell_same w8 W.heap.size 10 _ 26 (.slice (some ⟨gg, 0, none⟩) (j + 1) cap8) e1
    rw [this]; rfl
  · rw [hwf]
    have h7 : Below W.heap.size W (w7.alloc (.cells #[.int .i64 y0, .int .i64 y1, .int .i64 y2, .int .i64 y3, .int .i64 y4, .int .i64 y5, .int .i64 y6, .int .i64 y7, .int .i64 z0, .int .i64 z1, .slice yp yl yc] 26)) := hbe.drew.trans (hBA.mono (show W.heap.size ≤ w6.heap.size by omega))
    exact (h7.grown hgrow (by omega) (fun k hk => by have := hlt k hk; omega)).setCell (p := ⟨W.heap.size, 10, none⟩) (Nat.le_refl _) _

set_option maxRecDepth 100000 in
set_option maxHeartbeats 8000000 in
theorem clone_spec {w : World} {n : Nd} {c : Array Value} (h : IsN w n c) : Slim n → ∀ (W : World), Keeps w W →
    Calls Try.prog 72 #[.agg c] W fun e w' => Cloned W n e w' := by
  induction h with
  | mk v t0 t1 ks a b o cap f hv hvb h0 h1 haa hl hcp hf hk ih =>
    intro hslim W hK
    have hsl : ks.length ≤ 8 ∧ ∀ i (h : i < ks.length), Slim ks[i] := by cases hslim with | mk _ _ _ _ h8 hk => exact ⟨h8, hk⟩
    obtain ⟨h8, hsk⟩ := hsl
    obtain ⟨post, hpost⟩ : ∃ post : Ending → World → Prop, post = Cloned W (.mk v t0 t1 ks) := ⟨_, rfl⟩
    have HP : Hid (∀ e W', Cloned W (.mk v t0 t1 ks) e W' → post e W') := Lib.hid (by rw [hpost]; exact fun e W' a => a)
    rw [← hpost]
    have Hf := Lib.hid hf
    have Hk := Lib.hid hk
    have Ih := Lib.hid ih
    have Haa := Lib.hid haa
    have HK := Lib.hid hK
    have Hsk := Lib.hid hsk
    have Hvb := Lib.hid hvb
    have Hv := Lib.hid hv
    obtain ⟨v0, v1, v2, v3, v4, v5, v6, v7, hv8⟩ := list8 hv
    have hcells : ndCells v t0 t1 (.slice a ks.length cap) = #[.int .i64 v0, .int .i64 v1, .int .i64 v2, .int .i64 v3, .int .i64 v4, .int .i64 v5, .int .i64 v6, .int .i64 v7, .int .i64 t0, .int .i64 t1, .slice a ks.length cap] := by rw [hv8]; rfl
    have hcellsN : ∀ s, #[.int .i64 v0, .int .i64 v1, .int .i64 v2, .int .i64 v3, .int .i64 v4, .int .i64 v5, .int .i64 v6, .int .i64 v7, .int .i64 t0, .int .i64 t1, s] = ndCells v t0 t1 s := fun s => by rw [hv8]; rfl
    rw [hcells]
    have HcN := Lib.hid hcellsN
    have H0 := Lib.hid h0
    have H1 := Lib.hid h1
    have H8 := Lib.hid h8
    have Hcp := Lib.hid hcp
    clear hf hk ih haa hK hsk hvb hv hv8 hcells hcellsN h0 h1 hpost hslim hl hcp
    go_enter Try.func72, Try.ntmps72
    go_wp2_with fail
    have hb1 := heap_alloc2_old W (.cells #[.int .i64 v0, .int .i64 v1, .int .i64 v2, .int .i64 v3, .int .i64 v4, .int .i64 v5, .int .i64 v6, .int .i64 v7, .int .i64 t0, .int .i64 t1, .slice none 0 0] 26) (.cells #[.int .i64 0, .int .i64 0, .int .i64 0, .int .i64 0, .int .i64 0, .int .i64 0, .int .i64 0, .int .i64 0, .int .i64 0, .int .i64 0, .slice none 0 0] 26)
    have hb2 := heap_alloc2_new W (.cells #[.int .i64 v0, .int .i64 v1, .int .i64 v2, .int .i64 v3, .int .i64 v4, .int .i64 v5, .int .i64 v6, .int .i64 v7, .int .i64 t0, .int .i64 t1, .slice none 0 0] 26) (.cells #[.int .i64 0, .int .i64 0, .int .i64 0, .int .i64 0, .int .i64 0, .int .i64 0, .int .i64 0, .int .i64 0, .int .i64 0, .int .i64 0, .slice none 0 0] 26)
    have hbb : Below W.heap.size W ((W.alloc (.cells #[.int .i64 v0, .int .i64 v1, .int .i64 v2, .int .i64 v3, .int .i64 v4, .int .i64 v5, .int .i64 v6, .int .i64 v7, .int .i64 t0, .int .i64 t1, .slice none 0 0] 26)).alloc (.cells #[.int .i64 0, .int .i64 0, .int .i64 0, .int .i64 0, .int .i64 0, .int .i64 0, .int .i64 0, .int .i64 0, .int .i64 0, .int .i64 0, .slice none 0 0] 26)) := ((Below.refl _ _).alloc (Nat.le_refl _) _).alloc (by simp) _
    have hsz : ((W.alloc (.cells #[.int .i64 v0, .int .i64 v1, .int .i64 v2, .int .i64 v3, .int .i64 v4, .int .i64 v5, .int .i64 v6, .int .i64 v7, .int .i64 t0, .int .i64 t1, .slice none 0 0] 26)).alloc (.cells #[.int .i64 0, .int .i64 0, .int .i64 0, .int .i64 0, .int .i64 0, .int .i64 0, .int .i64 0, .int .i64 0, .int .i64 0, .int .i64 0, .slice none 0 0] 26)).heap.size = W.heap.size + 2 := by simp
    obtain ⟨W2, hW2⟩ : ∃ W2, W2 = ((W.alloc (.cells #[.int .i64 v0, .int .i64 v1, .int .i64 v2, .int .i64 v3, .int .i64 v4, .int .i64 v5, .int .i64 v6, .int .i64 v7, .int .i64 t0, .int .i64 t1, .slice none 0 0] 26)).alloc (.cells #[.int .i64 0, .int .i64 0, .int .i64 0, .int .i64 0, .int .i64 0, .int .i64 0, .int .i64 0, .int .i64 0, .int .i64 0, .int .i64 0, .slice none 0 0] 26)) := ⟨_, rfl⟩
    rw [← hW2] at hb1 hb2 hbb hsz ⊢
    have Hb1 := Lib.hid hb1
    have Hb2 := Lib.hid hb2
    have Hbb := Lib.hid hbb
    have Hsz := Lib.hid hsz
    clear hb1 hb2 hbb hsz hW2
    go_loopw [11] (fun i wr => ∃ (j : Nat) (sv : Value) (xs : List Value), j ≤ ks.length ∧ i = .int .i64 j ∧
      Hid (wr.heap[W.heap.size]? = some (.cells #[.int .i64 v0, .int .i64 v1, .int .i64 v2, .int .i64 v3, .int .i64 v4, .int .i64 v5, .int .i64 v6, .int .i64 v7, .int .i64 t0, .int .i64 t1, sv] 26 (0, 0))) ∧
      Hid (wr.heap[W.heap.size + 1]? = some (.cells #[.int .i64 0, .int .i64 0, .int .i64 0, .int .i64 0, .int .i64 0, .int .i64 0, .int .i64 0, .int .i64 0, .int .i64 0, .int .i64 0, .slice none 0 0] 26 (0, 0))) ∧
      Hid (wr.ownsRow (W.heap.size + 2) 26 11 sv j xs) ∧ Hid (KidsAt (W.heap.size + 2) wr ks j sv xs) ∧ Hid (j = 0 → sv = .slice none 0 0) ∧ Hid (Below W.heap.size W wr) ∧ W.heap.size + 2 ≤ wr.heap.size) (fun i _ => ks.length - (intOf i).toNat)
    case atStart => exact ⟨0, .slice none 0 0, [], by omega, rfl, Hb1, Hb2, Lib.hid (World.ownsRow_nil _ _ _ _), Lib.hid (KidsAt.zero _ _ _ _), Lib.hid (fun _ => rfl), Hbb, by have := Hsz.out; omega⟩
    case round =>
      obtain ⟨j, sv, xs, hj, rfl, Hg1, Hg2, Hown, Hkids, Hz, Hbe, hsz⟩ := hrel
      have hc1 : ∀ q, wr.cell? ⟨W.heap.size, q, none⟩ = _ := fun q => cell_of_row wr W.heap.size q _ _ _ Hg1.out
      have hsv : sv.oneCell' = true := by
        rcases Hown.out.2 with ⟨rfl, _⟩ | ⟨_, _, _, rfl, _⟩ <;> rfl
      by_cases hlt : j < ks.length
      · obtain rfl : a = some ⟨b, o, none⟩ := Haa.out (by rintro rfl; simp at hlt)
        have hkw : Keeps w wr := HK.out.trans (Keeps.of_below Hbe.out)
        have hkn := (Hk.out j hlt).keeps hkw
        have hkr := (Hf.out j hlt).keeps hkw
        obtain ⟨x0, x1, x2, x3, x4, x5, x6, x7, xp, xl, xc, hx⟩ := hkn.lit
        rw [hx] at hkr
        have hcall := fun (W' : World) (q : Keeps wr W') => Ih.out j hlt (Hsk.out j hlt) W' (hkw.trans q)
        rw [hx] at hcall
        have Hkr := Lib.hid hkr
        have Hcall := Lib.hid hcall
        have hlenb : (j : Int) < (ks.length : Int) := by omega
        generalize hkt0 : (ks[j]).t0 = kt0 at *
        generalize hkt1 : (ks[j]).t1 = kt1 at *
        have hbz : b < wr.heap.size := lt_of_cell (Hkr.out 0 (by simp))
        clear hkn hkr hcall hkw hx hkt0 hkt1
        have hc10 : wr.cell? ⟨W.heap.size, 10, none⟩ = some sv := by rw [hc1]; rfl
        clear hc1
        go_wp2_with (first | (refine wpList_load_nd (.tmp 13) rfl rfl b (o + j * 11) rfl _ rfl Hkr.out ?_))
        have hgx := heap_alloc_new wr (.cells #[.int .i64 x0, .int .i64 x1, .int .i64 x2, .int .i64 x3, .int .i64 x4, .int .i64 x5, .int .i64 x6, .int .i64 x7, .int .i64 kt0, .int .i64 kt1, .slice xp xl xc] 26)
        have hB6 : Below wr.heap.size wr (wr.alloc (.cells #[.int .i64 x0, .int .i64 x1, .int .i64 x2, .int .i64 x3, .int .i64 x4, .int .i64 x5, .int .i64 x6, .int .i64 x7, .int .i64 kt0, .int .i64 kt1, .slice xp xl xc] 26)) := (Below.refl _ _).alloc (Nat.le_refl _) _
        have hs6 : (wr.alloc (.cells #[.int .i64 x0, .int .i64 x1, .int .i64 x2, .int .i64 x3, .int .i64 x4, .int .i64 x5, .int .i64 x6, .int .i64 x7, .int .i64 kt0, .int .i64 kt1, .slice xp xl xc] 26)).heap.size = wr.heap.size + 1 := by simp
        obtain ⟨w6, hw6⟩ : ∃ w6, w6 = wr.alloc (.cells #[.int .i64 x0, .int .i64 x1, .int .i64 x2, .int .i64 x3, .int .i64 x4, .int .i64 x5, .int .i64 x6, .int .i64 x7, .int .i64 kt0, .int .i64 kt1, .slice xp xl xc] 26) := ⟨_, rfl⟩
        obtain ⟨gx, hgxe⟩ : ∃ gx, gx = wr.heap.size := ⟨_, rfl⟩
        rw [← hw6] at hgx hB6 hs6 ⊢
        rw [← hgxe] at hgx hs6 ⊢
        have hcx := fun q => cell_of_row w6 gx q _ _ _ hgx
        have hc10' : w6.cell? ⟨W.heap.size, 10, none⟩ = some sv := (Keeps.of_below hB6) _ _ hc10
        have hg16 := (hB6.block _ (by omega)).trans Hg1.out
        have hg26 := (hB6.block _ (by omega)).trans Hg2.out
        have hown6 := ownsRow_below Hown.out hB6
        have hkids6 := Hkids.out.kept hB6
        have hbe6 : Below W.heap.size W w6 := Hbe.out.trans (hB6.mono (by omega))
        have hfz : w6.frozen? ⟨W.heap.size, 10, none⟩ = false := frozen_of_row _ _ _ _ _ hg16
        have hx0 : w6.cell? ⟨gx, 0, none⟩ = some (.int .i64 x0) := hcx 0
        have hx1 : w6.cell? ⟨gx, 1, none⟩ = some (.int .i64 x1) := hcx 1
        have hx2 : w6.cell? ⟨gx, 2, none⟩ = some (.int .i64 x2) := hcx 2
        have hx3 : w6.cell? ⟨gx, 3, none⟩ = some (.int .i64 x3) := hcx 3
        have hx4 : w6.cell? ⟨gx, 4, none⟩ = some (.int .i64 x4) := hcx 4
        have hx5 : w6.cell? ⟨gx, 5, none⟩ = some (.int .i64 x5) := hcx 5
        have hx6 : w6.cell? ⟨gx, 6, none⟩ = some (.int .i64 x6) := hcx 6
        have hx7 : w6.cell? ⟨gx, 7, none⟩ = some (.int .i64 x7) := hcx 7
        have hx8 : w6.cell? ⟨gx, 8, none⟩ = some (.int .i64 kt0) := hcx 8
        have hx9 : w6.cell? ⟨gx, 9, none⟩ = some (.int .i64 kt1) := hcx 9
        have hx10 : w6.cell? ⟨gx, 10, none⟩ = some (.slice xp xl xc) := hcx 10
        have Hg16 := Lib.hid hg16
        have Hg26 := Lib.hid hg26
        have Hown6 := Lib.hid hown6
        have Hkids6 := Lib.hid hkids6
        have Hbe6 := Lib.hid hbe6
        have Hs6 := Lib.hid hs6
        have HgX := Lib.hid hgxe
        have HkD : Hid (Keeps wr w6.drew) := Lib.hid (Keeps.of_below hB6.drew)
        have HsvL : Hid (∀ k, sv.ownBlock = some k → W.heap.size + 2 ≤ k ∧ k < gx) := Lib.hid (fun k hk => by rw [hgxe]; exact Hown.out.lt k hk)
        have hneB : (some W.heap.size : Option Nat) ≠ sv.ownBlock := fun e => by have := HsvL.out _ e.symm; omega
        have hneX : (some gx : Option Nat) ≠ sv.ownBlock := fun e => by have := HsvL.out _ e.symm; omega
        have HneB := Lib.hid hneB
        have HneX := Lib.hid hneX
        clear hneB hneX
        have H8' := H8.out
        obtain ⟨i0, hi0, hz0, hz1, hz2⟩ := info_parts info26
        have hgx6 : gx < w6.heap.size := by omega
        have hB16 : W.heap.size < w6.heap.size := by omega
        have hB26 : W.heap.size + 2 ≤ w6.heap.size := by omega
        have h011 : 0 < 11 := by omega
        have h01 : 0 < 1 := by omega
        have h63 : j + 1 ≤ maxLen := by unfold maxLen; omega
        have hby : (j + 1) * 104 ≤ 140737488355328 := by omega
        clear hgx hB6 hw6 hcx hc10 hg16 hg26 hown6 hkids6 hbe6 hs6 hgxe Hg1 Hg2 Hown Hkids Hbe Hkr Hf hbz
        go_wp2_with fail
        go_region_law
          (first
            | (go_simp; go_at_call 72
               (with_reducible refine (Hcall.out _ HkD.out).mono ?_)
               rintro e w7 ⟨⟨c7, S7, rfl, hO7, hS7⟩, hB7⟩
               obtain ⟨hz7, hz8, hbs7, hs67⟩ := sizes7 hB7 hgx6 hB16 hB26
               obtain ⟨y0, y1, y2, y3, y4, y5, y6, y7, yp, yl, yc, rfl⟩ := hO7.isN.lit
               have HO7 := Lib.hid hO7
               have HS7 := Lib.hid hS7
               have HownA := Lib.hid ((ownsRow_below (ownsRow_below Hown6.out (Below.refl _ _).drew) hB7).alloc (.cells #[.int .i64 y0, .int .i64 y1, .int .i64 y2, .int .i64 y3, .int .i64 y4, .int .i64 y5, .int .i64 y6, .int .i64 y7, .int .i64 (ks[j]).t0, .int .i64 (ks[j]).t1, .slice yp yl yc] 26))
               have HbaseA := Lib.hid (baseA w7 (.cells #[.int .i64 y0, .int .i64 y1, .int .i64 y2, .int .i64 y3, .int .i64 y4, .int .i64 y5, .int .i64 y6, .int .i64 y7, .int .i64 (ks[j]).t0, .int .i64 (ks[j]).t1, .slice yp yl yc] 26) hbs7)
               obtain ⟨hcB7, hfB7⟩ := bcell hB7
               have hc107 : w7.cell? ⟨W.heap.size, 10, none⟩ = some sv := Keeps.of_below hB7 _ _ hc10'
               have hf107 : w7.frozen? ⟨W.heap.size, 10, none⟩ = false := frozen_below hB7 hB16 hfz
               clear hO7 hS7 hbs7 hs67)
            | (refine step_append_lies _ (by rfl) _ _ _ (by rfl) (W.heap.size + 2) 26 i0 _ 11 104 Try.underlying24 hi0 hz0 hz1 hz2 rfl h011 sv j xs (by rfl) HownA.out
                ⟨w7.heap.size, 0, none⟩ 1 1 [.int .i64 y0, .int .i64 y1, .int .i64 y2, .int .i64 y3, .int .i64 y4, .int .i64 y5, .int .i64 y6, .int .i64 y7, .int .i64 (ks[j]).t0, .int .i64 (ks[j]).t1, .slice yp yl yc] (by rfl) (by rfl) (World.news_of_block (cs := #[.int .i64 y0, .int .i64 y1, .int .i64 y2, .int .i64 y3, .int .i64 y4, .int .i64 y5, .int .i64 y6, .int .i64 y7, .int .i64 (ks[j]).t0, .int .i64 (ks[j]).t1, .slice yp yl yc]) (t := 26) (fr := (0, 0)) (heap_alloc_new w7 _)) (ones11 _ _ _ _ _ _ _ _ _ _ _ _ _)
                h01 h63 hby HbaseA.out (w7.heap.size + 1) (sizeA w7 _) ?_
               intro gg cap8 w8 hown8 hgrow hat hlt8
               obtain ⟨hc108, hf108⟩ := far8 hgrow hz8 HneB.out hc107 hf107))
        all_goals
          obtain ⟨q1, q2, q3, q4, q5, q6⟩ := clone_round hlt hB26 Hg16.out Hg26.out Hown6.out Hkids6.out Hbe6.out hB7 HO7.out HS7.out hown8 hgrow hat _ rfl
          obtain ⟨wf, hwf⟩ : ∃ wf, wf = w8.setCell ⟨W.heap.size, 10, none⟩ (.slice (some ⟨gg, 0, none⟩) (j + 1) cap8) := ⟨_, rfl⟩
          rw [← hwf] at q1 q2 q3 q4 q5 q6 ⊢
          have Q1 := Lib.hid q1
          have Q2 := Lib.hid q2
          have Q3 := Lib.hid q3
          have Q4 := Lib.hid q4
          have Q5 := Lib.hid q5
          clear q1 q2 q3 q4 q5 hwf hcB7 hfB7 hc107 hf107 hc108 hf108 hown8 hgrow hat hlt8 hB7
          go_wp2_with fail
          go_roundw
          case rel => exact ⟨j + 1, _, _, by omega, by go_num, Q1, Q2, Q3, Q4, Lib.hid (fun h => by omega), Q5, q6⟩
          case measure => simp [intOf]; omega
      · obtain rfl : j = ks.length := by omega
        obtain ⟨S, hO, hS⟩ := Hkids.out.node (Nat.le_refl _) Hown.out (fun h => Hz.out (by rw [h]; rfl)) v t0 t1 Hv.out Hvb.out H0.out H1.out
        rw [← HcN.out] at hO
        have hO2 := hO.other (w' := (wr.setRow (W.heap.size + 1) #[.int .i64 v0, .int .i64 v1, .int .i64 v2, .int .i64 v3, .int .i64 v4, .int .i64 v5, .int .i64 v6, .int .i64 v7, .int .i64 t0, .int .i64 t1, sv])) (g := W.heap.size + 1) (fun hk => by have := hS _ hk; omega) (fun k hk => setRow_other _ _ _ _ hk)
        have hfin := HP.out (.returned (.agg #[.int .i64 v0, .int .i64 v1, .int .i64 v2, .int .i64 v3, .int .i64 v4, .int .i64 v5, .int .i64 v6, .int .i64 v7, .int .i64 t0, .int .i64 t1, sv])) _ ⟨⟨_, S, rfl, hO2, fun k hk => by have := hS k hk; omega⟩, Below.putRow Hbe.out (by omega) _⟩
        have Hfin := Lib.hid hfin
        have hone := hO.isN.one
        have hsize := hO.isN.size
        clear hO hS hO2 hfin
        go_wp2_with (first
          | (refine wpList_load_row rfl 26 (.tmp 1) rfl W.heap.size rfl 26 _ _ _ Hg1.out Try.underlying26 rfl size26 ?_)
          | (refine wpList_store_nd rfl (.tmp 2) _ rfl (W.heap.size + 1) _ rfl rfl hsize hone 26 _ Hg2.out rfl ?_))
        exact bodyPost_end (results_cell rfl _ _ (W.heap.size + 1) _ rfl (load26 (setRow_heap _ _ _ _ _ _ Hg2.out) rfl)) rfl Hfin.out
end Go.Proofs.Ytmdmbnpgdkmklaa
