/- A box that holds a tree of the call's own; a slice of numbers that came in. -/
import Derived.Test.YtmdmbnpgdkmklaaRm4
import Derived.Test.YtmdmbnpgdkmklaaSg
import Derived.Deep.RegionLaw
namespace Go.Proofs.Ytmdmbnpgdkmklaa
open Go.RowKit
set_option linter.unusedVariables false
set_option linter.unusedSimpArgs false

/-- The value v is a slice of the numbers zs. -/
def U16s (w : World) (v : Value) (zs : List Nat) : Prop :=
  ∃ p cap, v = .slice p zs.length cap ∧ (zs ≠ [] → ∃ b o, p = some ⟨b, o, none⟩ ∧ ∀ i (h : i < zs.length), w.cell? ⟨b, o + i, none⟩ = some (.int .u16 (zs[i] : Int))) ∧ (∀ z ∈ zs, z < 65536) ∧ zs.length ≤ cap ∧ cap ≤ maxLen

/-- The box B, made behind w0, holds a tree of the call's own, whose blocks lie behind M. -/
def TreeBox (w0 : World) (M B : Nat) (r : Rx) (w : World) : Prop :=
  w0.heap.size ≤ B ∧ B < M ∧ M ≤ w.heap.size ∧ ∃ c, w.heap[B]? = some (.cells c 28 (0, 0)) ∧ OwnR w M r c ∧ Below w0.heap.size w0 w

theorem OwnR.kept {w w' : World} {B : Nat} {r : Rx} {c : Array Value} (h : OwnR w B r c) (hb : Below w.heap.size w w') : OwnR w' B r c := by
  obtain ⟨hh, nc, S, rfl, ho, hS⟩ := h
  exact ⟨hh, nc, S, rfl, ho.kept hb, hS⟩

theorem OwnR.lit {w : World} {B : Nat} {r : Rx} {c : Array Value} (h : OwnR w B r c) : ∃ (y0 y1 y2 y3 y4 y5 y6 y7 : Int) (yp : Option Addr) (yl yc : Nat), c = #[.int .i64 r.h, .int .i64 y0, .int .i64 y1, .int .i64 y2, .int .i64 y3, .int .i64 y4, .int .i64 y5, .int .i64 y6, .int .i64 y7, .int .i64 r.root.t0, .int .i64 r.root.t1, .slice yp yl yc] := by
  obtain ⟨_, nc, S, rfl, ho, _⟩ := h
  obtain ⟨y0, y1, y2, y3, y4, y5, y6, y7, yp, yl, yc, rfl⟩ := ho.isN.lit
  exact ⟨y0, y1, y2, y3, y4, y5, y6, y7, yp, yl, yc, rfl⟩

theorem TreeBox.kept {w0 w w' : World} {M B : Nat} {r : Rx} (h : TreeBox w0 M B r w) (hb : Below w.heap.size w w') : TreeBox w0 M B r w' := by
  obtain ⟨h0, h1, h2, c, hg, ho, hB⟩ := h
  exact ⟨h0, h1, Nat.le_trans h2 hb.size, c, (hb.block _ (Array.getElem?_eq_some_iff.1 hg).1).trans hg, ho.kept hb, hB.trans (hb.mono hB.size)⟩

theorem TreeBox.put {w0 w w5 : World} {M B : Nat} {r r' : Rx} {c' : Array Value} (h : TreeBox w0 M B r w) (hb : Below w.drew.heap.size w.drew w5) (ho : OwnR w5 w.drew.heap.size r' c') : TreeBox w0 M B r' (w5.setRow B c') := by
  obtain ⟨h0, h1, h2, c, hg, _, hB⟩ := h
  have hlt : B < w.heap.size := (Array.getElem?_eq_some_iff.1 hg).1
  have hb' : Below w.heap.size w w5 := (Below.refl _ _).drew.trans hb
  refine ⟨h0, h1, by rw [size_setRow]; exact Nat.le_trans h2 hb'.size, c', setRow_heap _ _ _ _ _ _ ((hb'.block _ hlt).trans hg), (ho.put (b := B) hlt c').mono h2, ?_⟩
  exact Below.putRow (hB.trans (hb'.mono hB.size)) h0 _

/-- Another box is written: this one stays. -/
theorem TreeBox.other {w0 w w5 : World} {M B b : Nat} {r : Rx} {c' : Array Value} (h : TreeBox w0 M B r w) (hb : Below w.drew.heap.size w.drew w5) (hb0 : w0.heap.size ≤ b) (hbM : b < M) (hne : b ≠ B) : TreeBox w0 M B r (w5.setRow b c') := by
  have h5 : TreeBox w0 M B r w5 := h.kept ((Below.refl _ _).drew.trans hb)
  obtain ⟨h0, h1, h2, c, hg, ho, hB⟩ := h5
  exact ⟨h0, h1, by rw [size_setRow]; exact h2, c, (setRow_other _ _ _ _ (fun e => hne e.symm)).trans hg, ho.put hbM c', Below.putRow hB hb0 _⟩

theorem TreeBox.putL {w0 w w5 : World} {M B : Nat} {r r' : Rx} {o0 o1 o2 o3 o4 o5 o6 o7 o8 o9 o10 o11 a0 a1 a2 a3 a4 a5 a6 a7 a8 a9 a10 a11 : Value} (h : TreeBox w0 M B r w) (hb : Below w.drew.heap.size w.drew w5)
    (hg : w5.heap[B]? = some (.cells #[o0, o1, o2, o3, o4, o5, o6, o7, o8, o9, o10, o11] 28 (0, 0))) (ho : OwnR w5 w.drew.heap.size r' #[a0, a1, a2, a3, a4, a5, a6, a7, a8, a9, a10, a11]) :
    TreeBox w0 M B r' ((((((((((((w5.setCell ⟨B, 0, none⟩ a0).setCell ⟨B, 1, none⟩ a1).setCell ⟨B, 2, none⟩ a2).setCell ⟨B, 3, none⟩ a3).setCell ⟨B, 4, none⟩ a4).setCell ⟨B, 5, none⟩ a5).setCell ⟨B, 6, none⟩ a6).setCell ⟨B, 7, none⟩ a7).setCell ⟨B, 8, none⟩ a8).setCell ⟨B, 9, none⟩ a9).setCell ⟨B, 10, none⟩ a10).setCell ⟨B, 11, none⟩ a11) := by
  rw [setCells12 hg]
  exact h.put hb ho

theorem TreeBox.otherL {w0 w w5 : World} {M B b : Nat} {r : Rx} {o0 o1 o2 o3 o4 o5 o6 o7 o8 o9 o10 o11 a0 a1 a2 a3 a4 a5 a6 a7 a8 a9 a10 a11 : Value} (h : TreeBox w0 M b r w) (hb : Below w.drew.heap.size w.drew w5)
    (hg : w5.heap[B]? = some (.cells #[o0, o1, o2, o3, o4, o5, o6, o7, o8, o9, o10, o11] 28 (0, 0))) (hb0 : w0.heap.size ≤ B) (hbM : B < M) (hne : B ≠ b) {X : Nat} {r' : Rx} (ho : OwnR w5 X r' #[a0, a1, a2, a3, a4, a5, a6, a7, a8, a9, a10, a11]) :
    TreeBox w0 M b r ((((((((((((w5.setCell ⟨B, 0, none⟩ a0).setCell ⟨B, 1, none⟩ a1).setCell ⟨B, 2, none⟩ a2).setCell ⟨B, 3, none⟩ a3).setCell ⟨B, 4, none⟩ a4).setCell ⟨B, 5, none⟩ a5).setCell ⟨B, 6, none⟩ a6).setCell ⟨B, 7, none⟩ a7).setCell ⟨B, 8, none⟩ a8).setCell ⟨B, 9, none⟩ a9).setCell ⟨B, 10, none⟩ a10).setCell ⟨B, 11, none⟩ a11) := by
  rw [setCells12 hg]
  exact h.other hb hb0 hbM hne

theorem TreeBox.lit {w0 w : World} {M B : Nat} {r : Rx} (h : TreeBox w0 M B r w) : ∃ (x0 x1 x2 x3 x4 x5 x6 x7 : Int) (xp : Option Addr) (xl xc : Nat), w.heap[B]? = some (.cells #[.int .i64 r.h, .int .i64 x0, .int .i64 x1, .int .i64 x2, .int .i64 x3, .int .i64 x4, .int .i64 x5, .int .i64 x6, .int .i64 x7, .int .i64 r.root.t0, .int .i64 r.root.t1, .slice xp xl xc] 28 (0, 0)) ∧ IsR w r #[.int .i64 r.h, .int .i64 x0, .int .i64 x1, .int .i64 x2, .int .i64 x3, .int .i64 x4, .int .i64 x5, .int .i64 x6, .int .i64 x7, .int .i64 r.root.t0, .int .i64 r.root.t1, .slice xp xl xc] ∧ B < w.heap.size ∧ Below w0.heap.size w0 w := by
  obtain ⟨_, _, _, c, hg, ho, hB⟩ := h
  have hR := ho.isR
  obtain ⟨x0, x1, x2, x3, x4, x5, x6, x7, xp, xl, xc, rfl⟩ := ho.lit
  exact ⟨x0, x1, x2, x3, x4, x5, x6, x7, xp, xl, xc, hg, hR, (Array.getElem?_eq_some_iff.1 hg).1, hB⟩

theorem putAll_take (f : Nat → Nat) (g : Nat → Int) (r : Rx) (l : List Nat) (k : Nat) (h : k < l.length) : putAll f g r (l.take (k + 1)) = ((putAll f g r (l.take k)).set (f l[k]) (g l[k])).1 := by
  unfold putAll
  rw [List.take_succ_eq_append_getElem h, List.foldl_append]
  rfl

theorem wrap_mul (z : Int) (h0 : 0 ≤ z) (h1 : z ≤ 65535) : IntKind.i64.wrap (IntKind.i64.wrap z * 16384) = z * 16384 := by
  rw [IntKind.wrap_i64, IntKind.wrap_i64]; omega
theorem wrap_inc (z : Int) (h0 : 0 ≤ z) (h1 : z ≤ 65535) : IntKind.i64.wrap z = z ∧ IntKind.i64.wrap (1 + z) = 1 + z := by
  rw [IntKind.wrap_i64, IntKind.wrap_i64]; omega

theorem treeBox_two (w0 : World) : TreeBox w0 (w0.heap.size + 2) w0.heap.size Rx.empty ((w0.alloc (.cells #[.int .i64 0, .int .i64 0, .int .i64 0, .int .i64 0, .int .i64 0, .int .i64 0, .int .i64 0, .int .i64 0, .int .i64 0, .int .i64 0, .int .i64 0, .slice none 0 0] 28)).alloc (.cells #[.int .i64 0, .int .i64 0, .int .i64 0, .int .i64 0, .int .i64 0, .int .i64 0, .int .i64 0, .int .i64 0, .int .i64 0, .int .i64 0, .int .i64 0, .slice none 0 0] 28)) ∧ TreeBox w0 (w0.heap.size + 2) (w0.heap.size + 1) Rx.empty ((w0.alloc (.cells #[.int .i64 0, .int .i64 0, .int .i64 0, .int .i64 0, .int .i64 0, .int .i64 0, .int .i64 0, .int .i64 0, .int .i64 0, .int .i64 0, .int .i64 0, .slice none 0 0] 28)).alloc (.cells #[.int .i64 0, .int .i64 0, .int .i64 0, .int .i64 0, .int .i64 0, .int .i64 0, .int .i64 0, .int .i64 0, .int .i64 0, .int .i64 0, .int .i64 0, .slice none 0 0] 28)) := by
  have h1 := heap_alloc2_old w0 (.cells #[.int .i64 0, .int .i64 0, .int .i64 0, .int .i64 0, .int .i64 0, .int .i64 0, .int .i64 0, .int .i64 0, .int .i64 0, .int .i64 0, .int .i64 0, .slice none 0 0] 28) (.cells #[.int .i64 0, .int .i64 0, .int .i64 0, .int .i64 0, .int .i64 0, .int .i64 0, .int .i64 0, .int .i64 0, .int .i64 0, .int .i64 0, .int .i64 0, .slice none 0 0] 28)
  have h2 := heap_alloc2_new w0 (.cells #[.int .i64 0, .int .i64 0, .int .i64 0, .int .i64 0, .int .i64 0, .int .i64 0, .int .i64 0, .int .i64 0, .int .i64 0, .int .i64 0, .int .i64 0, .slice none 0 0] 28) (.cells #[.int .i64 0, .int .i64 0, .int .i64 0, .int .i64 0, .int .i64 0, .int .i64 0, .int .i64 0, .int .i64 0, .int .i64 0, .int .i64 0, .int .i64 0, .slice none 0 0] 28)
  have hB : Below w0.heap.size w0 ((w0.alloc (.cells #[.int .i64 0, .int .i64 0, .int .i64 0, .int .i64 0, .int .i64 0, .int .i64 0, .int .i64 0, .int .i64 0, .int .i64 0, .int .i64 0, .int .i64 0, .slice none 0 0] 28)).alloc (.cells #[.int .i64 0, .int .i64 0, .int .i64 0, .int .i64 0, .int .i64 0, .int .i64 0, .int .i64 0, .int .i64 0, .int .i64 0, .int .i64 0, .int .i64 0, .slice none 0 0] 28)) := ((Below.refl _ _).alloc (Nat.le_refl _) _).alloc (by simp) _
  exact ⟨⟨Nat.le_refl _, by omega, by simp, emptyCells, h1, ownR_empty _ _, hB⟩, ⟨by omega, by omega, by simp, emptyCells, h2, ownR_empty _ _, hB⟩⟩

theorem treeBox_new (w0 : World) : TreeBox w0 (w0.heap.size + 1) w0.heap.size Rx.empty (w0.alloc (.cells #[.int .i64 0, .int .i64 0, .int .i64 0, .int .i64 0, .int .i64 0, .int .i64 0, .int .i64 0, .int .i64 0, .int .i64 0, .int .i64 0, .int .i64 0, .slice none 0 0] 28)) := ⟨Nat.le_refl _, by omega, by simp, emptyCells, heap_alloc_new _ _, ownR_empty _ _, (Below.refl _ _).alloc (Nat.le_refl _) _⟩
end Go.Proofs.Ytmdmbnpgdkmklaa
