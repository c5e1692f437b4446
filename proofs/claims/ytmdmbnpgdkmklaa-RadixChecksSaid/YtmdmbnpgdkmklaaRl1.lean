/- A whole tree in a box of the call's own: its height and its root. -/
import Derived.Test.YtmdmbnpgdkmklaaRk9
import Derived.Test.YtmdmbnpgdkmklaaRg1
namespace Go.Proofs.Ytmdmbnpgdkmklaa
open Go.RowKit
set_option linter.unusedVariables false
set_option linter.unusedSimpArgs false

theorem cons0 (x : Value) (c : Array Value) : (#[x] ++ c)[0]? = some x := by
  rw [Array.getElem?_append_left (by simp)]; rfl

/-- The box g holds a tree of height h with the root n, whose nodes lie in the blocks S. -/
def TreeAt (w : World) (g : Nat) (h : Int) (n : Nd) (S : Nat → Prop) : Prop :=
  ∃ c, w.heap[g]? = some (.cells (#[.int .i64 h] ++ c) 28 (0, 0)) ∧ Owns w n c S ∧ ¬ S g

theorem TreeAt.node {w : World} {g : Nat} {h : Int} {n : Nd} {S : Nat → Prop} (t : TreeAt w g h n S) : NodeAt w g 1 28 n S := by
  obtain ⟨c, hg, ho, hn⟩ := t
  refine ⟨_, c, hg, fun i hi => ?_, ho, hn⟩
  rw [cell_of_row w g _ _ 28 (0, 0) hg, Array.getElem?_append_right (by simp)]
  simp [Nat.add_comm 1 i, hi]

theorem TreeAt.cell0 {w : World} {g : Nat} {h : Int} {n : Nd} {S : Nat → Prop} (t : TreeAt w g h n S) : w.cell? ⟨g, 0, none⟩ = some (.int .i64 h) := by
  obtain ⟨c, hg, ho, hn⟩ := t
  rw [cell_of_row w g _ _ 28 (0, 0) hg, cons0]

theorem TreeAt.turned {w w' : World} {g : Nat} {h : Int} {n n' : Nd} {S S' T : Nat → Prop} (t : TreeAt w g h n S) (hT : Turned g 1 T w w') (hN : NodeAt w' g 1 28 n' S') : TreeAt w' g h n' S' := by
  obtain ⟨c, hg, ho, hn⟩ := t
  obtain ⟨cur', hg', hs', he'⟩ := hT.cells _ _ hg
  obtain ⟨cur2, c2, hg2, hr2, ho2, hn2⟩ := hN
  have : cur2 = cur' := by
    rw [hg'] at hg2; injection hg2 with q; injection q with q; exact q.symm
  subst this
  refine ⟨c2, ?_, ho2, hn2⟩
  rw [hg']
  congr 2
  have h1 := ho.size
  have h2 := ho2.size
  apply Array.ext_getElem?
  intro i
  rcases Nat.lt_trichotomy i 0 with q | q | q
  · omega
  · subst q
    rw [he' 0 (by omega), cons0, cons0]
  · by_cases hi : i < 12
    · have := hr2 (i - 1) (by omega)
      rw [show 1 + (i - 1) = i by omega, cell_of_row w' g _ _ 28 (0, 0) hg'] at this
      rw [this, Array.getElem?_append_right (by simp; omega)]
      simp only [List.size_toArray, List.length_cons, List.length_nil, Nat.zero_add]
      rw [Array.getElem?_eq_getElem (by omega)]
    · rw [Array.getElem?_eq_none (by rw [hs']; simp; omega), Array.getElem?_eq_none (by simp; omega)]

theorem TreeAt.kept {w w' : World} {g : Nat} {h : Int} {n : Nd} {S : Nat → Prop} (t : TreeAt w g h n S) (hb : Below w.heap.size w w') : TreeAt w' g h n S := by
  obtain ⟨c, hg, ho, hn⟩ := t
  exact ⟨c, (hb.block g (Array.getElem?_eq_some_iff.1 hg).1).trans hg, ho.kept hb, hn⟩

theorem TreeAt.setH {w : World} {g : Nat} {h : Int} {n : Nd} {S : Nat → Prop} (t : TreeAt w g h n S) (h' : Int) : TreeAt (w.setCell ⟨g, 0, none⟩ (.int .i64 h')) g h' n S := by
  obtain ⟨c, hg, ho, hn⟩ := t
  refine ⟨c, ?_, ho.other hn (fun k hk => Below.heap_setCell _ _ _ _ hk), hn⟩
  rw [heap_setCell_same w g 0 _ 28 _ hg]
  congr 2
  apply Array.ext_getElem?
  intro i
  rw [Array.getElem?_setIfInBounds]
  by_cases e : 0 = i
  · subst e; rw [cons0, if_pos rfl, if_pos (by simp; omega), cons0]
  · rw [if_neg e, Array.getElem?_append_right (by simp; omega), Array.getElem?_append_right (by simp; omega)]
    simp
end Go.Proofs.Ytmdmbnpgdkmklaa
