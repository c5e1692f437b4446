/- radix.Set's growth of a tree by one level: the node above the root. -/
import Derived.Test.YtmdmbnpgdkmklaaRl3
namespace Go.Proofs.Ytmdmbnpgdkmklaa
open Go.RowKit
set_option linter.unusedVariables false
set_option linter.unusedSimpArgs false

/-- The node above the root, with the tags of its first child still to be computed. -/
def upNd0 (n : Nd) : Nd := .mk [0, 0, 0, 0, 0, 0, 0, 0] 0 0 (n :: List.replicate 7 Nd.zero)
def upNd (n : Nd) : Nd := .mk [0, 0, 0, 0, 0, 0, 0, 0] (tset 0 0 (n.t0 != 0)) (tset 0 0 (n.t1 != 0)) (n :: List.replicate 7 Nd.zero)

/-- The cells of a node whose children lie in block A. -/
def upCells (A : Nat) : Array Value := #[.int .i64 0, .int .i64 0, .int .i64 0, .int .i64 0, .int .i64 0, .int .i64 0, .int .i64 0, .int .i64 0, .int .i64 0, .int .i64 0, .slice (some ⟨A, 0, none⟩) 8 8]
/-- The world in which that node has been made. -/
def upW (w : World) : World := (w.alloc (.cells zeros8 26)).alloc (.cells (upCells w.heap.size) 26)

theorem upW_old (w : World) : Below w.heap.size w (upW w) := ((Below.refl _ _).alloc (Nat.le_refl _) _).alloc (by simp) _
theorem upW_size (w : World) : (upW w).heap.size = w.heap.size + 2 := by simp [upW]
theorem upW_zero (w : World) : (upW w).heap[w.heap.size]? = some (.cells zeros8 26 (0, 0)) := by
  unfold upW
  rw [World.alloc, Array.getElem?_push]
  simp only [World.alloc, Array.size_push]
  rw [if_neg (by omega), Array.getElem?_push, if_pos rfl]
theorem sizeA' (w : World) (o : Obj) : (w.alloc o).heap.size = w.heap.size + 1 := by simp
theorem upW_new (w : World) : (upW w).heap[w.heap.size + 1]? = some (.cells (upCells w.heap.size) 26 (0, 0)) := by
  have h := heap_alloc_new (w.alloc (.cells zeros8 26)) (.cells (upCells w.heap.size) 26)
  rw [sizeA'] at h
  exact h

theorem inI64_zero : inI64 0 := ⟨by decide, by decide⟩

theorem up_make {w : World} {n : Nd} {c : Array Value} {S : Nat → Prop} (ho : Owns w n c S) :
    (upW w).there w.heap.size 0 c.size ∧
    NodeAt ((upW w).setCells w.heap.size 0 c.toList) (w.heap.size + 1) 0 26 (upNd0 n) (fun k => k = w.heap.size ∨ S k) ∧
    Below w.heap.size w ((upW w).setCells w.heap.size 0 c.toList) := by
  have hsz := ho.size
  have hlt := ho.lt
  have hrest := setCells_rest (b := w.heap.size) c.toList 0 (upW w)
  have hB : Below w.heap.size w ((upW w).setCells w.heap.size 0 c.toList) := by
    have := upW_old w
    exact ⟨hrest.1.trans this.os, hrest.2.1.trans this.tape, hrest.2.2.1.trans this.output, by rw [hrest.2.2.2]; exact this.size, fun k hk => (setCells_other _ _ _ _ (by omega)).trans (this.block k hk)⟩
  refine ⟨?_, ?_, hB⟩
  · intro j hj
    refine ⟨?_, ?_⟩
    · rw [cell_of_row _ _ _ zeros8 26 (0, 0) (upW_zero w)]
      have : zeros8.size = 88 := by decide
      rw [Array.getElem?_eq_getElem (by omega)]; rfl
    · simp [World.frozen?, upW_zero w]
  · obtain ⟨cur', hg', hs', he'⟩ := setCells_block c.toList 0 (upW w) zeros8 (upW_zero w)
    have hl : c.toList.length = 11 := by simpa using hsz
    have h88 : zeros8.size = 88 := by decide
    have hown := Owns.node (w := (upW w).setCells w.heap.size 0 c.toList) [0, 0, 0, 0, 0, 0, 0, 0] 0 0 (n :: List.replicate 7 Nd.zero) w.heap.size 8 cur'
      (fun i => if i = 0 then c else zeroNd) (fun i => if i = 0 then S else fun _ => False) rfl (by intro x hx; simp at hx; subst hx; exact inI64_zero) inI64_zero inI64_zero (by simp) (by simp) hg' (by rw [hs', h88])
      (fun i hi => by
        simp only [List.length_cons, List.length_replicate] at hi
        by_cases e : i = 0
        · subst e
          simp only [if_true]
          intro q hq
          have := World.cell?_setCells_in w.heap.size c.toList 0 (upW w) (fun j hj => by
            rw [cell_of_row _ _ _ zeros8 26 (0, 0) (upW_zero w), Array.getElem?_eq_getElem (by omega)]; rfl) q (by omega)
          simp only [Nat.zero_mul]
          rw [this]; simp
        · simp only [if_neg e]
          intro q hq
          have hq11 : q < 11 := hq
          have := row_zeros8 (upW_zero w) i (by omega) q hq
          rw [cell_of_row _ _ _ zeros8 26 (0, 0) (upW_zero w)] at this
          rw [cell_of_row _ _ _ cur' 26 (0, 0) hg', he' _ (by omega)]
          exact this)
      (fun i hi => by
        simp only [List.length_cons, List.length_replicate] at hi
        by_cases e : i = 0
        · subst e
          simp only [if_true, List.getElem_cons_zero]
          exact ho.kept hB
        · obtain ⟨j, rfl⟩ := Nat.exists_eq_succ_of_ne_zero e
          simp only [if_neg e, List.getElem_cons_succ, List.getElem_replicate]
          exact owns_zero _)
      (fun i hi => by
        by_cases e : i = 0
        · simp only [if_pos e]; intro h; have := hlt _ h; omega
        · simp only [if_neg e]; exact fun h => h)
      (fun i j k hi hj hne => by
        by_cases e : i = 0
        · have : ¬ j = 0 := by omega
          simp only [if_pos e, if_neg this]; exact fun _ h => h
        · simp only [if_neg e]; exact fun h => h.elim)
    refine ⟨_, upCells w.heap.size, (setCells_other _ _ _ _ (by omega)).trans (upW_new w), ?_, ?_, ?_⟩
    · intro q hq
      rw [cell_of_row _ _ _ _ 26 (0, 0) ((setCells_other _ _ _ _ (by omega)).trans (upW_new w)), Nat.zero_add, Array.getElem?_eq_getElem hq]
    · have hS : (fun k => k = w.heap.size ∨ ∃ i, i < (n :: List.replicate 7 Nd.zero).length ∧ (if i = 0 then S else fun _ => False) k) = fun k => k = w.heap.size ∨ S k := by
        funext k
        apply propext
        constructor
        · rintro (h | ⟨i, hi, h⟩)
          · exact .inl h
          · by_cases e : i = 0
            · rw [if_pos e] at h; exact .inr h
            · rw [if_neg e] at h; exact h.elim
        · rintro (h | h)
          · exact .inl h
          · exact .inr ⟨0, by simp, by simpa using h⟩
      rw [hS] at hown
      exact hown
    · rintro (h | h)
      · omega
      · have := hlt _ h; omega

/-- The root is replaced by a node that was made behind it. -/
theorem grow_end {w w3 : World} {g a : Nat} {h : Int} {n n' : Nd} {S S' : Nat → Prop} (t : TreeAt w g h n S) (hB : Below w.heap.size w w3) (hN : NodeAt w3 a 0 26 n' S') (hS : ∀ k, S' k → S k ∨ w.heap.size ≤ k) :
    ∃ c, c.size = 11 ∧ RowAt w3 a 0 c ∧ c.all (·.oneCell') = true ∧ w3.there g 1 c.size ∧ TreeAt (w3.setCells g 1 c.toList) g h n' S' ∧ Mod g w (w3.setCells g 1 c.toList) := by
  obtain ⟨cur, c, hg, hr, ho, hn⟩ := hN
  have hsz := ho.size
  have t3 := t.kept hB
  have hSg : ¬ S g := by obtain ⟨_, _, _, h⟩ := t; exact h
  have hglt := t.node.lt
  have hS'g : ¬ S' g := fun h => by
    rcases hS g h with q | q
    · exact hSg q
    · omega
  obtain ⟨hN2, hT2⟩ := t3.node.over (T := S') ho hS'g
  have hrest := setCells_rest (b := g) c.toList 1 w3
  refine ⟨c, hsz, hr, ho.isN.one, by rw [hsz]; exact t3.node.there, t3.turned hT2 hN2, ?_⟩
  exact ⟨hrest.1.trans hB.os, hrest.2.1.trans hB.tape, hrest.2.2.1.trans hB.output, by rw [hrest.2.2.2]; exact hB.size, fun k hk hkg => (setCells_other _ _ _ _ hkg).trans (hB.block k hk)⟩
end Go.Proofs.Ytmdmbnpgdkmklaa
