/- A node stored whole into a place of the call's own; a row of eight new children. -/
import Derived.Test.YtmdmbnpgdkmklaaRk6
import Derived.Deep.MidRow
namespace Go.Proofs.Ytmdmbnpgdkmklaa
open Go.RowKit
set_option linter.unusedVariables false
set_option linter.unusedSimpArgs false

theorem setCells_block {b : Nat} {ty : TypeId} (vs : List Value) : ∀ (o : Nat) (w : World) (cur : Array Value), w.heap[b]? = some (.cells cur ty (0, 0)) →
    ∃ cur', (w.setCells b o vs).heap[b]? = some (.cells cur' ty (0, 0)) ∧ cur'.size = cur.size ∧ ∀ q, (q < o ∨ o + vs.length ≤ q) → cur'[q]? = cur[q]? := by
  induction vs with
  | nil => intro o w cur h; exact ⟨cur, h, rfl, fun _ _ => rfl⟩
  | cons v r ih =>
    intro o w cur h
    obtain ⟨c1, h1, s1, e1⟩ := ih (o + 1) (w.setCell ⟨b, o, none⟩ v) _ (heap_setCell_same w b o cur ty v h)
    refine ⟨c1, h1, by rw [s1]; simp, fun q hq => ?_⟩
    rw [e1 q (by simp at hq; omega), Array.getElem?_setIfInBounds, if_neg (by simp at hq; omega)]

theorem setCells_other {b : Nat} (vs : List Value) : ∀ (o : Nat) (w : World) (k : Nat), k ≠ b → (w.setCells b o vs).heap[k]? = w.heap[k]? := by
  induction vs with
  | nil => intro o w k h; rfl
  | cons v r ih =>
    intro o w k h
    rw [World.setCells, ih (o + 1) _ k h]
    exact Below.heap_setCell _ _ _ _ h

theorem setCells_rest {b : Nat} (vs : List Value) : ∀ (o : Nat) (w : World), (w.setCells b o vs).os = w.os ∧ (w.setCells b o vs).tape = w.tape ∧ (w.setCells b o vs).output = w.output ∧ (w.setCells b o vs).heap.size = w.heap.size := by
  induction vs with
  | nil => intro o w; exact ⟨rfl, rfl, rfl, rfl⟩
  | cons v r ih =>
    intro o w
    obtain ⟨a, b', c, d⟩ := ih (o + 1) (w.setCell ⟨b, o, none⟩ v)
    exact ⟨a, b', c, by rw [World.setCells, d]; simp [World.setCell]⟩

theorem NodeAt.there {w : World} {b o : Nat} {ty : TypeId} {n : Nd} {S : Nat → Prop} (h : NodeAt w b o ty n S) : w.there b o 11 := by
  intro j hj
  obtain ⟨cur, c, hg, hr, ho, hn⟩ := h
  have := hr j (by rw [ho.size]; exact hj)
  exact ⟨by rw [this]; rfl, frozen_of_row w b (o + j) _ _ hg⟩

/-- A node whose tree is elsewhere (or nowhere) is stored over the node at a place. -/
theorem NodeAt.over {w : World} {b o : Nat} {ty : TypeId} {n n' : Nd} {S S' T : Nat → Prop} {c' : Array Value} (h : NodeAt w b o ty n S) (ho' : Owns w n' c' S') (hS : ¬ S' b) :
    NodeAt (w.setCells b o c'.toList) b o ty n' S' ∧ Turned b o T w (w.setCells b o c'.toList) := by
  obtain ⟨cur, c, hg, hr, ho, hn⟩ := h
  have hsz := ho.size
  have hsz' := ho'.size
  obtain ⟨cur', hg', hs', he'⟩ := setCells_block c'.toList o w cur hg
  obtain ⟨r1, r2, r3, r4⟩ := setCells_rest (b := b) c'.toList o w
  have hl : c'.toList.length = 11 := by simpa using hsz'
  refine ⟨⟨cur', c', hg', ?_, ho'.frame (fun k hk => setCells_other _ _ _ _ (fun e => hS (e ▸ hk))), hS⟩, ⟨r1, r2, r3, by omega, fun k _ hk _ => setCells_other _ _ _ _ hk, fun cur2 ty2 h2 => ?_⟩⟩
  · intro i hi
    have := World.cell?_setCells_in b c'.toList o w (fun j hj => by
      have := hr j (by omega)
      rw [this]; rfl) i (by omega)
    rw [this]
    simp
  · rw [hg] at h2
    injection h2 with h2; injection h2 with h3 h4
    subst h3; subst h4
    exact ⟨cur', hg', hs', fun q hq => he' q (by omega)⟩

/-- The cells of the zero node. -/
def zeroNd : Array Value := #[.int .i64 0, .int .i64 0, .int .i64 0, .int .i64 0, .int .i64 0, .int .i64 0, .int .i64 0, .int .i64 0, .int .i64 0, .int .i64 0, .slice none 0 0]

theorem owns_zero (w : World) : Owns w Nd.zero zeroNd (fun _ => False) := by
  have := Owns.leaf (w := w) [0, 0, 0, 0, 0, 0, 0, 0] 0 0 rfl (by intro x hx; simp at hx; subst hx; exact ⟨by decide, by decide⟩) ⟨by decide, by decide⟩ ⟨by decide, by decide⟩
  exact this

/-- Eight zero nodes. -/
def zeros8 : Array Value := ((List.replicate 8 zeroNd.toList).flatten).toArray

theorem make8 (W : World) : (Instr.makeSlice 24 (.int .i64 8) (.int .i64 8)).run Try.prog W = .ok (.slice (some ⟨W.heap.size, 0, none⟩) 8 8) (W.alloc (.cells zeros8 26)) := by kernel_rfl

theorem row_zeros8 {w : World} {b : Nat} (h : w.heap[b]? = some (.cells zeros8 26 (0, 0))) (i : Nat) (hi : i < 8) : RowAt w b (i * 11) zeroNd := by
  intro q hq
  have hq11 : q < 11 := hq
  rw [cell_of_row w b _ zeros8 26 (0, 0) h]
  have : ∀ i, i < 8 → ∀ q, q < 11 → zeros8[i * 11 + q]? = zeroNd[q]? := by
    intro i hi q hq
    have hi' : i = 0 ∨ i = 1 ∨ i = 2 ∨ i = 3 ∨ i = 4 ∨ i = 5 ∨ i = 6 ∨ i = 7 := by omega
    have hq' : q = 0 ∨ q = 1 ∨ q = 2 ∨ q = 3 ∨ q = 4 ∨ q = 5 ∨ q = 6 ∨ q = 7 ∨ q = 8 ∨ q = 9 ∨ q = 10 := by omega
    rcases hi' with rfl | rfl | rfl | rfl | rfl | rfl | rfl | rfl <;> rcases hq' with rfl | rfl | rfl | rfl | rfl | rfl | rfl | rfl | rfl | rfl | rfl <;> rfl
  rw [this i hi q hq11, Array.getElem?_eq_getElem hq]

/-- A node without children is given eight zero children in a new block. -/
theorem NodeAt.grow {w : World} {b o : Nat} {ty : TypeId} {v : List Int} {t0 t1 : Int} {S : Nat → Prop} (h : NodeAt w b o ty (.mk v t0 t1 []) S) :
    (∃ S', NodeAt ((w.alloc (.cells zeros8 26)).setCell ⟨b, o + 10, none⟩ (.slice (some ⟨w.heap.size, 0, none⟩) 8 8)) b o ty (.mk v t0 t1 (List.replicate 8 Nd.zero)) S' ∧ ∀ k, S' k → w.heap.size ≤ k) ∧
    Turned b o S w ((w.alloc (.cells zeros8 26)).setCell ⟨b, o + 10, none⟩ (.slice (some ⟨w.heap.size, 0, none⟩) 8 8)) := by
  have hblt := h.lt
  obtain ⟨cur, c, hg, hr, ho, hn⟩ := h
  have hB : Below w.heap.size w (w.alloc (.cells zeros8 26)) := (Below.refl _ _).alloc (Nat.le_refl _) _
  have hT : Turned b o S w (w.alloc (.cells zeros8 26)) := Turned.below hB hblt
  have hga : (w.alloc (.cells zeros8 26)).heap[b]? = some (.cells cur ty (0, 0)) := (hB.block b hblt).trans hg
  have hra : RowAt (w.alloc (.cells zeros8 26)) b o c := row_of_block hr (hB.block b hblt)
  refine ⟨?_, hT.setCell (by omega) _⟩
  have hsz := ho.size
  cases ho with
  | leaf v t0 t1 hv8 hvb8 h08 h18 =>
    have hr2 := RowAt.set hga hra (.slice (some ⟨w.heap.size, 0, none⟩) 8 8) (q := 10) (by omega)
    have hgz : ((w.alloc (.cells zeros8 26)).setCell ⟨b, o + 10, none⟩ (.slice (some ⟨w.heap.size, 0, none⟩) 8 8)).heap[w.heap.size]? = some (.cells zeros8 26 (0, 0)) :=
      (Below.heap_setCell _ _ _ _ (by show w.heap.size ≠ b; omega)).trans (heap_alloc_new w _)
    have hown := Owns.node (w := (w.alloc (.cells zeros8 26)).setCell ⟨b, o + 10, none⟩ (.slice (some ⟨w.heap.size, 0, none⟩) 8 8)) v t0 t1 (List.replicate 8 Nd.zero) w.heap.size 8 zeros8 (fun _ => zeroNd) (fun _ _ => False) hv8 hvb8 h08 h18 (by simp) (by simp) hgz (by decide)
      (fun i hi => row_zeros8 hgz i (by simpa using hi)) (fun i hi => by simp only [List.getElem_replicate]; exact owns_zero _) (fun i hi h => h) (fun i j k hi hj hne h => h.elim)
    refine ⟨fun k => k = w.heap.size, ⟨_, _, heap_setCell_same _ b (o + 10) cur ty _ hga, hr2, ?_, ?_⟩, ?_⟩
    · obtain ⟨v0, v1, v2, v3, v4, v5, v6, v7, rfl⟩ := list8 hv8
      have he : (fun k => k = w.heap.size ∨ ∃ i, i < (List.replicate 8 Nd.zero).length ∧ False) = fun k => k = w.heap.size := by funext k; simp
      rw [he] at hown
      exact hown
    · intro e; omega
    · intro k hk; exact Nat.le_of_eq hk.symm
  | node _ _ _ _ _ _ _ _ _ _ _ _ _ hne => exact absurd rfl hne
end Go.Proofs.Ytmdmbnpgdkmklaa
