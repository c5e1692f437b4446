/- A node of the call's own at a place in memory, and what a store into it leaves. -/
import Derived.Test.YtmdmbnpgdkmklaaRj3
namespace Go.Proofs.Ytmdmbnpgdkmklaa
open Go.RowKit
set_option linter.unusedVariables false
set_option linter.unusedSimpArgs false

/-- At offset o of the block b lies a node of the call's own, with its tree in the blocks S. -/
def NodeAt (w : World) (b o : Nat) (ty : TypeId) (n : Nd) (S : Nat → Prop) : Prop :=
  ∃ cur c, w.heap[b]? = some (.cells cur ty (0, 0)) ∧ RowAt w b o c ∧ Owns w n c S ∧ ¬ S b

/-- Only the eleven cells at (b, o) and the blocks S have turned. -/
structure Turned (b o : Nat) (S : Nat → Prop) (w w' : World) : Prop where
  os : w'.os = w.os
  tape : w'.tape = w.tape
  output : w'.output = w.output
  size : w.heap.size ≤ w'.heap.size
  block : ∀ k, k < w.heap.size → k ≠ b → ¬ S k → w'.heap[k]? = w.heap[k]?
  cells : ∀ cur ty, w.heap[b]? = some (.cells cur ty (0, 0)) → ∃ cur', w'.heap[b]? = some (.cells cur' ty (0, 0)) ∧ cur'.size = cur.size ∧ ∀ q, (q < o ∨ o + 11 ≤ q) → cur'[q]? = cur[q]?

theorem Turned.refl (b o : Nat) (S : Nat → Prop) (w : World) : Turned b o S w w := ⟨rfl, rfl, rfl, Nat.le_refl _, fun _ _ _ _ => rfl, fun cur ty h => ⟨cur, h, rfl, fun _ _ => rfl⟩⟩

theorem Turned.trans {b o : Nat} {S T : Nat → Prop} {w w' w'' : World} (h : Turned b o S w w') (k : Turned b o T w' w'') (hT : ∀ i, T i → S i ∨ w.heap.size ≤ i) : Turned b o S w w'' := by
  refine ⟨k.os.trans h.os, k.tape.trans h.tape, k.output.trans h.output, Nat.le_trans h.size k.size, fun i hi hb hS => ?_, fun cur ty hc => ?_⟩
  · refine (k.block i (Nat.lt_of_lt_of_le hi h.size) hb (fun hTi => ?_)).trans (h.block i hi hb hS)
    rcases hT i hTi with q | q
    · exact hS q
    · omega
  · obtain ⟨c1, h1, s1, e1⟩ := h.cells cur ty hc
    obtain ⟨c2, h2, s2, e2⟩ := k.cells c1 ty h1
    exact ⟨c2, h2, s2.trans s1, fun q hq => (e2 q hq).trans (e1 q hq)⟩

theorem Turned.mono {b o : Nat} {S T : Nat → Prop} {w w' : World} (h : Turned b o S w w') (hS : ∀ i, S i → T i) : Turned b o T w w' :=
  ⟨h.os, h.tape, h.output, h.size, fun k hk hb hT => h.block k hk hb (fun q => hT (hS k q)), h.cells⟩

theorem Turned.drew {b o : Nat} {S : Nat → Prop} {w w' : World} (h : Turned b o S w w') : Turned b o S w w'.drew := ⟨h.os, h.tape, h.output, h.size, h.block, h.cells⟩

theorem Turned.setCell {b o q : Nat} {S : Nat → Prop} {w w' : World} (h : Turned b o S w w') (hq : q < 11) (u : Value) : Turned b o S w (w'.setCell ⟨b, o + q, none⟩ u) := by
  refine ⟨h.os, h.tape, h.output, by simpa [World.setCell] using h.size, fun k hk hb hS => ?_, fun cur ty hc => ?_⟩
  · exact (Below.heap_setCell _ _ _ _ hb).trans (h.block k hk hb hS)
  · obtain ⟨c1, h1, s1, e1⟩ := h.cells cur ty hc
    refine ⟨_, heap_setCell_same w' b (o + q) c1 ty u h1, by simpa using s1, fun k hk => ?_⟩
    rw [← e1 k hk, Array.getElem?_setIfInBounds, if_neg (by omega)]

theorem Turned.below {b o : Nat} {S : Nat → Prop} {w w' : World} (h : Below w.heap.size w w') (hb : b < w.heap.size) : Turned b o S w w' :=
  ⟨h.os, h.tape, h.output, h.size, fun k hk _ _ => h.block k hk, fun cur ty hc => ⟨cur, (h.block b hb).trans hc, rfl, fun _ _ => rfl⟩⟩

theorem NodeAt.lt {w : World} {b o : Nat} {ty : TypeId} {n : Nd} {S : Nat → Prop} (h : NodeAt w b o ty n S) : b < w.heap.size := by
  obtain ⟨cur, c, hg, _⟩ := h
  exact (Array.getElem?_eq_some_iff.1 hg).1

theorem NodeAt.kept {w w' : World} {b o : Nat} {ty : TypeId} {n : Nd} {S : Nat → Prop} (h : NodeAt w b o ty n S) (hb : w'.heap[b]? = w.heap[b]?) (hS : ∀ k, S k → w'.heap[k]? = w.heap[k]?) : NodeAt w' b o ty n S := by
  obtain ⟨cur, c, hg, hr, ho, hn⟩ := h
  exact ⟨cur, c, hb.trans hg, row_of_block hr hb, ho.frame hS, hn⟩

theorem NodeAt.drew {w : World} {b o : Nat} {ty : TypeId} {n : Nd} {S : Nat → Prop} (h : NodeAt w b o ty n S) : NodeAt w.drew b o ty n S := h.kept rfl (fun _ _ => rfl)

theorem NodeAt.frozen {w : World} {b o : Nat} {ty : TypeId} {n : Nd} {S : Nat → Prop} (h : NodeAt w b o ty n S) (j : Nat) : w.frozen? ⟨b, j, none⟩ = false := by
  obtain ⟨cur, c, hg, _⟩ := h
  exact frozen_of_row w b j _ _ hg

/-- A store of one of the eleven cells. -/
theorem RowAt.set {w : World} {b o q : Nat} {ty : TypeId} {cur c : Array Value} (hg : w.heap[b]? = some (.cells cur ty (0, 0))) (h : RowAt w b o c) (u : Value) (hq : q < c.size) :
    RowAt (w.setCell ⟨b, o + q, none⟩ u) b o (c.setIfInBounds q u) := by
  intro i hi
  have hi' : i < c.size := by simpa using hi
  have hg' := heap_setCell_same w b (o + q) cur ty u hg
  have := h i hi'
  rw [cell_of_row w b (o + i) cur ty (0, 0) hg] at this
  rw [cell_of_row _ b (o + i) _ ty (0, 0) hg', Array.getElem?_setIfInBounds]
  have hlt : o + i < cur.size := by
    rcases Nat.lt_or_ge (o + i) cur.size with h | h
    · exact h
    · rw [Array.getElem?_eq_none h] at this; cases this
  by_cases e : q = i
  · subst e
    rw [if_pos rfl, if_pos hlt]
    simp [hi']
  · rw [if_neg (by omega), this]
    rw [Array.getElem_setIfInBounds, if_neg e]

theorem getD_set8 (v : List Int) (d : Nat) (x : Int) : (v.set d x).length = v.length := by simp

/-- A store into a value, a tag of a node, where the tree's blocks stay. -/
theorem NodeAt.put {w : World} {b o q : Nat} {ty : TypeId} {v v' : List Int} {t0 t1 t0' t1' : Int} {ks : List Nd} {S : Nat → Prop} (h : NodeAt w b o ty (.mk v t0 t1 ks) S) (x : Int) (hq : q < 11)
    (hv : v.length = 8 → v'.length = 8) (hvb : (∀ x ∈ v, inI64 x) → ∀ x ∈ v', inI64 x) (h0 : inI64 t0 → inI64 t0') (h1 : inI64 t1 → inI64 t1')
    (hc : ∀ s, v.length = 8 → (ndCells v t0 t1 s).setIfInBounds q (.int .i64 x) = ndCells v' t0' t1' s) :
    NodeAt (w.setCell ⟨b, o + q, none⟩ (.int .i64 x)) b o ty (.mk v' t0' t1' ks) S := by
  obtain ⟨cur, c, hg, hr, ho, hn⟩ := h
  have hsz := ho.size
  have hr2 := RowAt.set hg hr (.int .i64 x) (q := q) (by omega)
  refine ⟨_, c.setIfInBounds q (.int .i64 x), heap_setCell_same w b (o + q) cur ty _ hg, hr2, ?_, hn⟩
  have hoth : ∀ k, S k → (w.setCell ⟨b, o + q, none⟩ (.int .i64 x)).heap[k]? = w.heap[k]? := fun k hk => Below.heap_setCell _ _ _ _ (fun e => hn (by rw [show k = b from e] at hk; exact hk))
  have ho2 := ho.frame hoth
  cases ho2 with
  | leaf _ _ _ hv8 hvb8 h08 h18 =>
    rw [hc _ hv8]
    exact .leaf v' t0' t1' (hv hv8) (hvb hvb8) (h0 h08) (h1 h18)
  | node _ _ _ _ bk cap curk f F hv8 hvb8 h08 h18 hne hcp hgk hcur hf hk hb hd =>
    rw [hc _ hv8]
    exact .node v' t0' t1' ks bk cap curk f F (hv hv8) (hvb hvb8) (h0 h08) (h1 h18) hne hcp hgk hcur hf hk hb hd

theorem NodeAt.putT0 {w : World} {b o : Nat} {ty : TypeId} {v : List Int} {t0 t1 : Int} {ks : List Nd} {S : Nat → Prop} (h : NodeAt w b o ty (.mk v t0 t1 ks) S) (x : Int) (hx : inI64 x) :
    NodeAt (w.setCell ⟨b, o + 8, none⟩ (.int .i64 x)) b o ty (.mk v x t1 ks) S :=
  h.put x (by omega) id id (fun _ => hx) id (fun s hv => by
    obtain ⟨v0, v1, v2, v3, v4, v5, v6, v7, rfl⟩ := list8 hv
    rfl)
theorem NodeAt.putT1 {w : World} {b o : Nat} {ty : TypeId} {v : List Int} {t0 t1 : Int} {ks : List Nd} {S : Nat → Prop} (h : NodeAt w b o ty (.mk v t0 t1 ks) S) (x : Int) (hx : inI64 x) :
    NodeAt (w.setCell ⟨b, o + 9, none⟩ (.int .i64 x)) b o ty (.mk v t0 x ks) S :=
  h.put x (by omega) id id id (fun _ => hx) (fun s hv => by
    obtain ⟨v0, v1, v2, v3, v4, v5, v6, v7, rfl⟩ := list8 hv
    rfl)
theorem NodeAt.putV {w : World} {b o d : Nat} {ty : TypeId} {v : List Int} {t0 t1 : Int} {ks : List Nd} {S : Nat → Prop} (h : NodeAt w b o ty (.mk v t0 t1 ks) S) (x : Int) (hx : inI64 x) (hd : d < 8) :
    NodeAt (w.setCell ⟨b, o + d, none⟩ (.int .i64 x)) b o ty (.mk (v.set d x) t0 t1 ks) S :=
  h.put x (by omega) (fun h => by simpa using h) (fun h y hy => by
    rcases List.mem_or_eq_of_mem_set hy with q | q
    · exact h y q
    · exact q ▸ hx) id id (fun s hv => by
    obtain ⟨v0, v1, v2, v3, v4, v5, v6, v7, rfl⟩ := list8 hv
    match d, hd with
    | 0, _ | 1, _ | 2, _ | 3, _ | 4, _ | 5, _ | 6, _ | 7, _ => rfl)

/-- The cells of a node, where it lies. -/
theorem NodeAt.cells {w : World} {b o : Nat} {ty : TypeId} {n : Nd} {S : Nat → Prop} (h : NodeAt w b o ty n S) :
    w.cell? ⟨b, o + 8, none⟩ = some (.int .i64 n.t0) ∧ w.cell? ⟨b, o + 9, none⟩ = some (.int .i64 n.t1) ∧ (∀ d, d < 8 → w.cell? ⟨b, o + d, none⟩ = some (.int .i64 (n.vs.getD d 0))) := by
  obtain ⟨cur, c, hg, hr, ho, hn⟩ := h
  cases ho with
  | leaf v t0 t1 hv8 hvb8 h08 h18 =>
    obtain ⟨v0, v1, v2, v3, v4, v5, v6, v7, rfl⟩ := list8 hv8
    refine ⟨hr 8 (by simp [ndCells]), hr 9 (by simp [ndCells]), fun d hd => ?_⟩
    have := hr d (by simp [ndCells]; omega)
    rw [this]
    match d, hd with
    | 0, _ | 1, _ | 2, _ | 3, _ | 4, _ | 5, _ | 6, _ | 7, _ => rfl
  | node v t0 t1 ks bk cap curk f F hv8 hvb8 h08 h18 hne hcp hgk hcur hf hk hb hd =>
    obtain ⟨v0, v1, v2, v3, v4, v5, v6, v7, rfl⟩ := list8 hv8
    refine ⟨hr 8 (by simp [ndCells]), hr 9 (by simp [ndCells]), fun d hd => ?_⟩
    have := hr d (by simp [ndCells]; omega)
    rw [this]
    match d, hd with
    | 0, _ | 1, _ | 2, _ | 3, _ | 4, _ | 5, _ | 6, _ | 7, _ => rfl

theorem inI64_bits (op : BinOp) (x y : Int) : inI64 (bits op .i64 x y) := by
  unfold bits inI64
  simp only [IntKind.wrap_i64]
  omega
end Go.Proofs.Ytmdmbnpgdkmklaa
