/- Words for the walks over radix nodes: cells of a box, a node's row loaded whole, the plain tests of a leaf. -/
import Derived.Test.YtmdmbnpgdkmklaaRd1
import Derived.Handy
namespace Go.Proofs.Ytmdmbnpgdkmklaa
open Go.RowKit
set_option linter.unusedVariables false
set_option linter.unusedSimpArgs false

/-- Bit i of a mask, as Go's 'mask>>i&1 == 1' has it. -/
def tb (m : Int) (i : Nat) : Bool := bits .and .i64 (m / 2 ^ i) 1 == 1

/-- The eleven cells of a box, one by one. -/
theorem cells11 {w : World} {b : Nat} {c0 c1 c2 c3 c4 c5 c6 c7 c8 c9 c10 : Value} (h : RowAt w b 0 #[c0, c1, c2, c3, c4, c5, c6, c7, c8, c9, c10]) :
    w.cell? ⟨b, 0, none⟩ = some c0 ∧ w.cell? ⟨b, 8, none⟩ = some c8 ∧ w.cell? ⟨b, 9, none⟩ = some c9 ∧ w.cell? ⟨b, 10, none⟩ = some c10 :=
  ⟨h 0 (by simp), h 8 (by simp), h 9 (by simp), h 10 (by simp)⟩

theorem rowAt_new (w : World) (c : Array Value) (t : TypeId) : RowAt (w.alloc (.cells c t)) w.heap.size 0 c := fun i hi => by
  have h := heap_alloc_new w (.cells c t)
  simp only [World.cell?, h, Nat.zero_add]
  simp [hi]

theorem Keeps.alloc (w : World) (o : Obj) : Keeps w (w.alloc o) := Keeps.of_below ((Below.refl _ w).alloc (Nat.le_refl _) o)

theorem index2 (w : World) (x y : Value) : (Instr.index 23 (.agg #[x, y]) (.int .i64 0)).run Try.prog w = .ok x w ∧ (Instr.index 23 (.agg #[x, y]) (.int .i64 1)).run Try.prog w = .ok y w :=
  ⟨by kernel_rfl, by kernel_rfl⟩

/-- One of the first eight cells. -/
theorem cellV {w : World} {b k : Nat} {v0 v1 v2 v3 v4 v5 v6 v7 : Int} {c8 c9 c10 : Value} (h : RowAt w b 0 #[.int .i64 v0, .int .i64 v1, .int .i64 v2, .int .i64 v3, .int .i64 v4, .int .i64 v5, .int .i64 v6, .int .i64 v7, c8, c9, c10]) (hk : k < 8) :
    w.cell? ⟨b, k, none⟩ = some (.int .i64 ([v0, v1, v2, v3, v4, v5, v6, v7].getD k 0)) := by
  have := h k (by simp; omega)
  rw [Nat.zero_add] at this
  rw [this]
  match k, hk with
  | 0, _ | 1, _ | 2, _ | 3, _ | 4, _ | 5, _ | 6, _ | 7, _ => rfl

def leafGood (v : List Int) (t0 t1 : Int) (k : Nat) : Bool := v.getD k 0 != 0 || (!tb t0 k && !tb t1 k)
def tagOk (t : Int) : Bool := decide (0 ≤ t) && decide (t < 256)
def Nd.okLeaf (n : Nd) : Bool := (List.range 8).all (leafGood n.vs n.t0 n.t1) && n.vs.any (· != 0) && tagOk n.t0 && tagOk n.t1 && n.ks.isEmpty

/-- Three groups of numbers: a round's tests, the rest. -/
theorem take_any (v : List Int) (hv : v.length = 8) (k : Nat) (hk : k < 8) : (v.take (k + 1)).any (· != 0) = ((v.take k).any (· != 0) || (v.getD k 0 != 0)) := by
  rw [List.take_succ_eq_append_getElem (by omega), List.any_append]
  simp [List.getD, show k < v.length by omega]

theorem okLeaf_false {V : List Int} {t0 t1 : Int} {ks : List Nd} {k : Nat} (hk : k < 8) (h : leafGood V t0 t1 k = false) : (Nd.mk V t0 t1 ks).okLeaf = false := by
  have : (List.range 8).all (leafGood V t0 t1) = false := by
    rw [List.all_eq_false]; exact ⟨k, by simpa using hk, by simp [h]⟩
  simp [Nd.okLeaf, Nd.vs, Nd.t0, Nd.t1, this]
theorem okLeaf_end {V : List Int} {t0 t1 : Int} {ks : List Nd} (hv : V.length = 8) (h : ∀ j, j < 8 → leafGood V t0 t1 j = true) :
    (Nd.mk V t0 t1 ks).okLeaf = ((V.take 8).any (· != 0) && tagOk t0 && tagOk t1 && ks.isEmpty) := by
  have : (List.range 8).all (leafGood V t0 t1) = true := by
    rw [List.all_eq_true]; intro j hj; exact h j (by simpa using hj)
  rw [List.take_of_length_le (by omega)]
  simp [Nd.okLeaf, Nd.vs, Nd.t0, Nd.t1, Nd.ks, this]


theorem wp_load_nd {o : Oper} {a : Act} {w : World} {K : Act → World → Prop} {Q : Exit → Act → World → Prop} (x : Operand) (ho : o.op = .load 26 x)
    (b off : Nat) (hx : a.eval x = .pointer (some ⟨b, off, none⟩)) (cs : Array Value) (hs : cs.size = 11) (hr : RowAt w b off cs)
    (h : K (a.put o.dst (.agg cs)) w) : o.wp Try.prog a w K Q := by
  have hl : (loadCells ⟨b, off, none⟩ cs.toList.length).run Try.prog w = .ok cs.toList.toArray w :=
    run_loadCells_list (P := Try.prog) w ⟨b, off, none⟩ cs.toList (fun j v hv => by
      have hadd : (⟨b, off, none⟩ : Addr).add j = ⟨b, off + j, none⟩ := by unfold Addr.add; split <;> simp_all
      rw [hadd]
      have hj : j < cs.size := by
        rcases Nat.lt_or_ge j cs.size with q | q
        · exact q
        · simp [Array.getElem?_eq_none q] at hv
      have := hr j hj
      rw [this]; simpa [hj] using hv)
  simp only [Array.length_toList, Array.toArray_toList, hs] at hl
  have hsz : (sizeOf 26).run Try.prog w = .ok 11 w := by kernel_rfl
  have hagg : (isAgg 26).run Try.prog w = .ok true w := by kernel_rfl
  have hv : (loadVar 26 ⟨b, off, none⟩).run Try.prog w = .ok (.agg cs) w := by
    simp [loadVar, Sem.run_bind, hagg, hsz, hl]
  unfold Oper.wp execOp
  simp only [ho, hx, Instr.loadAt, Instr.sureAddr, Sem.run_bind, Sem.run_pure, Result.andThen_ok, hv]
  exact h

/-- A node's row, loaded whole (the operation may bear a guard that says yes). -/
theorem wpList_load_nd {ops : Array Oper} {rest : List Oper} {o : Oper} {a : Act} {w : World} {Q : Exit → Act → World → Prop} (x : Operand) (ho : o.op = .load 26 x)
    (hw : Region.wanted o (yielded ops a.tmps) = true)
    (b off : Nat) (hx : a.eval x = .pointer (some ⟨b, off, none⟩)) (cs : Array Value) (hs : cs.size = 11) (hr : RowAt w b off cs)
    (h : wpList Try.prog ops Q rest (a.put o.dst (.agg cs)) w) : wpList Try.prog ops Q (o :: rest) a w := by
  unfold wpList
  rw [if_pos hw]
  exact .inl (wp_load_nd x ho b off hx cs hs hr h)

theorem IsN.size {w : World} {n : Nd} {c : Array Value} (h : IsN w n c) : c.size = 11 := by
  cases h with
  | mk v t0 t1 ks a b o cap f hv hvb h0 h1 haa hl hcp hf hk => simp [ndCells, hv]

/-- What a call that keeps all that was there leaves: old cells and old marks read as before. -/
theorem bcell {W w1 : World} (hb : Below W.heap.size W w1) : (∀ b o, b < W.heap.size → w1.cell? ⟨b, o, none⟩ = W.cell? ⟨b, o, none⟩) ∧ (∀ b o, b < W.heap.size → w1.frozen? ⟨b, o, none⟩ = W.frozen? ⟨b, o, none⟩) :=
  ⟨fun b o h => hb.cell (p := ⟨b, o, none⟩) h, fun b o h => hb.frozen (p := ⟨b, o, none⟩) h⟩

theorem absent_tags {n : Nd} (h : n.absent = true) : n.t0 = 0 ∧ n.t1 = 0 := by
  unfold Nd.absent at h
  simp only [Bool.and_eq_true, beq_iff_eq] at h
  exact h.1.2

theorem lt_of_cell {w : World} {b o : Nat} {v : Value} (h : w.cell? ⟨b, o, none⟩ = some v) : b < w.heap.size := block_lt_of_cell h

end Go.Proofs.Ytmdmbnpgdkmklaa
