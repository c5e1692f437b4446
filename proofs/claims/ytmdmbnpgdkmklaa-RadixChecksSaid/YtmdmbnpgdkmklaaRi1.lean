/- Entries of a tree in plain data; what a yield function does, entry by entry; worlds that part in one block alone. -/
import Derived.Test.YtmdmbnpgdkmklaaRh1
import Derived.Test.YtmdmbnpgdkmklaaRv
namespace Go.Proofs.Ytmdmbnpgdkmklaa
open Go.RowKit
set_option linter.unusedVariables false
set_option linter.unusedSimpArgs false

/-- What was there stays, but for one block. -/
structure Mod (bv : Nat) (W W' : World) : Prop where
  os : W'.os = W.os
  tape : W'.tape = W.tape
  output : W'.output = W.output
  size : W.heap.size ≤ W'.heap.size
  block : ∀ k, k < W.heap.size → k ≠ bv → W'.heap[k]? = W.heap[k]?

theorem Mod.refl (bv : Nat) (W : World) : Mod bv W W := ⟨rfl, rfl, rfl, Nat.le_refl _, fun _ _ _ => rfl⟩
theorem Mod.trans {bv : Nat} {a b c : World} (h : Mod bv a b) (k : Mod bv b c) : Mod bv a c :=
  ⟨k.os.trans h.os, k.tape.trans h.tape, k.output.trans h.output, Nat.le_trans h.size k.size, fun i hi hn => (k.block i (Nat.lt_of_lt_of_le hi h.size) hn).trans (h.block i hi hn)⟩
theorem Mod.of_below {bv : Nat} {W W' : World} (h : Below W.heap.size W W') : Mod bv W W' := ⟨h.os, h.tape, h.output, h.size, fun k hk _ => h.block k hk⟩
theorem Mod.below {bv B : Nat} {w0 W W' : World} (h : Mod bv W W') (hb : Below B w0 W) (hB : B ≤ bv) (hw : B ≤ W.heap.size) : Below B w0 W' :=
  hb.trans ⟨h.os, h.tape, h.output, h.size, fun k hk => h.block k (by omega) (by omega)⟩
theorem Mod.cell {bv : Nat} {W W' : World} (h : Mod bv W W') {b o : Nat} {v : Value} (hc : W.cell? ⟨b, o, none⟩ = some v) (hn : b ≠ bv) : W'.cell? ⟨b, o, none⟩ = some v := by
  have hb := h.block b (lt_of_cell hc) hn
  rw [← hc]
  simp only [World.cell?, hb]
theorem Mod.row {bv : Nat} {W W' : World} (h : Mod bv W W') {b o : Nat} {cs : Array Value} (hc : RowAt W b o cs) (hn : b ≠ bv) : RowAt W' b o cs := fun i hi => h.cell (hc i hi) hn
theorem Mod.drew {bv : Nat} {W W' : World} (h : Mod bv W W') : Mod bv W W'.drew := ⟨h.os, h.tape, h.output, h.size, h.block⟩
theorem Mod.setCell {bv : Nat} {W W' : World} (h : Mod bv W W') (o : Nat) (v : Value) : Mod bv W (W'.setCell ⟨bv, o, none⟩ v) :=
  h.trans ⟨rfl, rfl, rfl, by simp [World.setCell], fun k hk hn => Below.heap_setCell _ _ _ _ hn⟩

/-- The two tag bits of the entry d of a leaf, as one number. -/
def bit01 (m : Int) (d : Nat) : Int := bits .and .i64 (m / 2 ^ d) 1
def Nd.tagsAt (n : Nd) (d : Nat) : Int := bit01 n.t0 d + bit01 n.t1 d * 2

/-- An entry: index, value, tags. -/
structure En where
  i : Nat
  v : Int
  t : Int

/-- The entries below a node of level l + 1. -/
def Nd.ents : Nat → Nd → Nat → List En
  | 0, n, first => (List.range 8).flatMap fun d => if n.vs.getD d 0 = 0 then [] else [⟨first + d, n.vs.getD d 0, n.tagsAt d⟩]
  | l + 1, n, first => (List.range 8).flatMap fun d => if (n.kid d).absent = true then [] else (n.kid d).ents l (first + d * 8 ^ (l + 1))

/-- Entries handed to a yield function that answers with a bool and a new state. -/
def feed {σ : Type} (step : σ → Nat → Int → Bool × σ) : σ → List En → Bool × σ
  | s, [] => (true, s)
  | s, e :: l => if (step s e.i e.t).1 = true then feed step (step s e.i e.t).2 l else (false, (step s e.i e.t).2)

theorem feed_append {σ : Type} (step : σ → Nat → Int → Bool × σ) (l m : List En) : ∀ s, feed step s (l ++ m) = if (feed step s l).1 = true then feed step (feed step s l).2 m else feed step s l := by
  induction l with
  | nil => intro s; simp [feed]
  | cons e l ih =>
    intro s
    simp only [List.cons_append, feed]
    split
    · exact ih _
    · simp

theorem and1 (n : Int) : bits .and .i64 n 1 = n % 2 := by
  have h1 : (BitVec.ofInt 64 1).toNat = 2 ^ 1 - 1 := by decide
  have key : (BitVec.ofInt 64 n &&& BitVec.ofInt 64 1).toNat = (n % ((2 ^ 64 : Nat) : Int)).toNat % 2 ^ 1 := by
    rw [BitVec.toNat_and, BitVec.toNat_ofInt, h1, Nat.and_two_pow_sub_one_eq_mod]
  show IntKind.i64.wrap ((BitVec.ofInt 64 n &&& BitVec.ofInt 64 1).toNat : Nat) = n % 2
  rw [key, IntKind.wrap_i64]
  omega

theorem bit01_bd (m : Int) (d : Nat) : 0 ≤ bit01 m d ∧ bit01 m d ≤ 1 := by
  unfold bit01
  have h : bits .and .i64 (m / 2 ^ d) 1 = (m / 2 ^ d) % 2 := by
    exact and1 _
  rw [h]; omega

theorem range_split {k : Nat} (hk : k ≤ 8) : List.range 8 = List.range k ++ List.range' k (8 - k) := by
  have h := List.range'_append_1 (s := 0) (m := k) (n := 8 - k)
  rw [Nat.zero_add, show k + (8 - k) = 8 by omega] at h
  rw [List.range_eq_range', List.range_eq_range', h]
end Go.Proofs.Ytmdmbnpgdkmklaa
