/- Digits, entries, own blocks, a node of the call's own at a place. -/
import Derived.Test.YtmdmbnpgdkmklaaRg3
import Derived.StillTailTactics
import Derived.Test.YtmdmbnpgdkmklaaSa
import Derived.Deep.AppendLies
namespace Go.Proofs.Ytmdmbnpgdkmklaa
open Go.RowKit
set_option linter.unusedVariables false
set_option linter.unusedSimpArgs false

/-- The digit of an index for level l + 1. -/
def dig (i l : Nat) : Nat := i / 8 ^ l % 8

theorem dig_lt (i l : Nat) : dig i l < 8 := Nat.mod_lt _ (by omega)

theorem dig_int (i l : Nat) : ((i : Int) / 2 ^ (3 * l)).tmod 8 = (dig i l : Int) := by
  have e : ((2 : Int) ^ (3 * l)) = ((8 ^ l : Nat) : Int) := by
    rw [show (8 : Nat) = 2 ^ 3 by rfl, ← Nat.pow_mul]
    simp
  have h0 : (0 : Int) ≤ (i : Int) / ((8 ^ l : Nat) : Int) := Int.ediv_nonneg (Int.natCast_nonneg _) (Int.natCast_nonneg _)
  rw [e, Int.tmod_eq_emod_of_nonneg h0, ← Int.natCast_ediv]
  unfold dig
  rw [Int.natCast_emod]; rfl

set_option maxHeartbeats 1000000 in
theorem digit_spec (i l : Nat) (hi : i ≤ 1073741824) (hl : l ≤ 9) (w : World) :
    Calls Try.prog 82 #[.int .i64 i, .int .i64 ((l : Int) + 1)] w fun e w' => e = .returned (.int .i64 (dig i l)) ∧ w = w' := by
  have Hd := Lib.hid (dig_int i l)
  go_enter Try.func82, Try.ntmps82
  go_wp2_with fail
  go_ret
  exact ⟨ret_int Hd.out, rfl⟩

/-- The leaf that contains an index, below a node of level l + 1. -/
def Nd.leafAt : Nat → Nd → Nat → Option Nd
  | 0, n, _ => some n
  | l + 1, n, i => if (n.kid (dig i (l + 1))).absent = true then none else (n.kid (dig i (l + 1))).leafAt l i

/-- The leaf that contains an index, where the tree is valid, high enough and has it. -/
def Rx.leafOf (r : Rx) (i : Int) : Option Nd :=
  if r.check ≠ 0 ∨ i < 0 ∨ 1073741824 ≤ i ∨ 0 < i / 2 ^ (3 * r.h.toNat) ∨ r.h = 0 then none else r.root.leafAt (r.h.toNat - 1) i.toNat

def LeafPost (w : World) (r : Rx) (i : Int) (e : Ending) : Prop := ∃ nd cn, e = .returned (.tuple #[.agg cn, .bool (r.leafOf i).isSome]) ∧ IsN w nd cn ∧ (∀ m, r.leafOf i = some m → m = nd)

theorem ok_kid {l : Nat} {n : Nd} (h : n.ok (l + 2) = true) {k : Nat} (hk : k < 8) : (n.kid k).absent = true ∨ (n.kid k).ok (l + 1) = true := by
  simp only [Nd.ok, Bool.and_eq_true, List.all_eq_true] at h
  have := h.1.1.1.2 k (by simpa using hk)
  simp only [kidGood, Bool.and_eq_true, Bool.or_eq_true] at this
  exact this.1.1.2
theorem ok_len {l : Nat} {n : Nd} (h : n.ok (l + 2) = true) : n.ks.length = 8 := by
  simp only [Nd.ok, Bool.and_eq_true, beq_iff_eq] at h
  exact h.1.1.1.1.2

theorem check_zero {r : Rx} (h : r.check = 0) : 0 ≤ r.h ∧ r.h ≤ 10 ∧ (r.h = 0 → r.root.absent = true) ∧ (1 ≤ r.h → r.root.ok r.h.toNat = true) := by
  unfold Rx.check at h
  split at h
  · simp at h
  · rename_i h1
    have h1' : 0 ≤ r.h ∧ r.h ≤ 10 := by omega
    refine ⟨h1'.1, h1'.2, ?_⟩
    split at h
    · rename_i h2
      refine ⟨fun _ => ?_, fun h3 => by omega⟩
      by_cases ha : r.root.absent = true
      · exact ha
      · rw [if_neg ha] at h; simp at h
    · rename_i h2
      refine ⟨fun h3 => absurd h3 h2, fun _ => ?_⟩
      split at h
      · simp at h
      · rename_i h3; simpa using h3

theorem set_opt_leaf_none {w : World} {r : Rx} {i : Int} (h : r.check ≠ 0 ∨ i < 0 ∨ 1073741824 ≤ i ∨ 0 < i / 2 ^ (3 * r.h.toNat) ∨ r.h = 0) : r.leafOf i = none := by
  unfold Rx.leafOf; rw [if_pos h]
end Go.Proofs.Ytmdmbnpgdkmklaa
namespace Go.Proofs.Ytmdmbnpgdkmklaa
open Go.RowKit
set_option linter.unusedVariables false
set_option linter.unusedSimpArgs false

/-- What was there stays, but for one block. -/
structure Mod (bv : Nat) (W W' : World) : Prop where
  os : W'.os = W.os
  tape : W'.tape = W.tape
  output : W'.output = W.output
  size : W.heap.size ≤ W'.heap.size
  block : ∀ k, k < W.heap.size → k ≠ bv → W'.heap[k]? = W.heap[k]?

theorem Mod.refl (bv : Nat) (W : World) : Mod bv W W := ⟨rfl, rfl, rfl, Nat.le_refl _, fun _ _ _ => rfl⟩
theorem Mod.trans {bv : Nat} {a b c : World} (h : Mod bv a b) (k : Mod bv b c) : Mod bv a c :=
  ⟨k.os.trans h.os, k.tape.trans h.tape, k.output.trans h.output, Nat.le_trans h.size k.size, fun i hi hn => (k.block i (Nat.lt_of_lt_of_le hi h.size) hn).trans (h.block i hi hn)⟩
theorem Mod.of_below {bv : Nat} {W W' : World} (h : Below W.heap.size W W') : Mod bv W W' := ⟨h.os, h.tape, h.output, h.size, fun k hk _ => h.block k hk⟩
theorem Mod.below {bv B : Nat} {w0 W W' : World} (h : Mod bv W W') (hb : Below B w0 W) (hB : B ≤ bv) (hw : B ≤ W.heap.size) : Below B w0 W' :=
  hb.trans ⟨h.os, h.tape, h.output, h.size, fun k hk => h.block k (by omega) (by omega)⟩
theorem Mod.cell {bv : Nat} {W W' : World} (h : Mod bv W W') {b o : Nat} {v : Value} (hc : W.cell? ⟨b, o, none⟩ = some v) (hn : b ≠ bv) : W'.cell? ⟨b, o, none⟩ = some v := by
  have hb := h.block b (lt_of_cell hc) hn
  rw [← hc]
  simp only [World.cell?, hb]
theorem Mod.row {bv : Nat} {W W' : World} (h : Mod bv W W') {b o : Nat} {cs : Array Value} (hc : RowAt W b o cs) (hn : b ≠ bv) : RowAt W' b o cs := fun i hi => h.cell (hc i hi) hn
theorem Mod.drew {bv : Nat} {W W' : World} (h : Mod bv W W') : Mod bv W W'.drew := ⟨h.os, h.tape, h.output, h.size, h.block⟩
theorem Mod.setCell {bv : Nat} {W W' : World} (h : Mod bv W W') (o : Nat) (v : Value) : Mod bv W (W'.setCell ⟨bv, o, none⟩ v) :=
  h.trans ⟨rfl, rfl, rfl, by simp [World.setCell], fun k hk hn => Below.heap_setCell _ _ _ _ hn⟩

/-- The two tag bits of the entry d of a leaf, as one number. -/
def bit01 (m : Int) (d : Nat) : Int := bits .and .i64 (m / 2 ^ d) 1
def Nd.tagsAt (n : Nd) (d : Nat) : Int := bit01 n.t0 d + bit01 n.t1 d * 2

/-- An entry: index, value, tags. -/
structure En where
  i : Nat
  v : Int
  t : Int

/-- The entries below a node of level l + 1. -/
def Nd.ents : Nat → Nd → Nat → List En
  | 0, n, first => (List.range 8).flatMap fun d => if n.vs.getD d 0 = 0 then [] else [⟨first + d, n.vs.getD d 0, n.tagsAt d⟩]
  | l + 1, n, first => (List.range 8).flatMap fun d => if (n.kid d).absent = true then [] else (n.kid d).ents l (first + d * 8 ^ (l + 1))

/-- Entries handed to a yield function that answers with a bool and a new state. -/
def feed {σ : Type} (step : σ → Nat → Int → Bool × σ) : σ → List En → Bool × σ
  | s, [] => (true, s)
  | s, e :: l => if (step s e.i e.t).1 = true then feed step (step s e.i e.t).2 l else (false, (step s e.i e.t).2)

theorem feed_append {σ : Type} (step : σ → Nat → Int → Bool × σ) (l m : List En) : ∀ s, feed step s (l ++ m) = if (feed step s l).1 = true then feed step (feed step s l).2 m else feed step s l := by
  induction l with
  | nil => intro s; simp [feed]
  | cons e l ih =>
    intro s
    simp only [List.cons_append, feed]
    split
    · exact ih _
    · simp

theorem and1 (n : Int) : bits .and .i64 n 1 = n % 2 := by
  have h1 : (BitVec.ofInt 64 1).toNat = 2 ^ 1 - 1 := by decide
  have key : (BitVec.ofInt 64 n &&& BitVec.ofInt 64 1).toNat = (n % ((2 ^ 64 : Nat) : Int)).toNat % 2 ^ 1 := by
    rw [BitVec.toNat_and, BitVec.toNat_ofInt, h1, Nat.and_two_pow_sub_one_eq_mod]
  show IntKind.i64.wrap ((BitVec.ofInt 64 n &&& BitVec.ofInt 64 1).toNat : Nat) = n % 2
  rw [key, IntKind.wrap_i64]
  omega

theorem bit01_bd (m : Int) (d : Nat) : 0 ≤ bit01 m d ∧ bit01 m d ≤ 1 := by
  unfold bit01
  have h : bits .and .i64 (m / 2 ^ d) 1 = (m / 2 ^ d) % 2 := by
    exact and1 _
  rw [h]; omega

theorem range_split {k : Nat} (hk : k ≤ 8) : List.range 8 = List.range k ++ List.range' k (8 - k) := by
  have h := List.range'_append_1 (s := 0) (m := k) (n := 8 - k)
  rw [Nat.zero_add, show k + (8 - k) = 8 by omega] at h
  rw [List.range_eq_range', List.range_eq_range', h]
end Go.Proofs.Ytmdmbnpgdkmklaa
namespace Go.Proofs.Ytmdmbnpgdkmklaa
open Go.RowKit
set_option linter.unusedVariables false
set_option linter.unusedSimpArgs false

/-- The cells c are a node whose tree lies in the blocks S, each of them whole, unfrozen, and reached once. -/
inductive Owns (w : World) : Nd → Array Value → (Nat → Prop) → Prop where
  | leaf (v : List Int) (t0 t1 : Int) (hv : v.length = 8) (hvb : ∀ x ∈ v, inI64 x) (h0 : inI64 t0) (h1 : inI64 t1) :
      Owns w (.mk v t0 t1 []) (ndCells v t0 t1 (.slice none 0 0)) (fun _ => False)
  | node (v : List Int) (t0 t1 : Int) (ks : List Nd) (b cap : Nat) (cur : Array Value) (f : Nat → Array Value) (F : Nat → Nat → Prop)
      (hv : v.length = 8) (hvb : ∀ x ∈ v, inI64 x) (h0 : inI64 t0) (h1 : inI64 t1) (hne : ks ≠ []) (hcp : ks.length ≤ cap ∧ cap ≤ 9223372036854775807)
      (hg : w.heap[b]? = some (.cells cur 26 (0, 0))) (hcur : cur.size = cap * 11)
      (hf : ∀ i, i < ks.length → RowAt w b (i * 11) (f i))
      (hk : ∀ i (h : i < ks.length), Owns w ks[i] (f i) (F i))
      (hb : ∀ i, i < ks.length → ¬ F i b) (hd : ∀ i j k, i < ks.length → j < ks.length → i ≠ j → F i k → ¬ F j k) :
      Owns w (.mk v t0 t1 ks) (ndCells v t0 t1 (.slice (some ⟨b, 0, none⟩) ks.length cap)) (fun k => k = b ∨ ∃ i, i < ks.length ∧ F i k)

theorem Owns.isN {w : World} {n : Nd} {c : Array Value} {S : Nat → Prop} (h : Owns w n c S) : IsN w n c := by
  induction h with
  | leaf v t0 t1 hv hvb h0 h1 =>
    exact IsN.mk v t0 t1 [] none 0 0 0 (fun _ => #[]) hv hvb h0 h1 (fun h => absurd rfl h) (by simp) (by simp) (fun i hi => by simp at hi) (fun i hi => by simp at hi)
  | node v t0 t1 ks b cap cur f F hv hvb h0 h1 hne hcp hg hcur hf hk hb hd ih =>
    exact IsN.mk v t0 t1 ks _ b 0 cap f hv hvb h0 h1 (fun _ => rfl) (by omega) hcp (fun i hi => by rw [Nat.zero_add]; exact hf i hi) ih

/-- Blocks of a tree are there. -/
theorem Owns.lt {w : World} {n : Nd} {c : Array Value} {S : Nat → Prop} (h : Owns w n c S) : ∀ k, S k → k < w.heap.size := by
  induction h with
  | leaf => intro k hk; exact hk.elim
  | node v t0 t1 ks b cap cur f F hv hvb h0 h1 hne hcp hg hcur hf hk hb hd ih =>
    intro k hk
    rcases hk with rfl | ⟨i, hi, hk⟩
    · exact (Array.getElem?_eq_some_iff.1 hg).1
    · exact ih i hi k hk

theorem row_of_block {w w' : World} {b o : Nat} {cs : Array Value} (h : RowAt w b o cs) (hb : w'.heap[b]? = w.heap[b]?) : RowAt w' b o cs := fun i hi => by
  have := h i hi
  rw [World.cell?] at this ⊢
  rw [hb]; exact this

/-- A tree stays while its blocks stay. -/
theorem Owns.frame {w w' : World} {n : Nd} {c : Array Value} {S : Nat → Prop} (h : Owns w n c S) : (∀ k, S k → w'.heap[k]? = w.heap[k]?) → Owns w' n c S := by
  induction h with
  | leaf v t0 t1 hv hvb h0 h1 => intro _; exact .leaf v t0 t1 hv hvb h0 h1
  | node v t0 t1 ks b cap cur f F hv hvb h0 h1 hne hcp hg hcur hf hk hb hd ih =>
    intro hS
    have hbb := hS b (.inl rfl)
    exact .node v t0 t1 ks b cap cur f F hv hvb h0 h1 hne hcp (hbb.trans hg) hcur (fun i hi => row_of_block (hf i hi) hbb) (fun i hi => ih i hi (fun k hk => hS k (.inr ⟨i, hi, hk⟩))) hb hd

theorem Owns.kept {w w' : World} {n : Nd} {c : Array Value} {S : Nat → Prop} (h : Owns w n c S) (hb : Below w.heap.size w w') : Owns w' n c S :=
  h.frame (fun k hk => hb.block k (h.lt k hk))

theorem Owns.drew {w : World} {n : Nd} {c : Array Value} {S : Nat → Prop} (h : Owns w n c S) : Owns w.drew n c S := h.frame (fun _ _ => rfl)

theorem Owns.size {w : World} {n : Nd} {c : Array Value} {S : Nat → Prop} (h : Owns w n c S) : c.size = 11 := h.isN.size

/-- Trees with at most eight children a node. -/
inductive Slim : Nd → Prop where
  | mk (v : List Int) (t0 t1 : Int) (ks : List Nd) (h8 : ks.length ≤ 8) (hk : ∀ i (h : i < ks.length), Slim ks[i]) : Slim (.mk v t0 t1 ks)

theorem slim_absent {n : Nd} (h : n.absent = true) : Slim n := by
  cases n with
  | mk v t0 t1 ks =>
    have : ks = [] := by
      simp only [Nd.absent, Nd.ks, Bool.and_eq_true, List.isEmpty_iff] at h
      exact h.1.1
    subst this
    exact .mk _ _ _ _ (by simp) (fun i hi => by simp at hi)

theorem slim_ok (l : Nat) : ∀ n : Nd, n.ok (l + 1) = true → Slim n := by
  induction l with
  | zero =>
    intro n h
    cases n with
    | mk v t0 t1 ks =>
      have : ks = [] := by
        simp only [Nd.ok, Nd.okLeaf, Nd.ks, Bool.and_eq_true, List.isEmpty_iff] at h
        exact h.2.2
      subst this
      exact .mk _ _ _ _ (by simp) (fun i hi => by simp at hi)
  | succ l ih =>
    intro n h
    cases n with
    | mk v t0 t1 ks =>
      have h8 : ks.length = 8 := by
        have := h
        simp only [Nd.ok, Nd.ks, Bool.and_eq_true, beq_iff_eq] at this
        exact this.1.1.1.1.2
      have hall := h
      simp only [Nd.ok, Bool.and_eq_true, List.all_eq_true] at hall
      refine .mk _ _ _ _ (by omega) (fun i hi => ?_)
      have hg := hall.1.1.1.2 i (by simp; omega)
      simp only [kidGood, Bool.and_eq_true, Bool.or_eq_true] at hg
      have hk : (Nd.mk v t0 t1 ks).kid i = ks[i] := by simp [Nd.kid, Nd.ks, hi]
      rw [hk] at hg
      rcases hg.1.1.2 with hg | hg
      · exact slim_absent hg
      · exact ih _ hg
end Go.Proofs.Ytmdmbnpgdkmklaa
namespace Go.Proofs.Ytmdmbnpgdkmklaa
open Go.RowKit
set_option linter.unusedVariables false
set_option linter.unusedSimpArgs false

/-- The first j children lie in the row 'xs' of the slice 'sv', each with a tree of its own, from block B on, none of them in sv's own block. -/
def KidsAt (B : Nat) (w : World) (ks : List Nd) (j : Nat) (sv : Value) (xs : List Value) : Prop :=
  ∃ (g : Nat → Array Value) (F : Nat → Nat → Prop), (∀ i, i < j → (g i).size = 11 ∧ ∀ q, q < 11 → xs[i * 11 + q]? = (g i)[q]?) ∧
    (∀ i (h : i < ks.length), i < j → Owns w ks[i] (g i) (F i)) ∧ (∀ i k, i < j → F i k → B ≤ k ∧ k < w.heap.size ∧ sv.ownBlock ≠ some k) ∧
    (∀ i i' k, i < j → i' < j → i ≠ i' → F i k → ¬ F i' k)

theorem KidsAt.zero (B : Nat) (w : World) (ks : List Nd) (sv : Value) : KidsAt B w ks 0 sv [] :=
  ⟨fun _ => #[], fun _ _ => False, fun i hi => by omega, fun i h hi => by omega, fun i k hi => by omega, fun i i' k hi => by omega⟩

theorem KidsAt.kept {B : Nat} {w w' : World} {ks : List Nd} {j : Nat} {sv : Value} {xs : List Value} (h : KidsAt B w ks j sv xs) (hb : Below w.heap.size w w') : KidsAt B w' ks j sv xs := by
  obtain ⟨g, F, h1, h2, h3, h4⟩ := h
  exact ⟨g, F, h1, fun i hl hi => (h2 i hl hi).kept hb, fun i k hi hk => ⟨(h3 i k hi hk).1, Nat.lt_of_lt_of_le (h3 i k hi hk).2.1 hb.size, (h3 i k hi hk).2.2⟩, h4⟩

/-- One child more, behind a call that made it (in the world wx) and an append (in the world w). -/
theorem KidsAt.succ {B : Nat} {wx w w' : World} {ks : List Nd} {j : Nat} {sv : Value} {xs : List Value} {c : Array Value} {S : Nat → Prop} {gg cap n : Nat} (h : KidsAt B wx ks j sv xs) (hBx : B ≤ wx.heap.size)
    (hxs : xs.length = j * 11) (hj : j < ks.length) (hb : Below wx.heap.size wx w) (ho : Owns w ks[j] c S) (hc : c.size = 11) (hS : ∀ k, S k → wx.heap.size ≤ k) (hsv : ∀ k, sv.ownBlock = some k → k < wx.heap.size)
    (hg : w.grownBy w' sv.ownBlock) (hat : sv.ownBlock = some gg ∨ gg = w.heap.size) : KidsAt B w' ks (j + 1) (.slice (some ⟨gg, 0, none⟩) n cap) (xs ++ c.toList) := by
  obtain ⟨g, F, h1, h2, h3, h4⟩ := h
  have hSlt := ho.lt
  refine ⟨fun i => if i = j then c else g i, fun i => if i = j then S else F i, ?_, ?_, ?_, ?_⟩
  · intro i hi
    by_cases e : i = j
    · subst e
      simp only [if_true]
      refine ⟨hc, fun q hq => ?_⟩
      rw [List.getElem?_append_right (by omega), hxs]
      simp
    · simp only [if_neg e]
      refine ⟨(h1 i (by omega)).1, fun q hq => ?_⟩
      have hlt : i * 11 + q < xs.length := by rw [hxs]; omega
      rw [List.getElem?_append_left hlt]
      exact (h1 i (by omega)).2 q hq
  · intro i hl hi
    by_cases e : i = j
    · subst e
      simp only [if_true]
      refine ho.frame (fun k hk => hg.block k (hSlt k hk) (fun e => ?_))
      have := hsv k e.symm
      have := hS k hk
      omega
    · simp only [if_neg e]
      have hb2 := h2 i hl (by omega)
      refine (hb2.kept hb).frame (fun k hk => ?_)
      have h3k := h3 i k (by omega) hk
      exact hg.block k (Nat.lt_of_lt_of_le h3k.2.1 hb.size) (fun e => h3k.2.2 e.symm)
  · intro i k hi hk
    have hgk : ∀ k, k < w.heap.size → sv.ownBlock ≠ some k → (some gg : Option Nat) ≠ some k := fun k hk hne e => by
      obtain rfl := Option.some.inj e
      rcases hat with hat | hat
      · exact hne hat
      · omega
    by_cases e : i = j
    · subst e
      simp only [if_true] at hk
      have hk1 := hS k hk
      have hk2 := hSlt k hk
      exact ⟨by omega, Nat.lt_of_lt_of_le hk2 hg.size, hgk k hk2 (fun e => by have := hsv k e; omega)⟩
    · simp only [if_neg e] at hk
      have h3k := h3 i k (by omega) hk
      have hlt : k < w.heap.size := Nat.lt_of_lt_of_le h3k.2.1 hb.size
      exact ⟨h3k.1, Nat.lt_of_lt_of_le hlt hg.size, hgk k hlt h3k.2.2⟩
  · intro i i' k hi hi' hne hk
    by_cases e : i = j
    · have e' : i' ≠ j := by omega
      simp only [if_pos e] at hk
      simp only [if_neg e']
      intro hk'
      have := (h3 i' k (by omega) hk').2.1
      have := hS k hk
      omega
    · simp only [if_neg e] at hk
      by_cases e' : i' = j
      · simp only [if_pos e']
        intro hk'
        have := (h3 i k (by omega) hk).2.1
        have := hS k hk'
        omega
      · simp only [if_neg e']
        exact h4 i i' k (by omega) (by omega) hne hk

/-- All children there: a node of the call's own. -/
theorem KidsAt.node {B base : Nat} {w : World} {ks : List Nd} {sv : Value} {xs : List Value} (h : KidsAt B w ks ks.length sv xs) (hbase : B ≤ base) (hown : w.ownsRow base 26 11 sv ks.length xs) (h0 : ks = [] → sv = .slice none 0 0)
    (v : List Int) (t0 t1 : Int) (hv : v.length = 8) (hvb : ∀ x ∈ v, inI64 x) (ht0 : inI64 t0) (ht1 : inI64 t1) :
    ∃ S, Owns w (.mk v t0 t1 ks) (ndCells v t0 t1 sv) S ∧ ∀ k, S k → B ≤ k := by
  by_cases hks : ks = []
  · subst hks
    rw [h0 rfl]
    exact ⟨_, .leaf v t0 t1 hv hvb ht0 ht1, fun k hk => hk.elim⟩
  · obtain ⟨g, F, h1, h2, h3, h4⟩ := h
    rcases hown.2 with ⟨_, hn⟩ | ⟨b, cap, cur, rfl, hb, hg, hnc, hm, hcs, htake⟩
    · exact absurd (List.length_eq_zero_iff.1 hn) hks
    · refine ⟨_, .node v t0 t1 ks b cap cur g F hv hvb ht0 ht1 hks ⟨hnc, by unfold maxLen at hm; omega⟩ hg hcs ?_ (fun i hi => h2 i hi hi) ?_ (fun i j k hi hj hne hk => h4 i j k hi hj hne hk), ?_⟩
      · intro i hi q hq
        rw [cell_of_row w b _ cur 26 (0, 0) hg]
        have := (h1 i hi).2 q (by rw [(h1 i hi).1] at hq; exact hq)
        rw [← htake, List.getElem?_take] at this
        split at this
        · rw [Array.getElem?_toList] at this
          rw [this, Array.getElem?_eq_getElem hq]
        · rename_i hlt
          have := (h1 i hi).1
          omega
      · intro i hi hF
        exact (h3 i b hi hF).2.2 rfl
      · intro k hk
        rcases hk with rfl | ⟨i, hi, hk⟩
        · omega
        · exact (h3 i k hi hk).1

theorem Owns.other {w w' : World} {n : Nd} {c : Array Value} {S : Nat → Prop} {g : Nat} (h : Owns w n c S) (hg : ¬ S g) (hw : ∀ k, k ≠ g → w'.heap[k]? = w.heap[k]?) : Owns w' n c S :=
  h.frame (fun k hk => hw k (fun e => hg (e ▸ hk)))

/-- A store into a block below B leaves the children. -/
theorem KidsAt.put {B g : Nat} {w w' : World} {ks : List Nd} {j : Nat} {sv : Value} {xs : List Value} (h : KidsAt B w ks j sv xs) (hg : g < B) (hs : w'.heap.size = w.heap.size) (hw : ∀ k, k ≠ g → w'.heap[k]? = w.heap[k]?) : KidsAt B w' ks j sv xs := by
  obtain ⟨f, F, h1, h2, h3, h4⟩ := h
  exact ⟨f, F, h1, fun i hl hi => (h2 i hl hi).other (fun hk => by have := (h3 i g hi hk).1; omega) hw, fun i k hi hk => by have := h3 i k hi hk; exact ⟨this.1, by omega, this.2.2⟩, h4⟩

theorem ownsRow_put {g : Nat} {w w' : World} {base : Nat} {e : TypeId} {size : Nat} {v : Value} {n : Nat} {xs : List Value} (h : w.ownsRow base e size v n xs) (hg : g < base) (hw : ∀ k, k ≠ g → w'.heap[k]? = w.heap[k]?) : w'.ownsRow base e size v n xs := by
  refine ⟨h.1, ?_⟩
  rcases h.2 with hn | ⟨b, cap, cur, rfl, hb, hgg, rest⟩
  · exact .inl hn
  · exact .inr ⟨b, cap, cur, rfl, hb, (hw b (by omega)).trans hgg, rest⟩

theorem ownsRow_below {w w' : World} {base : Nat} {e : TypeId} {size : Nat} {v : Value} {n : Nat} {xs : List Value} (h : w.ownsRow base e size v n xs) (hw : Below w.heap.size w w') : w'.ownsRow base e size v n xs := by
  refine ⟨h.1, ?_⟩
  rcases h.2 with hn | ⟨b, cap, cur, rfl, hb, hgg, rest⟩
  · exact .inl hn
  · exact .inr ⟨b, cap, cur, rfl, hb, (hw.block b (Array.getElem?_eq_some_iff.1 hgg).1).trans hgg, rest⟩
end Go.Proofs.Ytmdmbnpgdkmklaa
namespace Go.Proofs.Ytmdmbnpgdkmklaa
open Go.RowKit
set_option linter.unusedVariables false
set_option linter.unusedSimpArgs false

/-- At offset o of the block b lies a node of the call's own, with its tree in the blocks S. -/
def NodeAt (w : World) (b o : Nat) (ty : TypeId) (n : Nd) (S : Nat → Prop) : Prop :=
  ∃ cur c, w.heap[b]? = some (.cells cur ty (0, 0)) ∧ RowAt w b o c ∧ Owns w n c S ∧ ¬ S b

/-- Only the eleven cells at (b, o) and the blocks S have turned. -/
structure Turned (b o : Nat) (S : Nat → Prop) (w w' : World) : Prop where
  os : w'.os = w.os
  tape : w'.tape = w.tape
  output : w'.output = w.output
  size : w.heap.size ≤ w'.heap.size
  block : ∀ k, k < w.heap.size → k ≠ b → ¬ S k → w'.heap[k]? = w.heap[k]?
  cells : ∀ cur ty, w.heap[b]? = some (.cells cur ty (0, 0)) → ∃ cur', w'.heap[b]? = some (.cells cur' ty (0, 0)) ∧ cur'.size = cur.size ∧ ∀ q, (q < o ∨ o + 11 ≤ q) → cur'[q]? = cur[q]?

theorem Turned.refl (b o : Nat) (S : Nat → Prop) (w : World) : Turned b o S w w := ⟨rfl, rfl, rfl, Nat.le_refl _, fun _ _ _ _ => rfl, fun cur ty h => ⟨cur, h, rfl, fun _ _ => rfl⟩⟩

theorem Turned.trans {b o : Nat} {S T : Nat → Prop} {w w' w'' : World} (h : Turned b o S w w') (k : Turned b o T w' w'') (hT : ∀ i, T i → S i ∨ w.heap.size ≤ i) : Turned b o S w w'' := by
  refine ⟨k.os.trans h.os, k.tape.trans h.tape, k.output.trans h.output, Nat.le_trans h.size k.size, fun i hi hb hS => ?_, fun cur ty hc => ?_⟩
  · refine (k.block i (Nat.lt_of_lt_of_le hi h.size) hb (fun hTi => ?_)).trans (h.block i hi hb hS)
    rcases hT i hTi with q | q
    · exact hS q
    · omega
  · obtain ⟨c1, h1, s1, e1⟩ := h.cells cur ty hc
    obtain ⟨c2, h2, s2, e2⟩ := k.cells c1 ty h1
    exact ⟨c2, h2, s2.trans s1, fun q hq => (e2 q hq).trans (e1 q hq)⟩

theorem Turned.mono {b o : Nat} {S T : Nat → Prop} {w w' : World} (h : Turned b o S w w') (hS : ∀ i, S i → T i) : Turned b o T w w' :=
  ⟨h.os, h.tape, h.output, h.size, fun k hk hb hT => h.block k hk hb (fun q => hT (hS k q)), h.cells⟩

theorem Turned.drew {b o : Nat} {S : Nat → Prop} {w w' : World} (h : Turned b o S w w') : Turned b o S w w'.drew := ⟨h.os, h.tape, h.output, h.size, h.block, h.cells⟩

theorem Turned.setCell {b o q : Nat} {S : Nat → Prop} {w w' : World} (h : Turned b o S w w') (hq : q < 11) (u : Value) : Turned b o S w (w'.setCell ⟨b, o + q, none⟩ u) := by
  refine ⟨h.os, h.tape, h.output, by simpa [World.setCell] using h.size, fun k hk hb hS => ?_, fun cur ty hc => ?_⟩
  · exact (Below.heap_setCell _ _ _ _ hb).trans (h.block k hk hb hS)
  · obtain ⟨c1, h1, s1, e1⟩ := h.cells cur ty hc
    refine ⟨_, heap_setCell_same w' b (o + q) c1 ty u h1, by simpa using s1, fun k hk => ?_⟩
    rw [← e1 k hk, Array.getElem?_setIfInBounds, if_neg (by omega)]

theorem Turned.below {b o : Nat} {S : Nat → Prop} {w w' : World} (h : Below w.heap.size w w') (hb : b < w.heap.size) : Turned b o S w w' :=
  ⟨h.os, h.tape, h.output, h.size, fun k hk _ _ => h.block k hk, fun cur ty hc => ⟨cur, (h.block b hb).trans hc, rfl, fun _ _ => rfl⟩⟩

theorem NodeAt.lt {w : World} {b o : Nat} {ty : TypeId} {n : Nd} {S : Nat → Prop} (h : NodeAt w b o ty n S) : b < w.heap.size := by
  obtain ⟨cur, c, hg, _⟩ := h
  exact (Array.getElem?_eq_some_iff.1 hg).1

theorem NodeAt.kept {w w' : World} {b o : Nat} {ty : TypeId} {n : Nd} {S : Nat → Prop} (h : NodeAt w b o ty n S) (hb : w'.heap[b]? = w.heap[b]?) (hS : ∀ k, S k → w'.heap[k]? = w.heap[k]?) : NodeAt w' b o ty n S := by
  obtain ⟨cur, c, hg, hr, ho, hn⟩ := h
  exact ⟨cur, c, hb.trans hg, row_of_block hr hb, ho.frame hS, hn⟩

theorem NodeAt.drew {w : World} {b o : Nat} {ty : TypeId} {n : Nd} {S : Nat → Prop} (h : NodeAt w b o ty n S) : NodeAt w.drew b o ty n S := h.kept rfl (fun _ _ => rfl)

theorem NodeAt.frozen {w : World} {b o : Nat} {ty : TypeId} {n : Nd} {S : Nat → Prop} (h : NodeAt w b o ty n S) (j : Nat) : w.frozen? ⟨b, j, none⟩ = false := by
  obtain ⟨cur, c, hg, _⟩ := h
  exact frozen_of_row w b j _ _ hg

/-- A store of one of the eleven cells. -/
theorem RowAt.set {w : World} {b o q : Nat} {ty : TypeId} {cur c : Array Value} (hg : w.heap[b]? = some (.cells cur ty (0, 0))) (h : RowAt w b o c) (u : Value) (hq : q < c.size) :
    RowAt (w.setCell ⟨b, o + q, none⟩ u) b o (c.setIfInBounds q u) := by
  intro i hi
  have hi' : i < c.size := by simpa using hi
  have hg' := heap_setCell_same w b (o + q) cur ty u hg
  have := h i hi'
  rw [cell_of_row w b (o + i) cur ty (0, 0) hg] at this
  rw [cell_of_row _ b (o + i) _ ty (0, 0) hg', Array.getElem?_setIfInBounds]
  have hlt : o + i < cur.size := by
    rcases Nat.lt_or_ge (o + i) cur.size with h | h
    · exact h
    · rw [Array.getElem?_eq_none h] at this; cases this
  by_cases e : q = i
  · subst e
    rw [if_pos rfl, if_pos hlt]
    simp [hi']
  · rw [if_neg (by omega), this]
    rw [Array.getElem_setIfInBounds, if_neg e]

theorem getD_set8 (v : List Int) (d : Nat) (x : Int) : (v.set d x).length = v.length := by simp

/-- A store into a value, a tag of a node, where the tree's blocks stay. -/
theorem NodeAt.put {w : World} {b o q : Nat} {ty : TypeId} {v v' : List Int} {t0 t1 t0' t1' : Int} {ks : List Nd} {S : Nat → Prop} (h : NodeAt w b o ty (.mk v t0 t1 ks) S) (x : Int) (hq : q < 11)
    (hv : v.length = 8 → v'.length = 8) (hvb : (∀ x ∈ v, inI64 x) → ∀ x ∈ v', inI64 x) (h0 : inI64 t0 → inI64 t0') (h1 : inI64 t1 → inI64 t1')
    (hc : ∀ s, v.length = 8 → (ndCells v t0 t1 s).setIfInBounds q (.int .i64 x) = ndCells v' t0' t1' s) :
    NodeAt (w.setCell ⟨b, o + q, none⟩ (.int .i64 x)) b o ty (.mk v' t0' t1' ks) S := by
  obtain ⟨cur, c, hg, hr, ho, hn⟩ := h
  have hsz := ho.size
  have hr2 := RowAt.set hg hr (.int .i64 x) (q := q) (by omega)
  refine ⟨_, c.setIfInBounds q (.int .i64 x), heap_setCell_same w b (o + q) cur ty _ hg, hr2, ?_, hn⟩
  have hoth : ∀ k, S k → (w.setCell ⟨b, o + q, none⟩ (.int .i64 x)).heap[k]? = w.heap[k]? := fun k hk => Below.heap_setCell _ _ _ _ (fun e => hn (by rw [show k = b from e] at hk; exact hk))
  have ho2 := ho.frame hoth
  cases ho2 with
  | leaf _ _ _ hv8 hvb8 h08 h18 =>
    rw [hc _ hv8]
    exact .leaf v' t0' t1' (hv hv8) (hvb hvb8) (h0 h08) (h1 h18)
  | node _ _ _ _ bk cap curk f F hv8 hvb8 h08 h18 hne hcp hgk hcur hf hk hb hd =>
    rw [hc _ hv8]
    exact .node v' t0' t1' ks bk cap curk f F (hv hv8) (hvb hvb8) (h0 h08) (h1 h18) hne hcp hgk hcur hf hk hb hd

theorem NodeAt.putT0 {w : World} {b o : Nat} {ty : TypeId} {v : List Int} {t0 t1 : Int} {ks : List Nd} {S : Nat → Prop} (h : NodeAt w b o ty (.mk v t0 t1 ks) S) (x : Int) (hx : inI64 x) :
    NodeAt (w.setCell ⟨b, o + 8, none⟩ (.int .i64 x)) b o ty (.mk v x t1 ks) S :=
  h.put x (by omega) id id (fun _ => hx) id (fun s hv => by
    obtain ⟨v0, v1, v2, v3, v4, v5, v6, v7, rfl⟩ := list8 hv
    rfl)
theorem NodeAt.putT1 {w : World} {b o : Nat} {ty : TypeId} {v : List Int} {t0 t1 : Int} {ks : List Nd} {S : Nat → Prop} (h : NodeAt w b o ty (.mk v t0 t1 ks) S) (x : Int) (hx : inI64 x) :
    NodeAt (w.setCell ⟨b, o + 9, none⟩ (.int .i64 x)) b o ty (.mk v t0 x ks) S :=
  h.put x (by omega) id id id (fun _ => hx) (fun s hv => by
    obtain ⟨v0, v1, v2, v3, v4, v5, v6, v7, rfl⟩ := list8 hv
    rfl)
theorem NodeAt.putV {w : World} {b o d : Nat} {ty : TypeId} {v : List Int} {t0 t1 : Int} {ks : List Nd} {S : Nat → Prop} (h : NodeAt w b o ty (.mk v t0 t1 ks) S) (x : Int) (hx : inI64 x) (hd : d < 8) :
    NodeAt (w.setCell ⟨b, o + d, none⟩ (.int .i64 x)) b o ty (.mk (v.set d x) t0 t1 ks) S :=
  h.put x (by omega) (fun h => by simpa using h) (fun h y hy => by
    rcases List.mem_or_eq_of_mem_set hy with q | q
    · exact h y q
    · exact q ▸ hx) id id (fun s hv => by
    obtain ⟨v0, v1, v2, v3, v4, v5, v6, v7, rfl⟩ := list8 hv
    match d, hd with
    | 0, _ | 1, _ | 2, _ | 3, _ | 4, _ | 5, _ | 6, _ | 7, _ => rfl)

/-- The cells of a node, where it lies. -/
theorem NodeAt.cells {w : World} {b o : Nat} {ty : TypeId} {n : Nd} {S : Nat → Prop} (h : NodeAt w b o ty n S) :
    w.cell? ⟨b, o + 8, none⟩ = some (.int .i64 n.t0) ∧ w.cell? ⟨b, o + 9, none⟩ = some (.int .i64 n.t1) ∧ (∀ d, d < 8 → w.cell? ⟨b, o + d, none⟩ = some (.int .i64 (n.vs.getD d 0))) := by
  obtain ⟨cur, c, hg, hr, ho, hn⟩ := h
  cases ho with
  | leaf v t0 t1 hv8 hvb8 h08 h18 =>
    obtain ⟨v0, v1, v2, v3, v4, v5, v6, v7, rfl⟩ := list8 hv8
    refine ⟨hr 8 (by simp [ndCells]), hr 9 (by simp [ndCells]), fun d hd => ?_⟩
    have := hr d (by simp [ndCells]; omega)
    rw [this]
    match d, hd with
    | 0, _ | 1, _ | 2, _ | 3, _ | 4, _ | 5, _ | 6, _ | 7, _ => rfl
  | node v t0 t1 ks bk cap curk f F hv8 hvb8 h08 h18 hne hcp hgk hcur hf hk hb hd =>
    obtain ⟨v0, v1, v2, v3, v4, v5, v6, v7, rfl⟩ := list8 hv8
    refine ⟨hr 8 (by simp [ndCells]), hr 9 (by simp [ndCells]), fun d hd => ?_⟩
    have := hr d (by simp [ndCells]; omega)
    rw [this]
    match d, hd with
    | 0, _ | 1, _ | 2, _ | 3, _ | 4, _ | 5, _ | 6, _ | 7, _ => rfl

theorem inI64_bits (op : BinOp) (x y : Int) : inI64 (bits op .i64 x y) := by
  unfold bits inI64
  simp only [IntKind.wrap_i64]
  omega
end Go.Proofs.Ytmdmbnpgdkmklaa
