/- radix.digit; the leaf that contains an index, in plain data. -/
import Derived.Test.YtmdmbnpgdkmklaaRg3
import Derived.StillTailTactics
namespace Go.Proofs.Ytmdmbnpgdkmklaa
open Go.RowKit
set_option linter.unusedVariables false
set_option linter.unusedSimpArgs false

/-- The digit of an index for level l + 1. -/
def dig (i l : Nat) : Nat := i / 8 ^ l % 8

theorem dig_lt (i l : Nat) : dig i l < 8 := Nat.mod_lt _ (by omega)

theorem dig_int (i l : Nat) : ((i : Int) / 2 ^ (3 * l)).tmod 8 = (dig i l : Int) := by
  have e : ((2 : Int) ^ (3 * l)) = ((8 ^ l : Nat) : Int) := by
    rw [show (8 : Nat) = 2 ^ 3 by rfl, ← Nat.pow_mul]
    simp
  have h0 : (0 : Int) ≤ (i : Int) / ((8 ^ l : Nat) : Int) := Int.ediv_nonneg (Int.natCast_nonneg _) (Int.natCast_nonneg _)
  rw [e, Int.tmod_eq_emod_of_nonneg h0, ← Int.natCast_ediv]
  unfold dig
  rw [Int.natCast_emod]; rfl

set_option maxHeartbeats 1000000 in
theorem digit_spec (i l : Nat) (hi : i ≤ 1073741824) (hl : l ≤ 9) (w : World) :
    Calls Try.prog 82 #[.int .i64 i, .int .i64 ((l : Int) + 1)] w fun e w' => e = .returned (.int .i64 (dig i l)) ∧ w = w' := by
  have Hd := Lib.hid (dig_int i l)
  go_enter Try.func82, Try.ntmps82
  go_wp2_with fail
  go_ret
  exact ⟨ret_int Hd.out, rfl⟩

/-- The leaf that contains an index, below a node of level l + 1. -/
def Nd.leafAt : Nat → Nd → Nat → Option Nd
  | 0, n, _ => some n
  | l + 1, n, i => if (n.kid (dig i (l + 1))).absent = true then none else (n.kid (dig i (l + 1))).leafAt l i

/-- The leaf that contains an index, where the tree is valid, high enough and has it. -/
def Rx.leafOf (r : Rx) (i : Int) : Option Nd :=
  if r.check ≠ 0 ∨ i < 0 ∨ 1073741824 ≤ i ∨ 0 < i / 2 ^ (3 * r.h.toNat) ∨ r.h = 0 then none else r.root.leafAt (r.h.toNat - 1) i.toNat

def LeafPost (w : World) (r : Rx) (i : Int) (e : Ending) : Prop := ∃ nd cn, e = .returned (.tuple #[.agg cn, .bool (r.leafOf i).isSome]) ∧ IsN w nd cn ∧ (∀ m, r.leafOf i = some m → m = nd)

theorem ok_kid {l : Nat} {n : Nd} (h : n.ok (l + 2) = true) {k : Nat} (hk : k < 8) : (n.kid k).absent = true ∨ (n.kid k).ok (l + 1) = true := by
  simp only [Nd.ok, Bool.and_eq_true, List.all_eq_true] at h
  have := h.1.1.1.2 k (by simpa using hk)
  simp only [kidGood, Bool.and_eq_true, Bool.or_eq_true] at this
  exact this.1.1.2
theorem ok_len {l : Nat} {n : Nd} (h : n.ok (l + 2) = true) : n.ks.length = 8 := by
  simp only [Nd.ok, Bool.and_eq_true, beq_iff_eq] at h
  exact h.1.1.1.1.2

theorem check_zero {r : Rx} (h : r.check = 0) : 0 ≤ r.h ∧ r.h ≤ 10 ∧ (r.h = 0 → r.root.absent = true) ∧ (1 ≤ r.h → r.root.ok r.h.toNat = true) := by
  unfold Rx.check at h
  split at h
  · simp at h
  · rename_i h1
    have h1' : 0 ≤ r.h ∧ r.h ≤ 10 := by omega
    refine ⟨h1'.1, h1'.2, ?_⟩
    split at h
    · rename_i h2
      refine ⟨fun _ => ?_, fun h3 => by omega⟩
      by_cases ha : r.root.absent = true
      · exact ha
      · rw [if_neg ha] at h; simp at h
    · rename_i h2
      refine ⟨fun h3 => absurd h3 h2, fun _ => ?_⟩
      split at h
      · simp at h
      · rename_i h3; simpa using h3

theorem set_opt_leaf_none {w : World} {r : Rx} {i : Int} (h : r.check ≠ 0 ∨ i < 0 ∨ 1073741824 ≤ i ∨ 0 < i / 2 ^ (3 * r.h.toNat) ∨ r.h = 0) : r.leafOf i = none := by
  unfold Rx.leafOf; rw [if_pos h]
end Go.Proofs.Ytmdmbnpgdkmklaa
