/- The plain test of a node for a level, and small facts on it. -/
import Derived.Test.YtmdmbnpgdkmklaaRd2
namespace Go.Proofs.Ytmdmbnpgdkmklaa
open Go.RowKit
set_option linter.unusedVariables false
set_option linter.unusedSimpArgs false

def Nd.zero : Nd := .mk [0, 0, 0, 0, 0, 0, 0, 0] 0 0 []
def Nd.kid (n : Nd) (i : Nat) : Nd := n.ks.getD i Nd.zero

def kidGood (okk : Nd → Bool) (n : Nd) (i : Nat) : Bool :=
  n.vs.getD i 0 == 0 && ((n.kid i).absent || okk (n.kid i)) && (tb n.t0 i == ((n.kid i).t0 != 0)) && (tb n.t1 i == ((n.kid i).t1 != 0))

/-- Whether a node is well formed for a level. -/
def Nd.ok : Nat → Nd → Bool
  | 0, _ => false
  | 1, n => !n.absent && n.okLeaf
  | l + 2, n => !n.absent && n.ks.length == 8 && (List.range 8).all (kidGood (Nd.ok (l + 1)) n) && (List.range 8).any (fun i => !(n.kid i).absent) && tagOk n.t0 && tagOk n.t1

/-- A child's row: where it lies, and that it stands for the child; its two tags. -/
theorem kid_tags {w : World} {n : Nd} {c : Array Value} {b o : Nat} (h : IsN w n c) (hr : RowAt w b o c) :
    w.cell? ⟨b, o + 8, none⟩ = some (.int .i64 n.t0) ∧ w.cell? ⟨b, o + 8 + 1, none⟩ = some (.int .i64 n.t1) := by
  cases h with
  | mk v t0 t1 ks a b o cap f hv hvb h0 h1 haa hl hcp hf hk =>
    obtain ⟨v0, v1, v2, v3, v4, v5, v6, v7, rfl⟩ := list8 hv
    exact ⟨hr 8 (by simp [ndCells]), hr 9 (by simp [ndCells])⟩

theorem ok_false {l : Nat} {n : Nd} {k : Nat} (hk : k < 8) (h : kidGood (Nd.ok (l + 1)) n k = false) : n.ok (l + 2) = false := by
  have : (List.range 8).all (kidGood (Nd.ok (l + 1)) n) = false := by
    rw [List.all_eq_false]; exact ⟨k, by simpa using hk, by simp [h]⟩
  simp [Nd.ok, this]
theorem ok_end {l : Nat} {n : Nd} (ha : n.absent = false) (h8 : n.ks.length = 8) (h : ∀ j, j < 8 → kidGood (Nd.ok (l + 1)) n j = true) :
    n.ok (l + 2) = ((List.range 8).any (fun i => !(n.kid i).absent) && tagOk n.t0 && tagOk n.t1) := by
  have : (List.range 8).all (kidGood (Nd.ok (l + 1)) n) = true := by
    rw [List.all_eq_true]; intro j hj; exact h j (by simpa using hj)
  simp [Nd.ok, this, ha, h8]


end Go.Proofs.Ytmdmbnpgdkmklaa
