/- radix.shrink: a tree is lowered to the least height. -/
import Derived.Test.YtmdmbnpgdkmklaaRl1
namespace Go.Proofs.Ytmdmbnpgdkmklaa
open Go.RowKit
set_option linter.unusedVariables false
set_option linter.unusedSimpArgs false

/-- The least height and its root. -/
def shrinkL : Nat → Nd → Nat × Nd
  | 0, n => (0, n)
  | 1, n => (1, n)
  | h + 2, n => if (n.ks.drop 1).all Nd.absent = true then shrinkL (h + 1) (n.ks.getD 0 Nd.zero) else (h + 2, n)
def shrinkM (h : Nat) (n : Nd) : Nat × Nd := if h ≠ 0 ∧ n.emp = true then (0, Nd.zero) else shrinkL h n

/-- What shrink leaves. -/
def Shrunk (g : Nat) (h' : Nat) (n' : Nd) (S : Nat → Prop) (W : World) (e : Ending) (W' : World) : Prop :=
  e = .returned (.tuple #[]) ∧ W'.os = W.os ∧ W'.tape = W.tape ∧ W'.output = W.output ∧ W.heap.size ≤ W'.heap.size ∧ (∀ k, k < W.heap.size → k ≠ g → W'.heap[k]? = W.heap[k]?) ∧ ∃ S', TreeAt W' g h' n' S' ∧ ∀ k, S' k → S k ∨ W.heap.size ≤ k

/-- The root is replaced by its first child. -/
theorem TreeAt.lower {w : World} {g : Nat} {h : Int} {v : List Int} {t0 t1 : Int} {ks : List Nd} {S : Nat → Prop} (t : TreeAt w g h (.mk v t0 t1 ks) S) (hne : 0 < ks.length) :
    ∃ bk cap c T, w.cell? ⟨g, 11, none⟩ = some (.slice (some ⟨bk, 0, none⟩) ks.length cap) ∧ g ≠ bk ∧ RowAt w bk 0 c ∧ Owns w ks[0] c T ∧ (∀ k, T k → S k) ∧
      w.there g 1 11 ∧ TreeAt (w.setCells g 1 c.toList) g h ks[0] T ∧ Turned g 1 S w (w.setCells g 1 c.toList) := by
  obtain ⟨bk, cap, T, hc, hgb, hSb, hTS, hN, -⟩ := t.node.child 0 hne
  obtain ⟨cur, c, hg, hr, ho, hn⟩ := hN
  have hSg : ¬ S g := by obtain ⟨_, _, _, h⟩ := t; exact h
  obtain ⟨hN2, hT2⟩ := t.node.over (T := S) ho (fun h => hSg (hTS g h))
  rw [Nat.zero_mul] at hr
  exact ⟨bk, cap, c, T, hc, hgb, hr, ho, hTS, t.node.there, t.turned hT2 hN2, hT2⟩

/-- The children of the root, where they lie; the root is replaced by the first. -/
theorem TreeAt.kids {w : World} {g : Nat} {h : Int} {v : List Int} {t0 t1 : Int} {ks : List Nd} {S : Nat → Prop} (t : TreeAt w g h (.mk v t0 t1 ks) S) (hne : 0 < ks.length) :
    ∃ (bk cap : Nat) (f : Nat → Array Value) (T : Nat → Prop), w.cell? ⟨g, 11, none⟩ = some (.slice (some ⟨bk, 0, none⟩) ks.length cap) ∧ ks.length ≤ cap ∧ g ≠ bk ∧ (∀ j (hj : j < ks.length), RowAt w bk (j * 11) (f j) ∧ IsN w ks[j] (f j)) ∧
      (∀ k, T k → S k) ∧ w.there g 1 11 ∧ TreeAt (w.setCells g 1 (f 0).toList) g h ks[0] T := by
  have hth := t.node.there
  have ht := t
  obtain ⟨c, hg, ho, hn⟩ := t
  cases ho with
  | leaf => simp at hne
  | node v t0 t1 ks b cap cur f F hv hvb h0 h1 hne' hcp hgb hcur hf hk hb hd =>
    have hgb' : g ≠ b := fun e => hn (.inl e)
    have hTg : ¬ F 0 g := fun e => hn (.inr ⟨0, hne, e⟩)
    obtain ⟨hN2, hT2⟩ := ht.node.over (T := fun _ => False) (hk 0 hne) hTg
    refine ⟨b, cap, f, F 0, ?_, hcp.1, hgb', fun j hj => ⟨hf j hj, (hk j hj).isN⟩, fun k hk' => .inr ⟨0, hne, hk'⟩, hth, ht.turned hT2 hN2⟩
    obtain ⟨v0, v1, v2, v3, v4, v5, v6, v7, rfl⟩ := list8 hv
    rw [cell_of_row w g _ _ 28 (0, 0) hg]
    rfl

/-- What shrink asks of the tree: an inner root that it looks at has eight children. -/
def Nd.low : Nat → Nd → Prop
  | 0, _ => True
  | 1, _ => True
  | h + 2, n => n.ks.length = 8 ∧ ((n.ks.drop 1).all Nd.absent = true → Nd.low (h + 1) (n.ks.getD 0 Nd.zero))
end Go.Proofs.Ytmdmbnpgdkmklaa
