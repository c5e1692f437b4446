/- Trees in memory of the call's own: which blocks they lie in, that they stay, that they stand for a plain tree. -/
import Derived.Test.YtmdmbnpgdkmklaaRq
import Derived.Test.YtmdmbnpgdkmklaaRv
import Derived.Test.YtmdmbnpgdkmklaaRi1
namespace Go.Proofs.Ytmdmbnpgdkmklaa
open Go.RowKit
set_option linter.unusedVariables false
set_option linter.unusedSimpArgs false

/-- The cells c are a node whose tree lies in the blocks S, each of them whole, unfrozen, and reached once. -/
inductive Owns (w : World) : Nd → Array Value → (Nat → Prop) → Prop where
  | leaf (v : List Int) (t0 t1 : Int) (hv : v.length = 8) (hvb : ∀ x ∈ v, inI64 x) (h0 : inI64 t0) (h1 : inI64 t1) :
      Owns w (.mk v t0 t1 []) (ndCells v t0 t1 (.slice none 0 0)) (fun _ => False)
  | node (v : List Int) (t0 t1 : Int) (ks : List Nd) (b cap : Nat) (cur : Array Value) (f : Nat → Array Value) (F : Nat → Nat → Prop)
      (hv : v.length = 8) (hvb : ∀ x ∈ v, inI64 x) (h0 : inI64 t0) (h1 : inI64 t1) (hne : ks ≠ []) (hcp : ks.length ≤ cap ∧ cap ≤ 9223372036854775807)
      (hg : w.heap[b]? = some (.cells cur 26 (0, 0))) (hcur : cur.size = cap * 11)
      (hf : ∀ i, i < ks.length → RowAt w b (i * 11) (f i))
      (hk : ∀ i (h : i < ks.length), Owns w ks[i] (f i) (F i))
      (hb : ∀ i, i < ks.length → ¬ F i b) (hd : ∀ i j k, i < ks.length → j < ks.length → i ≠ j → F i k → ¬ F j k) :
      Owns w (.mk v t0 t1 ks) (ndCells v t0 t1 (.slice (some ⟨b, 0, none⟩) ks.length cap)) (fun k => k = b ∨ ∃ i, i < ks.length ∧ F i k)

theorem Owns.isN {w : World} {n : Nd} {c : Array Value} {S : Nat → Prop} (h : Owns w n c S) : IsN w n c := by
  induction h with
  | leaf v t0 t1 hv hvb h0 h1 =>
    exact IsN.mk v t0 t1 [] none 0 0 0 (fun _ => #[]) hv hvb h0 h1 (fun h => absurd rfl h) (by simp) (by simp) (fun i hi => by simp at hi) (fun i hi => by simp at hi)
  | node v t0 t1 ks b cap cur f F hv hvb h0 h1 hne hcp hg hcur hf hk hb hd ih =>
    exact IsN.mk v t0 t1 ks _ b 0 cap f hv hvb h0 h1 (fun _ => rfl) (by omega) hcp (fun i hi => by rw [Nat.zero_add]; exact hf i hi) ih

/-- Blocks of a tree are there. -/
theorem Owns.lt {w : World} {n : Nd} {c : Array Value} {S : Nat → Prop} (h : Owns w n c S) : ∀ k, S k → k < w.heap.size := by
  induction h with
  | leaf => intro k hk; exact hk.elim
  | node v t0 t1 ks b cap cur f F hv hvb h0 h1 hne hcp hg hcur hf hk hb hd ih =>
    intro k hk
    rcases hk with rfl | ⟨i, hi, hk⟩
    · exact (Array.getElem?_eq_some_iff.1 hg).1
    · exact ih i hi k hk

theorem row_of_block {w w' : World} {b o : Nat} {cs : Array Value} (h : RowAt w b o cs) (hb : w'.heap[b]? = w.heap[b]?) : RowAt w' b o cs := fun i hi => by
  have := h i hi
  rw [World.cell?] at this ⊢
  rw [hb]; exact this

/-- A tree stays while its blocks stay. -/
theorem Owns.frame {w w' : World} {n : Nd} {c : Array Value} {S : Nat → Prop} (h : Owns w n c S) : (∀ k, S k → w'.heap[k]? = w.heap[k]?) → Owns w' n c S := by
  induction h with
  | leaf v t0 t1 hv hvb h0 h1 => intro _; exact .leaf v t0 t1 hv hvb h0 h1
  | node v t0 t1 ks b cap cur f F hv hvb h0 h1 hne hcp hg hcur hf hk hb hd ih =>
    intro hS
    have hbb := hS b (.inl rfl)
    exact .node v t0 t1 ks b cap cur f F hv hvb h0 h1 hne hcp (hbb.trans hg) hcur (fun i hi => row_of_block (hf i hi) hbb) (fun i hi => ih i hi (fun k hk => hS k (.inr ⟨i, hi, hk⟩))) hb hd

theorem Owns.kept {w w' : World} {n : Nd} {c : Array Value} {S : Nat → Prop} (h : Owns w n c S) (hb : Below w.heap.size w w') : Owns w' n c S :=
  h.frame (fun k hk => hb.block k (h.lt k hk))

theorem Owns.drew {w : World} {n : Nd} {c : Array Value} {S : Nat → Prop} (h : Owns w n c S) : Owns w.drew n c S := h.frame (fun _ _ => rfl)

theorem Owns.size {w : World} {n : Nd} {c : Array Value} {S : Nat → Prop} (h : Owns w n c S) : c.size = 11 := h.isN.size

/-- Trees with at most eight children a node. -/
inductive Slim : Nd → Prop where
  | mk (v : List Int) (t0 t1 : Int) (ks : List Nd) (h8 : ks.length ≤ 8) (hk : ∀ i (h : i < ks.length), Slim ks[i]) : Slim (.mk v t0 t1 ks)

theorem slim_absent {n : Nd} (h : n.absent = true) : Slim n := by
  cases n with
  | mk v t0 t1 ks =>
    have : ks = [] := by
      simp only [Nd.absent, Nd.ks, Bool.and_eq_true, List.isEmpty_iff] at h
      exact h.1.1
    subst this
    exact .mk _ _ _ _ (by simp) (fun i hi => by simp at hi)

theorem slim_ok (l : Nat) : ∀ n : Nd, n.ok (l + 1) = true → Slim n := by
  induction l with
  | zero =>
    intro n h
    cases n with
    | mk v t0 t1 ks =>
      have : ks = [] := by
        simp only [Nd.ok, Nd.okLeaf, Nd.ks, Bool.and_eq_true, List.isEmpty_iff] at h
        exact h.2.2
      subst this
      exact .mk _ _ _ _ (by simp) (fun i hi => by simp at hi)
  | succ l ih =>
    intro n h
    cases n with
    | mk v t0 t1 ks =>
      have h8 : ks.length = 8 := by
        have := h
        simp only [Nd.ok, Nd.ks, Bool.and_eq_true, beq_iff_eq] at this
        exact this.1.1.1.1.2
      have hall := h
      simp only [Nd.ok, Bool.and_eq_true, List.all_eq_true] at hall
      refine .mk _ _ _ _ (by omega) (fun i hi => ?_)
      have hg := hall.1.1.1.2 i (by simp; omega)
      simp only [kidGood, Bool.and_eq_true, Bool.or_eq_true] at hg
      have hk : (Nd.mk v t0 t1 ks).kid i = ks[i] := by simp [Nd.kid, Nd.ks, hi]
      rw [hk] at hg
      rcases hg.1.1.2 with hg | hg
      · exact slim_absent hg
      · exact ih _ hg
end Go.Proofs.Ytmdmbnpgdkmklaa
