/- radix.update at every level. -/
import Derived.Test.YtmdmbnpgdkmklaaRk8
namespace Go.Proofs.Ytmdmbnpgdkmklaa
open Go.RowKit
set_option linter.unusedVariables false
set_option linter.unusedSimpArgs false

theorem update_spec {fid : Nat} {capt : Array Value} {K : Nat → Prop} {C : World → Prop} {chg : Nd → Nat → Nd} (hchg : Changes fid capt K C chg) (hC : ∀ W W', (∀ k, K k → W'.heap[k]? = W.heap[k]?) → C W → C W') (hf : fid = 75 ∨ fid = 107)
    (i : Nat) (hi : i ≤ 1073741824) (l : Nat) : l ≤ 9 → ∀ (W : World) (b o : Nat) (ty : TypeId) (n : Nd) (S : Nat → Prop), C W → ¬ K b → (∀ k, K k → ¬ S k) → (∀ k, K k → k < W.heap.size) → n.fit l → NodeAt W b o ty n S →
      Calls Try.prog 74 #[.pointer (some ⟨b, o, none⟩), .int .i64 ((l : Int) + 1), .int .i64 i, .func (.func fid) #[] capt] W fun e W' => Updated b o ty (n.upd chg l i) S W e W' := by
  induction l with
  | zero =>
    intro _ W b o ty n S hCW hKb hKS hK hfit h
    exact update_zero hchg hC hf W b o ty n S i hi hCW hKb hK h
  | succ l ih =>
    intro hl W b o ty n S hCW hKb hKS hK hfit h
    have := update_succ (fid := fid) (capt := capt) (chg := chg) hC l (by omega) i hi (ih (by omega)) W b o ty n S hCW hKb hKS hK hfit h
    rw [show (((l + 1 : Nat) : Int) + 1) = (l : Int) + 2 by omega]
    exact this
end Go.Proofs.Ytmdmbnpgdkmklaa
