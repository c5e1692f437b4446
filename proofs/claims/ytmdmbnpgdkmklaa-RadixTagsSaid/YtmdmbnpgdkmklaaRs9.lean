/- The reference's Next and Get answer as the tree's own. -/
import Derived.Test.YtmdmbnpgdkmklaaRs8
namespace Go.Proofs.Ytmdmbnpgdkmklaa
open Go.RowKit
set_option linter.unusedVariables false
set_option linter.unusedSimpArgs false

theorem find_and {α : Type} (p q : α → Bool) : ∀ l : List α, (∀ x ∈ l, q x = true) → l.find? (fun a => p a && q a) = l.find? p
  | [], _ => rfl
  | a :: l, h => by
    rw [List.find?_cons, List.find?_cons, h a (by simp), Bool.and_true, find_and p q l (fun x hx => h x (by simp [hx]))]

theorem find_at (tag f : Int) : ∀ l : List En, l.Pairwise (fun a b => a.i < b.i) → l.find? (fun e => selT tag e.t && decide (f ≤ (e.i : Int))) = (l.drop (atE l f)).find? (fun e => selT tag e.t)
  | [], _ => rfl
  | e :: l, h => by
    rw [List.pairwise_cons] at h
    unfold atE
    by_cases q : (e.i : Int) < f
    · rw [if_pos q, List.find?_cons, List.drop_succ_cons]
      have : decide (f ≤ (e.i : Int)) = false := by simp; omega
      rw [this, Bool.and_false]
      exact find_at tag f l h.2
    · rw [if_neg q, List.drop_zero]
      refine find_and _ _ _ (fun x hx => ?_)
      rcases List.mem_cons.1 hx with rfl | hx
      · simp; omega
      · have := h.1 x hx
        simp; omega

theorem all_entsT (r : Rx) : r.all = r.entsT (-1) := by
  rw [← all_filter r (-1), if_neg (by omega)]
  symm
  rw [List.filter_eq_self]
  intro e _
  unfold selT
  simp

theorem next_same {r : Rx} (hr : r.check = 0 → r.fine) (f tag : Int) (hf : 0 ≤ f) (h1 : -1 ≤ tag) (h2 : tag ≤ 1) : nextE r.all (atE r.all f) tag = r.next f tag := by
  have hs : r.all.Pairwise (fun a b => a.i < b.i) := by rw [all_entsT]; exact entsT_sorted (-1) hr
  unfold nextE Rx.next
  rw [if_neg (by omega), ← all_filter r tag, if_neg (by omega), List.find?_filter]
  have e : (fun a : En => decide (selT tag a.t = true ∧ decide (f ≤ (a.i : Int)) = true)) = fun a => selT tag a.t && decide (f ≤ (a.i : Int)) := by
    funext a
    cases selT tag a.t <;> simp
  rw [e, find_at tag f r.all hs]
  generalize (r.all.drop (atE r.all f)).find? (fun e => selT tag e.t) = x
  cases x <;> rfl
end Go.Proofs.Ytmdmbnpgdkmklaa
