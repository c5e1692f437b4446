/- Every index with a value is among the entries. -/
import Derived.Test.YtmdmbnpgdkmklaaRs11
namespace Go.Proofs.Ytmdmbnpgdkmklaa
open Go.RowKit
set_option linter.unusedVariables false
set_option linter.unusedSimpArgs false

theorem ents_has : ∀ (l : Nat) (n : Nd) (first i : Nat), i < 8 ^ (l + 1) → (n.look l i).1 ≠ 0 → ∃ e ∈ n.ents l first, e.i = first + i
  | 0, n, first, i, hi, h => by
    have hi8 : i < 8 := by simpa using hi
    have e1 : dig i 0 = i := by unfold dig; simp; omega
    simp only [Nd.look, e1] at h
    have h' : n.vs.getD i 0 ≠ 0 := h
    refine ⟨⟨first + i, n.vs.getD i 0, n.tagsAt i⟩, ?_, rfl⟩
    simp only [Nd.ents, List.mem_flatMap, List.mem_range]
    exact ⟨i, hi8, by rw [if_neg h']; exact List.mem_singleton.2 rfl⟩
  | l + 1, n, first, i, hi, h => by
    rw [Nd.look] at h
    have hna : ¬ (n.kid (dig i (l + 1))).absent = true := fun q => h (absent_look l _ i q)
    have hp : 0 < 8 ^ (l + 1) := Nat.pow_pos (by omega)
    rw [← look_mod l l _ i (Nat.le_refl _)] at h
    obtain ⟨e, he, hei⟩ := ents_has l _ (first + dig i (l + 1) * 8 ^ (l + 1)) (i % 8 ^ (l + 1)) (Nat.mod_lt _ hp) h
    refine ⟨e, ?_, ?_⟩
    · simp only [Nd.ents, List.mem_flatMap, List.mem_range]
      exact ⟨dig i (l + 1), dig_lt _ _, by rw [if_neg hna]; exact he⟩
    · have hd : dig i (l + 1) = i / 8 ^ (l + 1) := by
        unfold dig
        exact Nat.mod_eq_of_lt (Nat.div_lt_of_lt_mul (by rw [← Nat.pow_succ]; exact hi))
      rw [hei, hd]
      have := Nat.div_add_mod i (8 ^ (l + 1))
      rw [Nat.mul_comm] at this
      omega
end Go.Proofs.Ytmdmbnpgdkmklaa
