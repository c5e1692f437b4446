/- Bits of a tag mask: which mask has which bits. -/
import Derived.Test.YtmdmbnpgdkmklaaSf
import Derived.Test.YtmdmbnpgdkmklaaRf3
namespace Go.Proofs.Ytmdmbnpgdkmklaa
open Go.RowKit
set_option linter.unusedVariables false
set_option linter.unusedSimpArgs false

theorem tb_nat (t i : Nat) : tb (t : Int) i = t.testBit i := by
  unfold tb
  rw [and1, Nat.testBit_eq_decide_div_mod_eq]
  have : ((t : Int) / 2 ^ i) % 2 = ((t / 2 ^ i % 2 : Nat) : Int) := by simp
  rw [this]
  by_cases h : t / 2 ^ i % 2 = 1
  · simp [h]
  · have : t / 2 ^ i % 2 = 0 := by omega
    simp [this]

theorem tag_ext {t u : Int} (ht : tagOk t = true) (hu : tagOk u = true) (h : ∀ i, i < 8 → tb t i = tb u i) : t = u := by
  rw [tagOk_iff] at ht hu
  obtain ⟨a, rfl⟩ := Int.eq_ofNat_of_zero_le ht.1
  obtain ⟨b, rfl⟩ := Int.eq_ofNat_of_zero_le hu.1
  have : a = b := by
    apply Nat.eq_of_testBit_eq
    intro i
    by_cases hi : i < 8
    · rw [← tb_nat, ← tb_nat]; exact h i hi
    · rw [Nat.testBit_lt_two_pow, Nat.testBit_lt_two_pow]
      · have := Nat.pow_le_pow_right (n := 2) (by omega) (show 8 ≤ i by omega); omega
      · have := Nat.pow_le_pow_right (n := 2) (by omega) (show 8 ≤ i by omega); omega
  rw [this]

theorem tag_zero {t : Int} (ht : tagOk t = true) (h : ∀ i, i < 8 → tb t i = false) : t = 0 :=
  tag_ext ht (by decide) (fun i hi => by rw [h i hi]; symm; have := tb_nat 0 i; simpa using this)

set_option maxRecDepth 100000 in
theorem tset_all : ∀ t : Fin 256, ∀ d : Fin 8, ∀ on : Bool, tagOk (tset (t.val : Int) d.val on) = true ∧ ∀ k : Fin 8, tb (tset (t.val : Int) d.val on) k.val = if k = d then on else tb (t.val : Int) k.val := by
  decide +kernel

theorem tset_ok {t : Int} (ht : tagOk t = true) {d : Nat} (hd : d < 8) (on : Bool) : tagOk (tset t d on) = true ∧ ∀ k, k < 8 → tb (tset t d on) k = if k = d then on else tb t k := by
  rw [tagOk_iff] at ht
  obtain ⟨a, rfl⟩ := Int.eq_ofNat_of_zero_le ht.1
  have h := tset_all ⟨a, by omega⟩ ⟨d, hd⟩ on
  refine ⟨h.1, fun k hk => ?_⟩
  have := h.2 ⟨k, hk⟩
  simp only [Fin.mk.injEq] at this
  exact this

theorem tclr_ok {t : Int} (ht : tagOk t = true) {d : Nat} (hd : d < 8) : tagOk (tclr t d) = true ∧ ∀ k, k < 8 → tb (tclr t d) k = if k = d then false else tb t k := tset_ok ht hd false

theorem tb_any {t : Int} (ht : tagOk t = true) : (t != 0) = (List.range 8).any (tb t) := by
  by_cases h : t = 0
  · subst h; decide
  · have : ∃ i, i < 8 ∧ tb t i = true := Classical.byContradiction fun hn => h (tag_zero ht (fun i hi => by
      cases q : tb t i with
      | false => rfl
      | true => exact absurd ⟨i, hi, q⟩ hn))
    obtain ⟨i, hi, hq⟩ := this
    rw [show (t != 0) = true by simpa using h]
    symm
    rw [List.any_eq_true]
    exact ⟨i, by simpa using hi, hq⟩
end Go.Proofs.Ytmdmbnpgdkmklaa
