/- A slice of uint16 that came in as an argument is a list of numbers. -/
import Derived.Test.YtmdmbnpgdkmklaaRm5
import Derived.Test.YtmdmbnpgdkmklaaRn1
namespace Go.Proofs.Ytmdmbnpgdkmklaa
open Go.ChangeShapes Go.WideShapes Go.ChangeAt Go.RowKit
set_option linter.unusedVariables false
set_option linter.unusedSimpArgs false

theorem cells39 : Try.prog.cellsOf 39 = 1 := by kernel_rfl

section
variable {H : Type} {enc : TypeId × Value → H} {w : World} {base : Nat} {spare : Nat → Bool} {held : Bool}

set_option maxRecDepth 100000 in
theorem u16s_of_trod {r : Reach} {b0 : Nat} {v : Value} {d : DataW H} {ps : List MemPlace} (hval : Value.okWide Try.prog w r b0 38 v) (h : DataW.Trod enc Try.prog w base spare held 38 v d ps) : ∃ zs, U16s w v zs := by
  obtain ⟨a, len, cap, rfl⟩ := okWide_slice Try.underlying38 hval
  obtain ⟨fuel, hd⟩ := h
  have hd : DataW.trod enc Try.prog w base spare held fuel 38 [.slice a len cap] = some (d, ps) := hd
  rcases DataW.trod_slice Try.underlying38 hd with ⟨hs, _⟩ | ⟨a', len', cap', elems, rest, m, hm, hs, _, hb, hlc, hcm, hel, hk, _, _⟩
  · simp only [List.cons.injEq, Value.slice.injEq, and_true] at hs
    obtain ⟨rfl, rfl, rfl⟩ := hs
    exact ⟨[], none, 0, rfl, fun h => absurd rfl h, by simp, by simp, by unfold maxLen; omega⟩
  · simp only [List.cons.injEq, Value.slice.injEq, and_true] at hs
    obtain ⟨rfl, rfl, rfl⟩ := hs
    have hkid : ∀ i, i < len → ∃ z : Nat, w.cell? (a'.add i) = some (.int .u16 (z : Int)) ∧ z < 65536 := by
      intro i hi
      have h3 := hk i hi
      rw [List.getElem?_eq_getElem (by omega), cells39] at h3
      obtain ⟨c, hc, hc2⟩ := Option.bind_eq_some_iff.1 h3
      obtain ⟨_, hcl, hcell⟩ := World.cells?_some hc
      obtain ⟨z, rfl, _, hw⟩ := DataW.trod_int Try.underlying39 hc2
      have h0 := hcell 0 (by omega)
      simp [Lit.wf, IntKind.min, IntKind.max, IntKind.signed, IntKind.bits] at hw
      obtain ⟨k, rfl⟩ := Int.eq_ofNat_of_zero_le hw.1
      refine ⟨k, ?_, by omega⟩
      rw [Nat.mul_one] at h0
      have e : (a'.add i).add 0 = a'.add i := by simp [Addr.add]
      rw [e] at h0
      simpa using h0
    obtain ⟨f, hf⟩ := Go.Deep.choose_lt (α := Nat) (p := fun i z => w.cell? (a'.add i) = some (.int .u16 (z : Int)) ∧ z < 65536) hkid
    refine ⟨(List.range len).map f, some a', cap, by simp, fun hne => ?_, ?_, by simpa using hlc, hcm⟩
    · have hz : len ≠ 0 := fun e => hne (by simp [e])
      have ha : a' = ⟨a'.block, a'.off, none⟩ := by
        have h4 := (hf 0 (by omega)).1
        obtain ⟨ab, ao, asp⟩ := a'
        cases asp with
        | none => rfl
        | some k =>
          simp [Addr.add, World.cell?] at h4
          split at h4 <;> simp at h4
      refine ⟨a'.block, a'.off, by rw [← ha], fun i hi => ?_⟩
      simp only [List.length_map, List.length_range] at hi
      have := (hf i hi).1
      simp only [List.getElem_map, List.getElem_range]
      rw [← this, ha]
      simp only [Addr.add]
      by_cases e : i = 0 <;> simp [e]
    · intro z hz
      rw [List.mem_map] at hz
      obtain ⟨i, hi, rfl⟩ := hz
      exact (hf i (by simpa using hi)).2
end
end Go.Proofs.Ytmdmbnpgdkmklaa
