/- A tree that came in as an argument is a plain tree. -/
import Derived.Test.YtmdmbnpgdkmklaaSb
import Derived.ProofKit
import Derived.Deep.Strs
import Derived.OpenShut
namespace Go.Proofs.Ytmdmbnpgdkmklaa
open Go.ChangeShapes Go.WideShapes Go.ChangeAt Go.RowKit
set_option linter.unusedVariables false
set_option linter.unusedSimpArgs false

theorem cells3 : Try.prog.cellsOf 3 = 1 := by kernel_rfl
theorem cells22 : Try.prog.cellsOf 22 = 8 := by kernel_rfl
theorem cells23 : Try.prog.cellsOf 23 = 2 := by kernel_rfl
theorem cells24 : Try.prog.cellsOf 24 = 1 := by kernel_rfl
theorem cells26 : Try.prog.cellsOf 26 = 11 := by kernel_rfl
theorem cells28 : Try.prog.cellsOf 28 = 12 := by kernel_rfl

theorem list2 {α : Type} {l : List α} (h : l.length = 2) : ∃ a b, l = [a, b] := by
  match l, h with
  | [a, b], _ => exact ⟨a, b, rfl⟩

section
variable {H : Type} {enc : TypeId × Value → H} {w : World} {base : Nat} {spare : Nat → Bool} {held : Bool}

theorem ints_of_trod {n t : Nat} {fuel : Nat} {cs : List Value} {x : DataW H × List MemPlace} (ht : Try.prog.underlying t = some (.array n 3)) (hc : Try.prog.cellsOf t = n) (h : DataW.trod enc Try.prog w base spare held fuel t cs = some x) :
    ∃ v : List Int, v.length = n ∧ (∀ x ∈ v, inI64 x) ∧ cs = v.map (Value.int .i64) := by
  obtain ⟨xs, m, rfl, hx, hl, hxl, hf⟩ := DataW.trod_array ht h
  rw [hc] at hl
  rw [cells3] at hf
  have hel : ∀ i (hi : i < n), ∃ k : Int, cs[i]? = some (.int .i64 k) ∧ inI64 k := by
    intro i hi
    have h1 := hf i hi
    rw [List.getElem?_eq_getElem (by omega)] at h1
    obtain ⟨k, hk, _, hw⟩ := DataW.trod_int Try.underlying3 h1
    refine ⟨k, ?_, ?_⟩
    · have h2 : ((cs.drop (i * 1)).take 1)[0]? = some (.int .i64 k) := by rw [hk]; rfl
      rw [List.getElem?_take_of_lt (by omega), List.getElem?_drop] at h2
      simpa using h2
    · simp [Lit.wf, IntKind.min, IntKind.max, IntKind.signed, IntKind.bits] at hw
      exact ⟨by omega, by omega⟩
  obtain ⟨f, hfv⟩ := Go.Deep.choose_lt (α := Int) (p := fun i k => cs[i]? = some (.int .i64 k) ∧ inI64 k) hel
  refine ⟨(List.range n).map f, by simp, ?_, ?_⟩
  · intro x hx
    rw [List.mem_map] at hx
    obtain ⟨i, hi, rfl⟩ := hx
    exact (hfv i (by simpa using hi)).2
  · apply List.ext_getElem?
    intro i
    by_cases hi : i < n
    · rw [(hfv i hi).1]; simp [hi]
    · rw [List.getElem?_eq_none (by omega), List.getElem?_eq_none (by simp; omega)]

set_option maxRecDepth 100000 in
theorem node_of_trod (fuel : Nat) : ∀ (cs : List Value) (x : DataW H × List MemPlace), DataW.trod enc Try.prog w base spare held fuel 26 cs = some x → ∃ n, IsN w n cs.toArray := by
  induction fuel using Nat.strongRecOn with
  | _ fuel ih =>
    intro cs x h
    obtain ⟨xs, n, rfl, hx, hl, hlen, hf⟩ := DataW.trod_struct Try.underlying26 h
    rw [cells26] at hl
    replace hlen : xs.length = 3 := hlen
    have h0 : DataW.trod enc Try.prog w base spare held n 22 ((cs.drop 0).take (Try.prog.cellsOf 22)) = xs[0]? := hf 0 _ rfl
    have h1 : DataW.trod enc Try.prog w base spare held n 23 ((cs.drop 8).take (Try.prog.cellsOf 23)) = xs[1]? := hf 1 _ rfl
    have h2 : DataW.trod enc Try.prog w base spare held n 24 ((cs.drop 10).take (Try.prog.cellsOf 24)) = xs[2]? := hf 2 _ rfl
    rw [List.getElem?_eq_getElem (by omega)] at h0 h1 h2
    rw [cells22] at h0
    rw [cells23] at h1
    rw [cells24] at h2
    obtain ⟨v, hv8, hvb, hv⟩ := ints_of_trod Try.underlying22 cells22 h0
    obtain ⟨t, ht2, htb, ht⟩ := ints_of_trod Try.underlying23 cells23 h1
    obtain ⟨t0, t1, rfl⟩ := list2 ht2
    have hcs : ∀ s, (cs.drop 10).take 1 = [s] → cs.toArray = ndCells v t0 t1 s := fun s hs => by
      unfold ndCells
      congr 1
      have e1 : cs = cs.take 8 ++ ((cs.drop 8).take 2 ++ (cs.drop 10).take 1) := by
        apply List.ext_getElem?
        intro i
        by_cases q1 : i < 8
        · rw [List.getElem?_append_left (by simp; omega), List.getElem?_take_of_lt q1]
        · rw [List.getElem?_append_right (by simp; omega)]
          simp only [List.length_take, hl]
          rw [show i - min 8 11 = i - 8 by omega]
          by_cases q2 : i < 10
          · rw [List.getElem?_append_left (by simp; omega), List.getElem?_take_of_lt (by omega), List.getElem?_drop, show 8 + (i - 8) = i by omega]
          · rw [List.getElem?_append_right (by simp; omega)]
            simp only [List.length_take, List.length_drop, hl]
            by_cases q3 : i < 11
            · rw [List.getElem?_take_of_lt (by omega), List.getElem?_drop]; congr 1; omega
            · rw [List.getElem?_eq_none (by omega), List.getElem?_eq_none (by simp; omega)]
      rw [e1, ht, hs, show cs.take 8 = v.map (Value.int .i64) by rw [← hv]; simp]
      rfl
    rcases DataW.trod_slice Try.underlying24 h2 with ⟨hs, _⟩ | ⟨a, len, cap, elems, rest, m, hm, hs, _, hb, hlc, hcm, hel, hk, _, _⟩
    · refine ⟨.mk v t0 t1 [], ?_⟩
      rw [hcs _ hs]
      exact IsN.mk v t0 t1 [] none 0 0 0 (fun _ => #[]) hv8 hvb (htb _ (by simp)) (htb _ (by simp)) (fun h => absurd rfl h) (by simp) (by simp) (fun i hi => by simp at hi) (fun i hi => by simp at hi)
    · have hkid : ∀ i, i < len → ∃ y : Nd × Array Value, (∀ q, q < 11 → w.cell? (a.add (i * 11) |>.add q) = y.2[q]?) ∧ y.2.size = 11 ∧ IsN w y.1 y.2 := by
        intro i hi
        have h3 := hk i hi
        rw [List.getElem?_eq_getElem (by omega), cells26] at h3
        obtain ⟨c, hc, hc2⟩ := Option.bind_eq_some_iff.1 h3
        obtain ⟨_, hcl, hcell⟩ := World.cells?_some hc
        obtain ⟨n, hn⟩ := ih m (by omega) c _ hc2
        exact ⟨(n, c.toArray), fun q hq => by rw [hcell q hq]; simp, by simpa using hcl, hn⟩
      haveI : Inhabited (Nd × Array Value) := ⟨(Nd.zero, #[])⟩
      obtain ⟨f, hf⟩ := Go.Deep.choose_lt (α := Nd × Array Value) (p := fun i y => (∀ q, q < 11 → w.cell? (a.add (i * 11) |>.add q) = y.2[q]?) ∧ y.2.size = 11 ∧ IsN w y.1 y.2) hkid
      refine ⟨.mk v t0 t1 ((List.range len).map fun i => (f i).1), ?_⟩
      have ha : len ≠ 0 → a = ⟨a.block, a.off, none⟩ := fun hz => by
        have h4 := (hf 0 (by omega)).1 0 (by omega)
        rw [Array.getElem?_eq_getElem (by have := (hf 0 (by omega)).2.1; omega)] at h4
        obtain ⟨ab, ao, asp⟩ := a
        cases asp with
        | none => rfl
        | some k =>
          simp [Addr.add, World.cell?] at h4
          split at h4 <;> simp at h4
      rw [hcs _ hs]
      have hlen2 : ((List.range len).map fun i => (f i).1).length = len := by simp
      have := IsN.mk (w := w) v t0 t1 ((List.range len).map fun i => (f i).1) (some a) a.block a.off cap (fun i => (f i).2) hv8 hvb (htb _ (by simp)) (htb _ (by simp))
        (fun h => by
          have hz : len ≠ 0 := fun e => h (by simp [e])
          rw [ha hz])
        (by rw [hlen2]; unfold maxLen at hcm; omega) (by rw [hlen2]; unfold maxLen at hcm; omega)
        (fun i hi q hq => by
          rw [hlen2] at hi
          have h5 := hf i hi
          have := h5.1 q (by have := h5.2.1; omega)
          rw [Array.getElem?_eq_getElem hq] at this
          rw [← this, ha (by omega)]
          simp only [Addr.add]
          by_cases e1 : i * 11 = 0 <;> by_cases e2 : q = 0 <;> simp [e1, e2, Nat.add_assoc])
        (fun i hi => by
          rw [hlen2] at hi
          simp only [List.getElem_map, List.getElem_range]
          exact (hf i hi).2.2)
      rw [hlen2] at this
      exact this

set_option maxRecDepth 100000 in
theorem tree_of_trod {r : Reach} {b0 : Nat} {v : Value} {d : DataW H} {ps : List MemPlace} (hval : Value.okWide Try.prog w r b0 28 v) (h : DataW.Trod enc Try.prog w base spare held 28 v d ps) : ∃ (x : Rx) (c : Array Value), v = .agg c ∧ IsR w x c := by
  obtain ⟨c, rfl, hc⟩ := okWide_struct Try.underlying28 hval
  rw [cells28] at hc
  obtain ⟨fuel, hd⟩ := h
  have hd : DataW.trod enc Try.prog w base spare held fuel 28 c.toList = some (d, ps) := hd
  obtain ⟨xs, n, rfl, hx, hl, hlen, hf⟩ := DataW.trod_struct Try.underlying28 hd
  replace hlen : xs.length = 2 := hlen
  have h0 : DataW.trod enc Try.prog w base spare held n 3 ((c.toList.drop 0).take (Try.prog.cellsOf 3)) = xs[0]? := hf 0 _ rfl
  have h1 : DataW.trod enc Try.prog w base spare held n 26 ((c.toList.drop 1).take (Try.prog.cellsOf 26)) = xs[1]? := hf 1 _ rfl
  rw [List.getElem?_eq_getElem (by omega)] at h0 h1
  rw [cells3] at h0
  rw [cells26] at h1
  obtain ⟨k, hk, _, hw⟩ := DataW.trod_int Try.underlying3 h0
  obtain ⟨nd, hn⟩ := node_of_trod _ _ _ h1
  have hk64 : inI64 k := by
    simp [Lit.wf, IntKind.min, IntKind.max, IntKind.signed, IntKind.bits] at hw
    exact ⟨by omega, by omega⟩
  refine ⟨⟨k, nd⟩, c, rfl, hk64, _, ?_, hn⟩
  have hcl : c.toList.length = 12 := by simpa using hc
  have e1 : c.toList = c.toList.take 1 ++ (c.toList.drop 1).take 11 := by
    rw [List.take_of_length_le (l := c.toList.drop 1) (by simp; omega), List.take_append_drop]
  have e2 : c = (c.toList.take 1 ++ (c.toList.drop 1).take 11).toArray := by rw [← e1]
  rw [List.drop_zero] at hk
  rw [hk] at e2
  refine e2.trans ?_
  simp

end
end Go.Proofs.Ytmdmbnpgdkmklaa
