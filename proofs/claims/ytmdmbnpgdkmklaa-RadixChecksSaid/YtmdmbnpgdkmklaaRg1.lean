/- Radix trees as plain data ('Rx'); New, Few. -/
import Derived.Test.YtmdmbnpgdkmklaaRf2
import Derived.Test.YtmdmbnpgdkmklaaRv
import Derived.Test.YtmdmbnpgdkmklaaRq
namespace Go.Proofs.Ytmdmbnpgdkmklaa
open Go.RowKit
set_option linter.unusedVariables false
set_option linter.unusedSimpArgs false

structure Rx where
  h : Int
  root : Nd

/-- The cells 'c' are a tree. -/
def IsR (w : World) (r : Rx) (c : Array Value) : Prop := inI64 r.h ∧ ∃ nc, c = #[.int .i64 r.h] ++ nc ∧ IsN w r.root nc

theorem IsR.keeps {w w' : World} {r : Rx} {c : Array Value} (h : IsR w r c) (k : Keeps w w') : IsR w' r c :=
  ⟨h.1, let ⟨nc, e, hn⟩ := h.2; ⟨nc, e, hn.keeps k⟩⟩

theorem rowAt_tail {w : World} {b o : Nat} {x : Value} {nc : Array Value} (h : RowAt w b o (#[x] ++ nc)) : RowAt w b (o + 1) nc := fun i hi => by
  have := h (i + 1) (by simp; omega)
  rw [show o + 1 + i = o + (i + 1) by omega, this]
  simp [Array.getElem_append]

theorem rowAt_head {w : World} {b o : Nat} {x : Value} {nc : Array Value} (h : RowAt w b o (#[x] ++ nc)) : w.cell? ⟨b, o, none⟩ = some x := by
  have := h 0 (by simp; omega)
  simpa using this

/-- The zero tree. -/
def Rx.empty : Rx := ⟨0, Nd.zero⟩

theorem isN_zero (w : World) : IsN w Nd.zero #[.int .i64 0, .int .i64 0, .int .i64 0, .int .i64 0, .int .i64 0, .int .i64 0, .int .i64 0, .int .i64 0, .int .i64 0, .int .i64 0, .slice none 0 0] := by
  have z : inI64 0 := by unfold inI64; omega
  exact IsN.mk (w := w) [0, 0, 0, 0, 0, 0, 0, 0] 0 0 [] none 0 0 0 (fun _ => #[]) rfl (fun x hx => by simp at hx; subst hx; exact z) z z (fun h => absurd rfl h) (by simp) (by simp) (fun i hi => by simp at hi) (fun i hi => by simp at hi)

def emptyCells : Array Value := #[.int .i64 0, .int .i64 0, .int .i64 0, .int .i64 0, .int .i64 0, .int .i64 0, .int .i64 0, .int .i64 0, .int .i64 0, .int .i64 0, .int .i64 0, .slice none 0 0]

theorem isR_empty (w : World) : IsR w Rx.empty emptyCells := ⟨by unfold inI64 Rx.empty; simp, _, rfl, isN_zero w⟩

set_option maxRecDepth 100000 in
theorem New_spec (w : World) : Calls Try.prog 22 #[] w fun e w' => e = .returned (.agg emptyCells) ∧ Below w.heap.size w w' := by
  go_enter Try.func22, Try.ntmps22
  go_wp2_with fail
  exact bodyPost_ret (v := .agg emptyCells) (by simp [results, Try.results22, go_sem, emptyCells]) rfl ⟨rfl, (Below.refl _ _).alloc (Nat.le_refl _) _⟩

set_option maxRecDepth 100000 in
set_option maxHeartbeats 1000000 in
theorem Few_spec {w : World} {r : Rx} {c : Array Value} (h : IsR w r c) :
    Calls Try.prog 18 #[.agg c] w fun e w' => e = .returned (.bool r.root.few) ∧ Below w.heap.size w w' := by
  obtain ⟨hh, nc, rfl, hn⟩ := h
  have hrow := rowAt_tail (rowAt_new w (#[.int .i64 r.h] ++ nc) 28)
  have hs := hn.size
  have hk := Keeps.alloc w (.cells (#[.int .i64 r.h] ++ nc) 28)
  have hc := nodes_spec hn _ 400 hk (by omega) (by omega)
  have Hrow := Lib.hid hrow
  have Hc := Lib.hid hc
  have Hs := Lib.hid hs
  clear hrow hc hs hn hk
  go_enter Try.func18, Try.ntmps18
  go_wp2_with (first | (refine wpList_load_nd _ rfl rfl w.heap.size (0 + 1) rfl _ Hs.out Hrow.out ?_))
  (with_reducible refine Hc.out.mono ?_)
  rintro e w2 ⟨rfl, hB2⟩
  go_wp2_with fail
  go_ret
  exact ⟨rfl, ((Below.refl w.heap.size w).alloc (Nat.le_refl _) _).trans (hB2.mono (by simp))⟩
end Go.Proofs.Ytmdmbnpgdkmklaa
