/- radix.Set: the walk. -/
import Derived.Test.YtmdmbnpgdkmklaaRl5
import Derived.Test.YtmdmbnpgdkmklaaRj2
import Derived.Deep.CutRange
import Derived.Deep.RegionWith
namespace Go.Proofs.Ytmdmbnpgdkmklaa
open Go.RowKit
set_option linter.unusedVariables false
set_option linter.unusedSimpArgs false

/-- The cells c are a tree whose nodes lie in blocks of the call's own, from block B on. -/
def OwnR (w : World) (B : Nat) (r : Rx) (c : Array Value) : Prop := inI64 r.h ∧ ∃ nc S, c = #[.int .i64 r.h] ++ nc ∧ Owns w r.root nc S ∧ ∀ k, S k → B ≤ k

theorem OwnR.isR {w : World} {B : Nat} {r : Rx} {c : Array Value} (h : OwnR w B r c) : IsR w r c := by
  obtain ⟨hh, nc, S, rfl, ho, hS⟩ := h
  exact ⟨hh, nc, rfl, ho.isN⟩
theorem OwnR.mono {w : World} {B B' : Nat} {r : Rx} {c : Array Value} (h : OwnR w B r c) (hb : B' ≤ B) : OwnR w B' r c := by
  obtain ⟨hh, nc, S, rfl, ho, hS⟩ := h
  exact ⟨hh, nc, S, rfl, ho, fun k hk => Nat.le_trans hb (hS k hk)⟩
theorem OwnR.put {w : World} {B b : Nat} {r : Rx} {c : Array Value} (h : OwnR w B r c) (hb : b < B) (c' : Array Value) : OwnR (w.setRow b c') B r c := by
  obtain ⟨hh, nc, S, rfl, ho, hS⟩ := h
  exact ⟨hh, nc, S, rfl, ho.other (g := b) (fun h => by have := hS _ h; omega) (fun j hj => setRow_other w b j c' hj), hS⟩
theorem ownR_empty (w : World) (B : Nat) : OwnR w B Rx.empty emptyCells := ⟨by unfold inI64 Rx.empty; simp, zeroNd, _, rfl, owns_zero w, fun k hk => hk.elim⟩
theorem OwnR.size {w : World} {B : Nat} {r : Rx} {c : Array Value} (h : OwnR w B r c) : c.size = 12 := by
  obtain ⟨hh, nc, S, rfl, ho, hS⟩ := h
  have := ho.size
  simp; omega
theorem OwnR.one {w : World} {B : Nat} {r : Rx} {c : Array Value} (h : OwnR w B r c) : c.all (·.oneCell') = true := by
  obtain ⟨hh, nc, S, rfl, ho, hS⟩ := h
  rw [Array.all_append, ho.isN.one]
  simp [Value.oneCell']

/-- A call that gives back a tree and an error. -/
def RPost (w : World) (x : Rx × Int) (e : Ending) (w' : World) : Prop :=
  (∃ c', e = .returned (.tuple #[.agg c', .int .i64 x.2]) ∧ OwnR w' w.heap.size x.1 c') ∧ Below w.heap.size w w'

/-- A tree of the call's own, behind the blocks of w0. -/
def SetAt (w0 : World) (g h : Nat) (n : Nd) (w : World) : Prop :=
  ∃ S, TreeAt w g h n S ∧ (∀ k, S k → w0.heap.size ≤ k) ∧ w0.heap.size ≤ g ∧ Below w0.heap.size w0 w

theorem boxes3 (w : World) (A B C : Obj) : Below w.heap.size w (((w.alloc A).alloc B).alloc C) ∧ (((w.alloc A).alloc B).alloc C).heap.size = w.heap.size + 3 ∧
    (((w.alloc A).alloc B).alloc C).heap[w.heap.size]? = some A ∧ (((w.alloc A).alloc B).alloc C).heap[w.heap.size + 1]? = some B ∧ (((w.alloc A).alloc B).alloc C).heap[w.heap.size + 2]? = some C :=
  ⟨(((Below.refl _ _).alloc (Nat.le_refl _) _).alloc (by simp) _).alloc (by simp; omega) _, by simp, heap_alloc_old3 w A B C⟩

set_option maxRecDepth 100000 in
set_option maxHeartbeats 8000000 in
theorem Set_err {w : World} {r : Rx} {c : Array Value} {i v : Int} (h : IsR w r c) (hi : inI64 i) (hv : inI64 v) (hc : r.check ≠ 0 ∨ i < 0 ∨ 1073741824 ≤ i) :
    Calls Try.prog 24 #[.agg c, .int .i64 i, .int .i64 v] w (RPost w (Rx.empty, if r.check ≠ 0 then r.check else 2)) := by
  obtain ⟨ck, hck⟩ : ∃ ck, r.check = ck := ⟨_, rfl⟩
  have hR := h
  have hch := fun (W : World) (k : Keeps w W) => Check_spec (h.keeps k)
  rw [hck] at hch hc ⊢
  obtain ⟨hh, nc, rfl, hn0⟩ := h
  obtain ⟨x0, x1, x2, x3, x4, x5, x6, x7, xp, xl, xc, rfl⟩ := hn0.lit
  simp only [List.append_toArray, List.cons_append, List.nil_append] at hch ⊢
  have Hch := Lib.hid hch
  have Hc := Lib.hid hc
  clear hch hn0 hh hck hR hc
  unfold inI64 at hi hv
  obtain ⟨hi1, hi2⟩ := hi
  obtain ⟨hv1, hv2⟩ := hv
  have hone : emptyCells.all (·.oneCell') = true := by simp [emptyCells, Value.oneCell']
  have hsz28 : (Try.prog.info? 28).map (·.size) = some emptyCells.size := size28
  have hb3 := boxes3 w (.cells #[.int .i64 r.h, .int .i64 x0, .int .i64 x1, .int .i64 x2, .int .i64 x3, .int .i64 x4, .int .i64 x5, .int .i64 x6, .int .i64 x7, .int .i64 r.root.t0, .int .i64 r.root.t1, .slice xp xl xc] 28) (.cells #[.int .i64 v] 3) (.cells emptyCells 28)
  have Hb3 := Lib.hid hb3
  clear hb3
  by_cases h0 : ck = 0
  · subst h0
    have hor : (decide (i < 0) = true) ∨ (decide (i < 0) = false ∧ decide (1073741824 ≤ i) = true) := by
      have := Hc.out.resolve_left (fun h => h rfl)
      by_cases q : i < 0
      · exact .inl (by simpa using q)
      · exact .inr ⟨by simpa using q, by simpa using this.resolve_left q⟩
    rw [if_neg (by simp)]
    rcases hor with hx | ⟨hx, hy⟩
    · go_enter Try.func24, Try.ntmps24
      go_wp2_with fail
      (with_reducible refine (Hch.out _ ((Keeps.alloc _ _).trans ((Keeps.alloc _ _).trans (Keeps.alloc _ _)))).mono ?_)
      rintro e w2 ⟨rfl, hB2⟩
      have hg : w2.heap[w.heap.size + 2]? = some (.cells emptyCells 28 (0, 0)) := (hB2.block (w.heap.size + 2) (by simp)).trans Hb3.out.2.2.2.2
      have hbb : Below w.heap.size w w2 := Hb3.out.1.trans (hB2.mono (by simp; omega))
      have Hg := Lib.hid hg
      clear hg hB2
      go_wp2_with (first | (refine wpList_store_row (by rfl) 28 (.tmp 6) (.tmp 24) (by rfl) (w.heap.size + 2) emptyCells (by rfl) (by rfl) 28 _ (by with_reducible exact Hg.out) hsz28 (by rfl) hone ?_))
      exact bodyPost_ret (results_cell_tmp rfl _ _ (w.heap.size + 2) _ rfl (load28 (setRow_heap _ _ _ _ _ _ Hg.out) rfl)) rfl ⟨⟨_, rfl, ownR_empty _ _⟩, Below.putRow hbb (by omega) _⟩
    · go_enter Try.func24, Try.ntmps24
      go_wp2_with fail
      (with_reducible refine (Hch.out _ ((Keeps.alloc _ _).trans ((Keeps.alloc _ _).trans (Keeps.alloc _ _)))).mono ?_)
      rintro e w2 ⟨rfl, hB2⟩
      have hg : w2.heap[w.heap.size + 2]? = some (.cells emptyCells 28 (0, 0)) := (hB2.block (w.heap.size + 2) (by simp)).trans Hb3.out.2.2.2.2
      have hbb : Below w.heap.size w w2 := Hb3.out.1.trans (hB2.mono (by simp; omega))
      have Hg := Lib.hid hg
      clear hg hB2
      go_wp2_with (first | (refine wpList_store_row (by rfl) 28 (.tmp 6) (.tmp 24) (by rfl) (w.heap.size + 2) emptyCells (by rfl) (by rfl) 28 _ (by with_reducible exact Hg.out) hsz28 (by rfl) hone ?_))
      exact bodyPost_ret (results_cell_tmp rfl _ _ (w.heap.size + 2) _ rfl (load28 (setRow_heap _ _ _ _ _ _ Hg.out) rfl)) rfl ⟨⟨_, rfl, ownR_empty _ _⟩, Below.putRow hbb (by omega) _⟩
  · rw [if_pos h0]
    have h0' : (ck == 0) = false := by simpa using h0
    go_enter Try.func24, Try.ntmps24
    go_wp2_with fail
    (with_reducible refine (Hch.out _ ((Keeps.alloc _ _).trans ((Keeps.alloc _ _).trans (Keeps.alloc _ _)))).mono ?_)
    rintro e w2 ⟨rfl, hB2⟩
    have hg : w2.heap[w.heap.size + 2]? = some (.cells emptyCells 28 (0, 0)) := (hB2.block (w.heap.size + 2) (by simp)).trans Hb3.out.2.2.2.2
    have hbb : Below w.heap.size w w2 := Hb3.out.1.trans (hB2.mono (by simp; omega))
    have Hg := Lib.hid hg
    clear hg hB2
    go_wp2_with (first | (refine wpList_store_row (by rfl) 28 (.tmp 6) (.tmp 16) (by rfl) (w.heap.size + 2) emptyCells (by rfl) (by rfl) 28 _ (by with_reducible exact Hg.out) hsz28 (by rfl) hone ?_))
    exact bodyPost_ret (results_cell_tmp rfl _ _ (w.heap.size + 2) _ rfl (load28 (setRow_heap _ _ _ _ _ _ Hg.out) rfl)) rfl ⟨⟨_, rfl, ownR_empty _ _⟩, Below.putRow hbb (by omega) _⟩
end Go.Proofs.Ytmdmbnpgdkmklaa
