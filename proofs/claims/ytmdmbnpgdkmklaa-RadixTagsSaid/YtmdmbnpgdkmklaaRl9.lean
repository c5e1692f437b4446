/- radix.mark: the walk. -/
import Derived.Test.YtmdmbnpgdkmklaaRl8
namespace Go.Proofs.Ytmdmbnpgdkmklaa
open Go.RowKit
set_option linter.unusedVariables false
set_option linter.unusedSimpArgs false

def Rx.mark (r : Rx) (i tag : Int) (on : Bool) : Rx × Int :=
  if r.check ≠ 0 then (Rx.empty, r.check) else if i < 0 ∨ 1073741824 ≤ i then (Rx.empty, 2)
  else if tag < 0 ∨ 1 < tag then (Rx.empty, 1) else if r.get i = 0 then (Rx.empty, 6)
  else (⟨r.h, r.root.upd (markChg tag.toNat on) (r.h.toNat - 1) i.toNat⟩, 0)

theorem boxes4 (w : World) (A B C D : Obj) : Below w.heap.size w ((((w.alloc A).alloc B).alloc C).alloc D) ∧ ((((w.alloc A).alloc B).alloc C).alloc D).heap.size = w.heap.size + 4 ∧
    ((((w.alloc A).alloc B).alloc C).alloc D).heap[w.heap.size]? = some A ∧ ((((w.alloc A).alloc B).alloc C).alloc D).heap[w.heap.size + 1]? = some B ∧ ((((w.alloc A).alloc B).alloc C).alloc D).heap[w.heap.size + 2]? = some C ∧ ((((w.alloc A).alloc B).alloc C).alloc D).heap[w.heap.size + 3]? = some D := by
  obtain ⟨h1, h2, h3, h4, h5⟩ := boxes3 w A B C
  have hD : Below (((w.alloc A).alloc B).alloc C).heap.size (((w.alloc A).alloc B).alloc C) ((((w.alloc A).alloc B).alloc C).alloc D) := (Below.refl _ _).alloc (Nat.le_refl _) _
  have hn := heap_alloc_new (((w.alloc A).alloc B).alloc C) D
  rw [h2] at hn hD
  exact ⟨h1.trans (hD.mono (by omega)), by simp, (hD.block _ (by omega)).trans h3, (hD.block _ (by omega)).trans h4, (hD.block _ (by omega)).trans h5, hn⟩

/-- The errors of mark: what is refused, and with what. -/
def markErr (ck gv i tag : Int) : Int := if ck ≠ 0 then ck else if i < 0 ∨ 1073741824 ≤ i then 2 else if tag < 0 ∨ 1 < tag then 1 else if gv = 0 then 6 else 0


set_option maxRecDepth 100000 in
set_option maxHeartbeats 8000000 in
theorem mark_err {w : World} {r : Rx} {c : Array Value} {i tag : Int} {on : Bool} (h : IsR w r c) (hi : inI64 i) (ht : inI64 tag) (hc : r.check ≠ 0 ∨ (i < 0 ∨ 1073741824 ≤ i) ∨ tag < 0 ∨ 1 < tag) :
    Calls Try.prog 87 #[.agg c, .int .i64 i, .int .i64 tag, .bool on] w (RPost w (Rx.empty, markErr r.check 1 i tag)) := by
  obtain ⟨ck, hck⟩ : ∃ ck, r.check = ck := ⟨_, rfl⟩
  have hch := fun (W : World) (k : Keeps w W) => Check_spec (h.keeps k)
  rw [hck] at hch hc ⊢
  obtain ⟨hh, nc, rfl, hn0⟩ := h
  obtain ⟨x0, x1, x2, x3, x4, x5, x6, x7, xp, xl, xc, rfl⟩ := hn0.lit
  simp only [List.append_toArray, List.cons_append, List.nil_append] at hch ⊢
  have Hch := Lib.hid hch
  have Hc := Lib.hid hc
  clear hch hn0 hh hck hc
  unfold inI64 at hi ht
  obtain ⟨hi1, hi2⟩ := hi
  obtain ⟨ht1, ht2⟩ := ht
  have hone : emptyCells.all (·.oneCell') = true := by simp [emptyCells, Value.oneCell']
  have hsz28 : (Try.prog.info? 28).map (·.size) = some emptyCells.size := size28
  have hb3 := boxes4 w (.cells #[.int .i64 r.h, .int .i64 x0, .int .i64 x1, .int .i64 x2, .int .i64 x3, .int .i64 x4, .int .i64 x5, .int .i64 x6, .int .i64 x7, .int .i64 r.root.t0, .int .i64 r.root.t1, .slice xp xl xc] 28) (.cells #[.int .i64 tag] 3) (.cells #[.bool on] 4) (.cells emptyCells 28)
  have Hb3 := Lib.hid hb3
  clear hb3
  by_cases h0 : ck = 0
  · subst h0
    by_cases hir : i < 0 ∨ 1073741824 ≤ i
    · have hme : markErr 0 1 i tag = 2 := by unfold markErr; rw [if_neg (by simp), if_pos hir]
      rw [hme]
      clear hme
      by_cases hx : i < 0
      · go_enter Try.func87, Try.ntmps87
        go_wp2_with fail
        (with_reducible refine (Hch.out _ ((Keeps.alloc _ _).trans ((Keeps.alloc _ _).trans ((Keeps.alloc _ _).trans (Keeps.alloc _ _))))).mono ?_)
        rintro e w2 ⟨rfl, hB2⟩
        have hg : w2.heap[w.heap.size + 3]? = some (.cells emptyCells 28 (0, 0)) := (hB2.block (w.heap.size + 3) (by simp)).trans Hb3.out.2.2.2.2.2
        have hbb : Below w.heap.size w w2 := Hb3.out.1.trans (hB2.mono (by simp; omega))
        have hct : w2.cell? ⟨w.heap.size + 1, 0, none⟩ = some (.int .i64 tag) := (hB2.cell (p := ⟨w.heap.size + 1, 0, none⟩) (by simp)).trans (cell_of_row _ _ 0 _ _ _ Hb3.out.2.2.2.1)
        have Hg := Lib.hid hg
        clear hg hB2
        go_wp2_with (first | (refine wpList_store_row (by rfl) 28 (.tmp 8) (.tmp 26) (by rfl) (w.heap.size + 3) emptyCells (by rfl) (by rfl) 28 _ (by with_reducible exact Hg.out) hsz28 (by rfl) hone ?_))
        exact bodyPost_ret (results_cell_tmp (p := 8) (q := 9) rfl _ _ (w.heap.size + 3) _ rfl (load28 (setRow_heap _ _ _ _ _ _ Hg.out) rfl)) rfl ⟨⟨_, rfl, ownR_empty _ _⟩, Below.putRow hbb (by omega) _⟩
        
      · have hy : 1073741824 ≤ i := hir.resolve_left hx
        go_enter Try.func87, Try.ntmps87
        go_wp2_with fail
        (with_reducible refine (Hch.out _ ((Keeps.alloc _ _).trans ((Keeps.alloc _ _).trans ((Keeps.alloc _ _).trans (Keeps.alloc _ _))))).mono ?_)
        rintro e w2 ⟨rfl, hB2⟩
        have hg : w2.heap[w.heap.size + 3]? = some (.cells emptyCells 28 (0, 0)) := (hB2.block (w.heap.size + 3) (by simp)).trans Hb3.out.2.2.2.2.2
        have hbb : Below w.heap.size w w2 := Hb3.out.1.trans (hB2.mono (by simp; omega))
        have hct : w2.cell? ⟨w.heap.size + 1, 0, none⟩ = some (.int .i64 tag) := (hB2.cell (p := ⟨w.heap.size + 1, 0, none⟩) (by simp)).trans (cell_of_row _ _ 0 _ _ _ Hb3.out.2.2.2.1)
        have Hg := Lib.hid hg
        clear hg hB2
        go_wp2_with (first | (refine wpList_store_row (by rfl) 28 (.tmp 8) (.tmp 26) (by rfl) (w.heap.size + 3) emptyCells (by rfl) (by rfl) 28 _ (by with_reducible exact Hg.out) hsz28 (by rfl) hone ?_))
        exact bodyPost_ret (results_cell_tmp (p := 8) (q := 9) rfl _ _ (w.heap.size + 3) _ rfl (load28 (setRow_heap _ _ _ _ _ _ Hg.out) rfl)) rfl ⟨⟨_, rfl, ownR_empty _ _⟩, Below.putRow hbb (by omega) _⟩
        
    · have hme : markErr 0 1 i tag = 1 := by
        unfold markErr; rw [if_neg (by simp), if_neg hir, if_pos]
        exact (Hc.out.resolve_left (fun h => h rfl)).resolve_left hir
      rw [hme]
      clear hme
      have hx : ¬ i < 0 := fun q => hir (.inl q)
      have hy : ¬ 1073741824 ≤ i := fun q => hir (.inr q)
      have htt := (Hc.out.resolve_left (fun h => h rfl)).resolve_left hir
      have Htt := Lib.hid htt
      clear htt hir
      by_cases ht0 : tag < 0
      · go_enter Try.func87, Try.ntmps87
        go_wp2_with fail
        (with_reducible refine (Hch.out _ ((Keeps.alloc _ _).trans ((Keeps.alloc _ _).trans ((Keeps.alloc _ _).trans (Keeps.alloc _ _))))).mono ?_)
        rintro e w2 ⟨rfl, hB2⟩
        have hg : w2.heap[w.heap.size + 3]? = some (.cells emptyCells 28 (0, 0)) := (hB2.block (w.heap.size + 3) (by simp)).trans Hb3.out.2.2.2.2.2
        have hbb : Below w.heap.size w w2 := Hb3.out.1.trans (hB2.mono (by simp; omega))
        have hct : w2.cell? ⟨w.heap.size + 1, 0, none⟩ = some (.int .i64 tag) := (hB2.cell (p := ⟨w.heap.size + 1, 0, none⟩) (by simp)).trans (cell_of_row _ _ 0 _ _ _ Hb3.out.2.2.2.1)
        have Hg := Lib.hid hg
        clear hg hB2
        go_wp2_with (first | (refine wpList_store_row (by rfl) 28 (.tmp 8) (.tmp 34) (by rfl) (w.heap.size + 3) emptyCells (by rfl) (by rfl) 28 _ (by with_reducible exact Hg.out) hsz28 (by rfl) hone ?_))
        exact bodyPost_ret (results_cell_tmp (p := 8) (q := 9) rfl _ _ (w.heap.size + 3) _ rfl (load28 (setRow_heap _ _ _ _ _ _ Hg.out) rfl)) rfl ⟨⟨_, rfl, ownR_empty _ _⟩, Below.putRow hbb (by omega) _⟩
        
      · have hty : 1 < tag := Htt.out.resolve_left ht0
        go_enter Try.func87, Try.ntmps87
        go_wp2_with fail
        (with_reducible refine (Hch.out _ ((Keeps.alloc _ _).trans ((Keeps.alloc _ _).trans ((Keeps.alloc _ _).trans (Keeps.alloc _ _))))).mono ?_)
        rintro e w2 ⟨rfl, hB2⟩
        have hg : w2.heap[w.heap.size + 3]? = some (.cells emptyCells 28 (0, 0)) := (hB2.block (w.heap.size + 3) (by simp)).trans Hb3.out.2.2.2.2.2
        have hbb : Below w.heap.size w w2 := Hb3.out.1.trans (hB2.mono (by simp; omega))
        have hct : w2.cell? ⟨w.heap.size + 1, 0, none⟩ = some (.int .i64 tag) := (hB2.cell (p := ⟨w.heap.size + 1, 0, none⟩) (by simp)).trans (cell_of_row _ _ 0 _ _ _ Hb3.out.2.2.2.1)
        have Hg := Lib.hid hg
        clear hg hB2
        go_wp2_with (first | (refine wpList_store_row (by rfl) 28 (.tmp 8) (.tmp 34) (by rfl) (w.heap.size + 3) emptyCells (by rfl) (by rfl) 28 _ (by with_reducible exact Hg.out) hsz28 (by rfl) hone ?_))
        exact bodyPost_ret (results_cell_tmp (p := 8) (q := 9) rfl _ _ (w.heap.size + 3) _ rfl (load28 (setRow_heap _ _ _ _ _ _ Hg.out) rfl)) rfl ⟨⟨_, rfl, ownR_empty _ _⟩, Below.putRow hbb (by omega) _⟩
        
  · have hme : markErr ck 1 i tag = ck := by unfold markErr; rw [if_pos h0]
    rw [hme]
    clear hme
    have h0' : (ck == 0) = false := by simpa using h0
    go_enter Try.func87, Try.ntmps87
    go_wp2_with fail
    (with_reducible refine (Hch.out _ ((Keeps.alloc _ _).trans ((Keeps.alloc _ _).trans ((Keeps.alloc _ _).trans (Keeps.alloc _ _))))).mono ?_)
    rintro e w2 ⟨rfl, hB2⟩
    have hg : w2.heap[w.heap.size + 3]? = some (.cells emptyCells 28 (0, 0)) := (hB2.block (w.heap.size + 3) (by simp)).trans Hb3.out.2.2.2.2.2
    have hbb : Below w.heap.size w w2 := Hb3.out.1.trans (hB2.mono (by simp; omega))
    have hct : w2.cell? ⟨w.heap.size + 1, 0, none⟩ = some (.int .i64 tag) := (hB2.cell (p := ⟨w.heap.size + 1, 0, none⟩) (by simp)).trans (cell_of_row _ _ 0 _ _ _ Hb3.out.2.2.2.1)
    have Hg := Lib.hid hg
    clear hg hB2
    go_wp2_with (first | (refine wpList_store_row (by rfl) 28 (.tmp 8) (.tmp 17) (by rfl) (w.heap.size + 3) emptyCells (by rfl) (by rfl) 28 _ (by with_reducible exact Hg.out) hsz28 (by rfl) hone ?_))
    exact bodyPost_ret (results_cell_tmp (p := 8) (q := 9) rfl _ _ (w.heap.size + 3) _ rfl (load28 (setRow_heap _ _ _ _ _ _ Hg.out) rfl)) rfl ⟨⟨_, rfl, ownR_empty _ _⟩, Below.putRow hbb (by omega) _⟩
    
end Go.Proofs.Ytmdmbnpgdkmklaa
