/- radix.Set, radix.mark, radix.Tag, radix.Untag, the reference's New: what they give back. -/
import Derived.Test.YtmdmbnpgdkmklaaRm1
namespace Go.Proofs.Ytmdmbnpgdkmklaa
open Go.RowKit
set_option linter.unusedVariables false
set_option linter.unusedSimpArgs false

theorem Set_spec {w : World} {r : Rx} {c : Array Value} {i v : Int} (h : IsR w r c) (hi : inI64 i) (hv : inI64 v) :
    Calls Try.prog 24 #[.agg c, .int .i64 i, .int .i64 v] w (RPost w (r.set i v)) := by
  by_cases hc : r.check = 0
  · by_cases hr : i < 0 ∨ 1073741824 ≤ i
    · have e : r.set i v = (Rx.empty, if r.check ≠ 0 then r.check else 2) := by
        unfold Rx.set; rw [if_neg (by simp [hc]), if_pos hr, if_neg (by simp [hc])]
      rw [e]
      exact Set_err h hi hv (.inr hr)
    · obtain ⟨k, rfl⟩ := Int.eq_ofNat_of_zero_le (show 0 ≤ i by omega)
      have e : r.set (k : Int) v = (if v = 0 ∧ r.get k = 0 then (r, 0) else (⟨((setM r.h.toNat r.root k v).1 : Int), (setM r.h.toNat r.root k v).2⟩, 0)) := by
        unfold Rx.set; rw [if_neg (by simp [hc]), if_neg hr]; rfl
      rw [e]
      exact Set_main h (by omega) hv hc
  · have e : r.set i v = (Rx.empty, if r.check ≠ 0 then r.check else 2) := by
      unfold Rx.set; rw [if_pos hc, if_pos hc]
    rw [e]
    exact Set_err h hi hv (.inl hc)

theorem mark_spec {w : World} {r : Rx} {c : Array Value} {i tag : Int} {on : Bool} (h : IsR w r c) (hi : inI64 i) (ht : inI64 tag) :
    Calls Try.prog 87 #[.agg c, .int .i64 i, .int .i64 tag, .bool on] w (RPost w (r.mark i tag on)) := by
  by_cases hc : r.check ≠ 0 ∨ (i < 0 ∨ 1073741824 ≤ i) ∨ tag < 0 ∨ 1 < tag
  · have e : r.mark i tag on = (Rx.empty, markErr r.check 1 i tag) := by
      unfold Rx.mark markErr
      by_cases h1 : r.check ≠ 0
      · rw [if_pos h1, if_pos h1]
      · rw [if_neg h1, if_neg h1]
        by_cases h2 : i < 0 ∨ 1073741824 ≤ i
        · rw [if_pos h2, if_pos h2]
        · rw [if_neg h2, if_neg h2]
          have h3 := (hc.resolve_left h1).resolve_left h2
          rw [if_pos h3, if_pos h3]
    rw [e]
    exact mark_err h hi ht hc
  · have h1 : r.check = 0 := Classical.not_not.1 (fun q => hc (.inl q))
    have h2 : ¬ (i < 0 ∨ 1073741824 ≤ i) := fun q => hc (.inr (.inl q))
    have h3 : ¬ (tag < 0 ∨ 1 < tag) := fun q => hc (.inr (.inr q))
    obtain ⟨k, rfl⟩ := Int.eq_ofNat_of_zero_le (show 0 ≤ i by omega)
    obtain ⟨t, rfl⟩ := Int.eq_ofNat_of_zero_le (show 0 ≤ tag by omega)
    have e : r.mark (k : Int) (t : Int) on = (if r.get k = 0 then (Rx.empty, 6) else (⟨r.h, r.root.upd (markChg t on) (r.h.toNat - 1) k⟩, 0)) := by
      unfold Rx.mark
      rw [if_neg (by simp [h1]), if_neg h2, if_neg h3]; rfl
    rw [e]
    exact mark_main h (by omega) (by omega) h1

set_option maxRecDepth 100000 in
set_option maxHeartbeats 4000000 in
theorem RNew_spec (w : World) : Calls Try.prog 23 #[] w fun e w' => e = .returned (.agg emptyCells) ∧ Below w.heap.size w w' := by
  go_enter Try.func23, Try.ntmps23
  go_wp2_with fail
  exact bodyPost_ret (v := .agg emptyCells) (by simp [results, Try.results23, go_sem, emptyCells]) rfl ⟨rfl, (Below.refl _ _).alloc (Nat.le_refl _) _⟩

theorem boxes2 (w : World) (A B : Obj) : Below w.heap.size w ((w.alloc A).alloc B) ∧ ((w.alloc A).alloc B).heap.size = w.heap.size + 2 ∧ ((w.alloc A).alloc B).heap[w.heap.size + 1]? = some B :=
  ⟨((Below.refl _ _).alloc (Nat.le_refl _) _).alloc (by simp) _, by simp, heap_alloc2_new w A B⟩

set_option maxRecDepth 100000 in
set_option maxHeartbeats 4000000 in
theorem Tag_spec {w : World} {r : Rx} {c : Array Value} {i tag : Int} (h : IsR w r c) (hi : inI64 i) (ht : inI64 tag) :
    Calls Try.prog 36 #[.agg c, .int .i64 i, .int .i64 tag] w (RPost w (r.mark i tag true)) := by
  obtain ⟨post, hpost⟩ : ∃ post, post = RPost w (r.mark i tag true) := ⟨_, rfl⟩
  have HP : Hid (∀ e W', RPost w (r.mark i tag true) e W' → post e W') := Lib.hid (by rw [hpost]; exact fun e W' a => a)
  rw [← hpost]
  have hm := fun (W : World) (k : Keeps w W) => mark_spec (on := true) (h.keeps k) hi ht
  obtain ⟨hh, nc, rfl, hn0⟩ := h
  obtain ⟨x0, x1, x2, x3, x4, x5, x6, x7, xp, xl, xc, rfl⟩ := hn0.lit
  simp only [List.append_toArray, List.cons_append, List.nil_append] at hm ⊢
  have Hm := Lib.hid hm
  have Hb := Lib.hid (boxes2 w (.cells #[.int .i64 r.h, .int .i64 x0, .int .i64 x1, .int .i64 x2, .int .i64 x3, .int .i64 x4, .int .i64 x5, .int .i64 x6, .int .i64 x7, .int .i64 r.root.t0, .int .i64 r.root.t1, .slice xp xl xc] 28) (.cells emptyCells 28))
  obtain ⟨res, hres⟩ : ∃ res, res = r.mark i tag true := ⟨_, rfl⟩
  rw [← hres] at Hm HP
  clear hm hn0 hh hi ht hpost hres
  go_enter Try.func36, Try.ntmps36
  go_wp2_with fail
  (with_reducible refine (Hm.out _ ((Keeps.alloc _ _).trans (Keeps.alloc _ _))).mono ?_)
  rintro e w2 ⟨⟨c', rfl, hO⟩, hB2⟩
  have hz := Hb.out.2.1
  have hg : w2.heap[w.heap.size + 1]? = some (.cells emptyCells 28 (0, 0)) := (hB2.block (w.heap.size + 1) (by simp)).trans Hb.out.2.2
  have hbf : Below w.heap.size w (w2.setRow (w.heap.size + 1) c') := Below.putRow (Hb.out.1.trans (hB2.mono (by simp; omega))) (by omega) _
  have hsz := hO.size
  have hpost := HP.out (.returned (.tuple #[.agg c', .int .i64 res.2])) _ ⟨⟨c', rfl, (hO.put (b := w.heap.size + 1) (by simp) c').mono (by simp; omega)⟩, hbf⟩
  have Hpost := Lib.hid hpost
  have Hg := Lib.hid hg
  have Hone := Lib.hid hO.one
  have Hs12 := Lib.hid hsz
  have Hsz : Hid ((Try.prog.info? 28).map (·.size) = some c'.size) := Lib.hid (by rw [hsz]; exact size28)
  have Hes : Hid (emptyCells.size = c'.size) := Lib.hid (by rw [hsz]; rfl)
  clear hpost hg hbf hsz hO hB2
  go_wp2_with (first
    | (refine wpList_store_row (by rfl) 28 (.tmp 6) (.tmp 12) (by rfl) (w.heap.size + 1) c' (by rfl) (by rfl) 28 _ (by with_reducible exact Hg.out) (by with_reducible exact Hsz.out) (by with_reducible exact Hes.out) (by with_reducible exact Hone.out) ?_))
  exact bodyPost_ret (results_cell_tmp (p := 6) (q := 7) rfl _ _ (w.heap.size + 1) _ rfl (load28 (setRow_heap _ _ _ _ _ _ Hg.out) Hs12.out)) rfl Hpost.out
end Go.Proofs.Ytmdmbnpgdkmklaa
