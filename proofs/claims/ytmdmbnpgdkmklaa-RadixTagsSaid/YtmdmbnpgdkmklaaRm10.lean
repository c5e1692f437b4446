/- radix.Untag. -/
import Derived.Test.YtmdmbnpgdkmklaaRm2
namespace Go.Proofs.Ytmdmbnpgdkmklaa
open Go.RowKit
set_option linter.unusedVariables false
set_option linter.unusedSimpArgs false

set_option maxRecDepth 100000 in
set_option maxHeartbeats 4000000 in
theorem Untag_spec {w : World} {r : Rx} {c : Array Value} {i tag : Int} (h : IsR w r c) (hi : inI64 i) (ht : inI64 tag) :
    Calls Try.prog 38 #[.agg c, .int .i64 i, .int .i64 tag] w (RPost w (r.mark i tag false)) := by
  obtain ⟨post, hpost⟩ : ∃ post, post = RPost w (r.mark i tag false) := ⟨_, rfl⟩
  have HP : Hid (∀ e W', RPost w (r.mark i tag false) e W' → post e W') := Lib.hid (by rw [hpost]; exact fun e W' a => a)
  rw [← hpost]
  have hm := fun (W : World) (k : Keeps w W) => mark_spec (on := false) (h.keeps k) hi ht
  obtain ⟨hh, nc, rfl, hn0⟩ := h
  obtain ⟨x0, x1, x2, x3, x4, x5, x6, x7, xp, xl, xc, rfl⟩ := hn0.lit
  simp only [List.append_toArray, List.cons_append, List.nil_append] at hm ⊢
  have Hm := Lib.hid hm
  have Hb := Lib.hid (boxes2 w (.cells #[.int .i64 r.h, .int .i64 x0, .int .i64 x1, .int .i64 x2, .int .i64 x3, .int .i64 x4, .int .i64 x5, .int .i64 x6, .int .i64 x7, .int .i64 r.root.t0, .int .i64 r.root.t1, .slice xp xl xc] 28) (.cells emptyCells 28))
  obtain ⟨res, hres⟩ : ∃ res, res = r.mark i tag false := ⟨_, rfl⟩
  rw [← hres] at Hm HP
  clear hm hn0 hh hi ht hpost hres
  go_enter Try.func38, Try.ntmps38
  go_wp2_with fail
  (with_reducible refine (Hm.out _ ((Keeps.alloc _ _).trans (Keeps.alloc _ _))).mono ?_)
  rintro e w2 ⟨⟨c', rfl, hO⟩, hB2⟩
  have hz := Hb.out.2.1
  have hg : w2.heap[w.heap.size + 1]? = some (.cells emptyCells 28 (0, 0)) := (hB2.block (w.heap.size + 1) (by simp)).trans Hb.out.2.2
  have hbf : Below w.heap.size w (w2.setRow (w.heap.size + 1) c') := Below.putRow (Hb.out.1.trans (hB2.mono (by simp; omega))) (by omega) _
  have hsz := hO.size
  have hpost := HP.out (.returned (.tuple #[.agg c', .int .i64 res.2])) _ ⟨⟨c', rfl, (hO.put (b := w.heap.size + 1) (by simp) c').mono (by simp; omega)⟩, hbf⟩
  have Hpost := Lib.hid hpost
  have Hg := Lib.hid hg
  have Hone := Lib.hid hO.one
  have Hs12 := Lib.hid hsz
  have Hsz : Hid ((Try.prog.info? 28).map (·.size) = some c'.size) := Lib.hid (by rw [hsz]; exact size28)
  have Hes : Hid (emptyCells.size = c'.size) := Lib.hid (by rw [hsz]; rfl)
  clear hpost hg hbf hsz hO hB2
  go_wp2_with (first
    | (refine wpList_store_row (by rfl) 28 (.tmp 6) (.tmp 12) (by rfl) (w.heap.size + 1) c' (by rfl) (by rfl) 28 _ (by with_reducible exact Hg.out) (by with_reducible exact Hsz.out) (by with_reducible exact Hes.out) (by with_reducible exact Hone.out) ?_))
  exact bodyPost_ret (results_cell_tmp (p := 6) (q := 7) rfl _ _ (w.heap.size + 1) _ rfl (load28 (setRow_heap _ _ _ _ _ _ Hg.out) Hs12.out)) rfl Hpost.out
end Go.Proofs.Ytmdmbnpgdkmklaa
