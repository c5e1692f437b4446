/- The reference's Next, for all arguments: it answers as the tree's own. -/
import Derived.Test.YtmdmbnpgdkmklaaRs10
namespace Go.Proofs.Ytmdmbnpgdkmklaa
open Go.RowKit
set_option linter.unusedVariables false
set_option linter.unusedSimpArgs false

set_option maxRecDepth 100000 in
set_option maxHeartbeats 4000000 in
theorem RNext_out {w : World} {r : Rx} {c : Array Value} {from_ tag : Int} (h : IsR w r c) (hf : inI64 from_) (ht : inI64 tag) (hbad : from_ < 0 ∨ tag < -1 ∨ 1 < tag) :
    Calls Try.prog 41 #[.agg c, .int .i64 from_, .int .i64 tag] w fun e w' => e = .returned (.int .i64 (-1)) ∧ Below w.heap.size w w' := by
  obtain ⟨hh, nc, rfl, hn0⟩ := h
  obtain ⟨x0, x1, x2, x3, x4, x5, x6, x7, xp, xl, xc, rfl⟩ := hn0.lit
  simp only [List.append_toArray, List.cons_append, List.nil_append]
  unfold inI64 at ht hf
  obtain ⟨ht1, ht2⟩ := ht
  obtain ⟨hf1, hf2⟩ := hf
  have hbA : Below w.heap.size w (w.alloc (.cells #[.int .i64 r.h, .int .i64 x0, .int .i64 x1, .int .i64 x2, .int .i64 x3, .int .i64 x4, .int .i64 x5, .int .i64 x6, .int .i64 x7, .int .i64 r.root.t0, .int .i64 r.root.t1, .slice xp xl xc] 28)) := (Below.refl _ _).alloc (Nat.le_refl _) _
  have HbA := Lib.hid hbA
  have Hbad := Lib.hid hbad
  clear hn0 hh hbA hbad
  by_cases h1 : from_ < 0
  · have d1 : decide (from_ < 0) = true := by simpa using h1
    go_enter Try.func41, Try.ntmps41
    go_wp2_with fail
    go_ret
    exact ⟨rfl, HbA.out⟩
  · have d1 : decide (from_ < 0) = false := by simpa using h1
    by_cases h2 : tag < -1
    · have d2 : decide (tag < -1) = true := by simpa using h2
      go_enter Try.func41, Try.ntmps41
      go_wp2_with fail
      go_ret
      exact ⟨rfl, HbA.out⟩
    · have d2 : decide (tag < -1) = false := by simpa using h2
      have h3 : 1 < tag := (Hbad.out.resolve_left h1).resolve_left h2
      have d3 : decide (1 < tag) = true := by simpa using h3
      go_enter Try.func41, Try.ntmps41
      go_wp2_with fail
      go_ret
      exact ⟨rfl, HbA.out⟩

theorem RNext_all {w : World} {r : Rx} {c : Array Value} {from_ tag : Int} (h : IsR w r c) (hr : r.check = 0 → r.fine) (hf : inI64 from_) (ht : inI64 tag) :
    Calls Try.prog 41 #[.agg c, .int .i64 from_, .int .i64 tag] w fun e w' => e = .returned (.int .i64 (r.next from_ tag)) ∧ Below w.heap.size w w' := by
  by_cases hb : from_ < 0 ∨ tag < -1 ∨ 1 < tag
  · have e : r.next from_ tag = -1 := by
      unfold Rx.next
      by_cases h1 : from_ < 0
      · rw [if_pos h1]
      · rw [if_neg h1, ← all_filter r tag, if_pos (hb.resolve_left h1)]
        rfl
    rw [e]
    exact RNext_out h hf ht hb
  · have := RNext_spec h hf ht ⟨by omega, by omega, by omega⟩
    rwa [next_same hr from_ tag (by omega) (by omega) (by omega)] at this
end Go.Proofs.Ytmdmbnpgdkmklaa
