/- radix.Next and radix.Count. -/
import Derived.Test.YtmdmbnpgdkmklaaRi5
namespace Go.Proofs.Ytmdmbnpgdkmklaa
open Go.RowKit
set_option linter.unusedVariables false
set_option linter.unusedSimpArgs false

def nextStep (from_ : Int) (s : Int) (i : Nat) : Bool × Int := if from_ ≤ i then (false, (i : Int)) else (true, s)

theorem feed_next (from_ : Int) (l : List En) : ∀ s, (feed (fun s i _ => nextStep from_ s i) s l).2 = match l.find? (fun e => decide (from_ ≤ (e.i : Int))) with | none => s | some e => (e.i : Int) := by
  induction l with
  | nil => intro s; rfl
  | cons e l ih =>
    intro s
    by_cases h : from_ ≤ (e.i : Int)
    · have hs : nextStep from_ s e.i = (false, (e.i : Int)) := by unfold nextStep; rw [if_pos h]
      rw [List.find?_cons_of_pos (by simpa using h)]
      simp only [feed]
      rw [hs]
      rfl
    · have hs : nextStep from_ s e.i = (true, s) := by unfold nextStep; rw [if_neg h]
      rw [List.find?_cons_of_neg (by simpa using h)]
      simp only [feed]
      rw [hs]
      simp only [if_true]
      exact ih s

def Rx.next (r : Rx) (from_ tag : Int) : Int :=
  if from_ < 0 then -1 else match (r.entsT tag).find? (fun e => decide (from_ ≤ (e.i : Int))) with | none => -1 | some e => (e.i : Int)

def NextJ (bv bf : Nat) (from_ : Int) (s : Int) (W : World) : Prop := (W.cell? ⟨bv, 0, none⟩ = some (.int .i64 s) ∧ W.frozen? ⟨bv, 0, none⟩ = false) ∧ W.cell? ⟨bf, 0, none⟩ = some (.int .i64 from_)

theorem frozen_below {W W' : World} (h : Below W.heap.size W W') {b o : Nat} (hb : b < W.heap.size) (hf : W.frozen? ⟨b, o, none⟩ = false) : W'.frozen? ⟨b, o, none⟩ = false := by
  rw [h.frozen (p := ⟨b, o, none⟩) hb]; exact hf

theorem nextJ_stays (bv bf : Nat) (from_ : Int) : Stays (NextJ bv bf from_) := fun s W W' ⟨⟨a, b⟩, c⟩ h =>
  ⟨⟨(Keeps.of_below h) _ _ a, frozen_below h (lt_of_cell a) b⟩, (Keeps.of_below h) _ _ c⟩

set_option maxRecDepth 100000 in
set_option maxHeartbeats 2000000 in
theorem next1_spec (w0 : World) (bv bf : Nat) (from_ : Int) (hne : bf ≠ bv) (hf : inI64 from_) :
    YieldsI w0 bv 85 #[.pointer (some ⟨bf, 0, none⟩), .pointer (some ⟨bv, 0, none⟩)] (NextJ bv bf from_) (nextStep from_) := by
  intro s W i hi ⟨⟨hc, hfz⟩, hcf⟩ hW hb
  show Calls Try.prog 85 #[.int .i64 i, .pointer (some ⟨bf, 0, none⟩), .pointer (some ⟨bv, 0, none⟩)] W _
  unfold inI64 at hf
  have Hi := Lib.hid hi
  have hi' : (i : Int) ≤ 1073741824 := by omega
  clear hi hW
  by_cases h : from_ ≤ (i : Int)
  · have hst : nextStep from_ s i = (false, (i : Int)) := by unfold nextStep; rw [if_pos h]
    rw [hst]
    have hcf' : (W.setCell ⟨bv, 0, none⟩ (.int .i64 i)).cell? ⟨bf, 0, none⟩ = some (.int .i64 from_) := by
      rw [World.cell?, Below.heap_setCell _ _ _ _ (show bf ≠ bv from hne)]; exact hcf
    have hj : NextJ bv bf from_ (i : Int) (W.setCell ⟨bv, 0, none⟩ (.int .i64 i)) := by
      refine ⟨⟨World.cell?_setCell_same' _ _ _ (by rw [hc]; rfl), by rw [World.frozen?_setCell]; exact hfz⟩, hcf'⟩
    have hm : Mod bv W (W.setCell ⟨bv, 0, none⟩ (.int .i64 i)) := (Mod.refl bv W).setCell 0 _
    have Hj := Lib.hid hj
    have Hm := Lib.hid hm
    have hd : decide (from_ ≤ (i : Int)) = true := by simpa using h
    have hd2 : decide ((i : Int) < from_) = false := by simpa using h
    clear hst hj hm h
    go_enter Try.func85, Try.ntmps85
    go_wp2_with fail
    go_ret
    exact ⟨rfl, Hj.out, Hm.out⟩
  · have hst : nextStep from_ s i = (true, s) := by unfold nextStep; rw [if_neg h]
    rw [hst]
    have Hj : Hid (NextJ bv bf from_ s W) := Lib.hid ⟨⟨hc, hfz⟩, hcf⟩
    have hd : decide (from_ ≤ (i : Int)) = false := by simpa using h
    have hd2 : decide ((i : Int) < from_) = true := by simpa using h
    clear hst h
    go_enter Try.func85, Try.ntmps85
    go_wp2_with fail
    go_ret
    exact ⟨rfl, Hj.out, Mod.refl _ _⟩

set_option maxRecDepth 100000 in
set_option maxHeartbeats 4000000 in
theorem Next_spec {w : World} {r : Rx} {c : Array Value} (h : IsR w r c) (from_ tag : Int) (hf : inI64 from_) (htg : inI64 tag) :
    Calls Try.prog 33 #[.agg c, .int .i64 from_, .int .i64 tag] w fun e w' => e = .returned (.int .i64 (r.next from_ tag)) ∧ Below w.heap.size w w' := by
  have hR := h
  obtain ⟨hh, nc, rfl, hn⟩ := h
  obtain ⟨x0, x1, x2, x3, x4, x5, x6, x7, xp, xl, xc, rfl⟩ := hn.lit
  simp only [List.append_toArray, List.cons_append, List.nil_append] at hR ⊢
  obtain ⟨H, root⟩ := r
  simp only at hR ⊢
  obtain ⟨res, hres⟩ : ∃ res, Rx.next ⟨H, root⟩ from_ tag = res := ⟨_, rfl⟩
  rw [hres]
  have Hres := Lib.hid hres
  have HR := Lib.hid hR
  clear hR hn hh hres
  by_cases hneg : from_ < 0
  · have hr : res = -1 := by rw [← Hres.out]; unfold Rx.next; rw [if_pos hneg]
    subst hr
    have hd : decide (from_ < 0) = true := by simpa using hneg
    clear hneg
    go_enter Try.func33, Try.ntmps33
    go_wp2_with fail
    go_ret
    exact ⟨rfl, (((Below.refl w.heap.size w).alloc (Nat.le_refl _) _).alloc (by simp) _).alloc (by simp; omega) _⟩
  · have hr : res = match ((⟨H, root⟩ : Rx).entsT tag).find? (fun e => decide (from_ ≤ (e.i : Int))) with | none => -1 | some e => (e.i : Int) := by
      rw [← Hres.out]; unfold Rx.next; rw [if_neg hneg]
    rw [← feed_next] at hr
    have Hr := Lib.hid hr
    have hd : decide (from_ < 0) = false := by simpa using hneg
    have Hf := Lib.hid hf
    have Htg := Lib.hid htg
    clear hneg hr hf htg
    go_enter Try.func33, Try.ntmps33
    go_wp2_with fail
    have hbig : Below w.heap.size w (((w.alloc (.cells #[.int .i64 H, .int .i64 x0, .int .i64 x1, .int .i64 x2, .int .i64 x3, .int .i64 x4, .int .i64 x5, .int .i64 x6, .int .i64 x7, .int .i64 root.t0, .int .i64 root.t1, .slice xp xl xc] 28)).alloc (.cells #[.int .i64 from_] 3)).alloc (.cells #[.int .i64 (-1)] 3)) :=
      (((Below.refl w.heap.size w).alloc (Nat.le_refl _) _).alloc (by simp) _).alloc (by simp; omega) _
    have h1 := (heap_alloc_old3 w (.cells #[.int .i64 H, .int .i64 x0, .int .i64 x1, .int .i64 x2, .int .i64 x3, .int .i64 x4, .int .i64 x5, .int .i64 x6, .int .i64 x7, .int .i64 root.t0, .int .i64 root.t1, .slice xp xl xc] 28) (.cells #[.int .i64 from_] 3) (.cells #[.int .i64 (-1)] 3))
    have hj : NextJ (w.heap.size + 1 + 1) (w.heap.size + 1) from_ (-1) (((w.alloc (.cells #[.int .i64 H, .int .i64 x0, .int .i64 x1, .int .i64 x2, .int .i64 x3, .int .i64 x4, .int .i64 x5, .int .i64 x6, .int .i64 x7, .int .i64 root.t0, .int .i64 root.t1, .slice xp xl xc] 28)).alloc (.cells #[.int .i64 from_] 3)).alloc (.cells #[.int .i64 (-1)] 3)) :=
      ⟨⟨by rw [cell_of_row _ _ _ _ _ _ h1.2.2]; rfl, frozen_of_row _ _ _ _ _ h1.2.2⟩, by rw [cell_of_row _ _ _ _ _ _ h1.2.1]; rfl⟩
    have hcall := each_spec (w0 := w) (bv := w.heap.size + 1 + 1) (next1_spec w (w.heap.size + 1 + 1) (w.heap.size + 1) from_ (by omega) Hf.out) (nextJ_stays _ _ _) (by omega) (.inl rfl) HR.out tag Htg.out (-1) _ hj hbig (by simp)
    (with_reducible refine hcall.mono ?_)
    clear hcall hj h1
    rintro e w4 ⟨rfl, ⟨⟨hc4, _⟩, _⟩, hM4⟩
    rw [← Hr.out] at hc4
    have hend := hM4.below hbig (by omega) (by simp; omega)
    clear hM4 hbig
    go_wp2_with fail
    go_ret
    exact ⟨rfl, hend⟩
end Go.Proofs.Ytmdmbnpgdkmklaa
