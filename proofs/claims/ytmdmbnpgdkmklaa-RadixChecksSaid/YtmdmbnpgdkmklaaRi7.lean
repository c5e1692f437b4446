/- radix.Count. -/
import Derived.Test.YtmdmbnpgdkmklaaRi6
namespace Go.Proofs.Ytmdmbnpgdkmklaa
open Go.RowKit
set_option linter.unusedVariables false
set_option linter.unusedSimpArgs false

theorem length_flatMap_le {α β : Type} (l : List α) (f : α → List β) (b : Nat) (h : ∀ x ∈ l, (f x).length ≤ b) : (l.flatMap f).length ≤ l.length * b := by
  induction l with
  | nil => simp
  | cons x l ih =>
    rw [List.flatMap_cons, List.length_append, List.length_cons, Nat.succ_mul]
    have h1 := h x (by simp)
    have h2 := ih (fun y hy => h y (by simp [hy]))
    omega

theorem ents_length (l : Nat) : ∀ (n : Nd) (first : Nat), (n.ents l first).length ≤ 8 ^ (l + 1) := by
  induction l with
  | zero =>
    intro n first
    refine Nat.le_trans (length_flatMap_le _ _ 1 fun d _ => ?_) (by simp)
    split <;> simp
  | succ l ih =>
    intro n first
    refine Nat.le_trans (length_flatMap_le _ _ (8 ^ (l + 1)) fun d _ => ?_) (by rw [List.length_range, Nat.pow_succ _ (l + 1)]; omega)
    split
    · simp
    · exact ih _ _

theorem entsT_length (r : Rx) (tag : Int) : (r.entsT tag).length ≤ 1073741824 := by
  unfold Rx.entsT
  split
  · simp
  · rename_i h
    have hck : r.check = 0 := by omega
    obtain ⟨h0, h10, _, _⟩ := check_zero hck
    refine Nat.le_trans (List.length_filter_le _ _) (Nat.le_trans (ents_length _ _ _) ?_)
    have : 8 ^ (r.h.toNat - 1 + 1) ≤ 8 ^ 10 := Nat.pow_le_pow_right (by omega) (by omega)
    exact Nat.le_trans this (by decide)

def cntStep (s : Int) (_ : Nat) : Bool × Int := (true, wrap64 (s + 1))

theorem feed_cnt (l : List En) : ∀ s : Int, 0 ≤ s → s + l.length ≤ 9223372036854775807 → (feed (fun s i _ => cntStep s i) s l).2 = s + l.length := by
  induction l with
  | nil => intro s _ _; simp [feed]
  | cons e l ih =>
    intro s h0 h1
    simp only [List.length_cons] at h1
    have hw : wrap64 (s + 1) = s + 1 := by unfold wrap64; omega
    simp only [feed]
    rw [show cntStep s e.i = (true, s + 1) by unfold cntStep; rw [hw]]
    simp only [if_true]
    rw [ih (s + 1) (by omega) (by omega), List.length_cons]
    omega

def Rx.count (r : Rx) (tag : Int) : Int := ((r.entsT tag).length : Int)

def CntJ (bv : Nat) (s : Int) (W : World) : Prop := W.cell? ⟨bv, 0, none⟩ = some (.int .i64 s) ∧ W.frozen? ⟨bv, 0, none⟩ = false

theorem cntJ_stays (bv : Nat) : Stays (CntJ bv) := fun s W W' ⟨a, b⟩ h => ⟨(Keeps.of_below h) _ _ a, frozen_below h (lt_of_cell a) b⟩

set_option maxRecDepth 100000 in
set_option maxHeartbeats 2000000 in
theorem count1_spec (w0 : World) (bv : Nat) : YieldsI w0 bv 86 #[.pointer (some ⟨bv, 0, none⟩)] (CntJ bv) cntStep := by
  intro s W i hi ⟨hc, hfz⟩ hW hb
  show Calls Try.prog 86 #[.int .i64 i, .pointer (some ⟨bv, 0, none⟩)] W _
  have hj : CntJ bv (wrap64 (s + 1)) (W.setCell ⟨bv, 0, none⟩ (.int .i64 (wrap64 (s + 1)))) :=
    ⟨World.cell?_setCell_same' _ _ _ (by rw [hc]; rfl), by rw [World.frozen?_setCell]; exact hfz⟩
  have hm : Mod bv W (W.setCell ⟨bv, 0, none⟩ (.int .i64 (wrap64 (s + 1)))) := (Mod.refl bv W).setCell 0 _
  have Hj := Lib.hid hj
  have Hm := Lib.hid hm
  rw [show cntStep s i = (true, wrap64 (s + 1)) from rfl]
  clear hj hm hi hW
  go_enter Try.func86, Try.ntmps86
  go_wp2_with fail
  go_ret
  exact ⟨rfl, Hj.out, Hm.out⟩

set_option maxRecDepth 100000 in
set_option maxHeartbeats 4000000 in
theorem Count_spec {w : World} {r : Rx} {c : Array Value} (h : IsR w r c) (tag : Int) (htg : inI64 tag) :
    Calls Try.prog 35 #[.agg c, .int .i64 tag] w fun e w' => e = .returned (.int .i64 (r.count tag)) ∧ Below w.heap.size w w' := by
  have hR := h
  obtain ⟨hh, nc, rfl, hn⟩ := h
  obtain ⟨x0, x1, x2, x3, x4, x5, x6, x7, xp, xl, xc, rfl⟩ := hn.lit
  simp only [List.append_toArray, List.cons_append, List.nil_append] at hR ⊢
  obtain ⟨H, root⟩ := r
  simp only at hR ⊢
  have hr : Rx.count ⟨H, root⟩ tag = (feed (fun s i _ => cntStep s i) 0 ((⟨H, root⟩ : Rx).entsT tag)).2 := by
    rw [feed_cnt _ 0 (by omega) (by have := entsT_length ⟨H, root⟩ tag; omega)]
    unfold Rx.count; omega
  obtain ⟨res, hres⟩ : ∃ res, Rx.count ⟨H, root⟩ tag = res := ⟨_, rfl⟩
  rw [hres] at hr ⊢
  have Hr := Lib.hid hr
  have HR := Lib.hid hR
  have Htg := Lib.hid htg
  clear hR hn hh hres hr htg
  go_enter Try.func35, Try.ntmps35
  go_wp2_with fail
  have hbig : Below w.heap.size w ((w.alloc (.cells #[.int .i64 H, .int .i64 x0, .int .i64 x1, .int .i64 x2, .int .i64 x3, .int .i64 x4, .int .i64 x5, .int .i64 x6, .int .i64 x7, .int .i64 root.t0, .int .i64 root.t1, .slice xp xl xc] 28)).alloc (.cells #[.int .i64 0] 3)) :=
    ((Below.refl w.heap.size w).alloc (Nat.le_refl _) _).alloc (by simp) _
  have h1 := (heap_alloc2_new w (.cells #[.int .i64 H, .int .i64 x0, .int .i64 x1, .int .i64 x2, .int .i64 x3, .int .i64 x4, .int .i64 x5, .int .i64 x6, .int .i64 x7, .int .i64 root.t0, .int .i64 root.t1, .slice xp xl xc] 28) (.cells #[.int .i64 0] 3))
  have hj : CntJ (w.heap.size + 1) 0 ((w.alloc (.cells #[.int .i64 H, .int .i64 x0, .int .i64 x1, .int .i64 x2, .int .i64 x3, .int .i64 x4, .int .i64 x5, .int .i64 x6, .int .i64 x7, .int .i64 root.t0, .int .i64 root.t1, .slice xp xl xc] 28)).alloc (.cells #[.int .i64 0] 3)) :=
    ⟨by rw [cell_of_row _ _ _ _ _ _ h1]; rfl, frozen_of_row _ _ _ _ _ h1⟩
  have hcall := each_spec (w0 := w) (bv := w.heap.size + 1) (count1_spec w (w.heap.size + 1)) (cntJ_stays _) (by omega) (.inr (.inl rfl)) HR.out tag Htg.out 0 _ hj hbig (by simp)
  (with_reducible refine hcall.mono ?_)
  clear hcall hj h1
  rintro e w4 ⟨rfl, ⟨hc4, _⟩, hM4⟩
  rw [← Hr.out] at hc4
  have hend := hM4.below hbig (by omega) (by simp; omega)
  clear hM4 hbig
  go_wp2_with fail
  go_ret
  exact ⟨rfl, hend⟩
end Go.Proofs.Ytmdmbnpgdkmklaa
