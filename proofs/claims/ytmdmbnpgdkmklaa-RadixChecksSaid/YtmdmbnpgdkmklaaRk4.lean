/- radix.mark's function literal: a tag of a leaf entry is set or cleared. -/
import Derived.Test.YtmdmbnpgdkmklaaRk3
namespace Go.Proofs.Ytmdmbnpgdkmklaa
open Go.RowKit
set_option linter.unusedVariables false
set_option linter.unusedSimpArgs false

set_option maxRecDepth 100000 in
set_option maxHeartbeats 4000000 in
theorem mark1_spec (bt bo : Nat) (tag : Nat) (on : Bool) (htag : tag ≤ 1) : Changes 107 #[.pointer (some ⟨bt, 0, none⟩), .pointer (some ⟨bo, 0, none⟩)] (fun k => k = bt ∨ k = bo) (fun W => W.cell? ⟨bt, 0, none⟩ = some (.int .i64 tag) ∧ W.cell? ⟨bo, 0, none⟩ = some (.bool on)) (markChg tag on) := by
  intro W b o ty n S d hd hC hb h
  obtain ⟨v, t0, t1, ks⟩ := n
  obtain ⟨post, hpost⟩ : ∃ post : Ending → World → Prop, post = fun e W' => e = .returned (.tuple #[]) ∧ NodeAt W' b o ty (markChg tag on (.mk v t0 t1 ks) d) S ∧ Turned b o (fun _ => False) W W' := ⟨_, rfl⟩
  have HP : Hid (∀ W', NodeAt W' b o ty (markChg tag on (.mk v t0 t1 ks) d) S → Turned b o (fun _ => False) W W' → post (.returned (.tuple #[])) W') := Lib.hid (by rw [hpost]; exact fun W' a b => ⟨rfl, a, b⟩)
  rw [← hpost]
  show Calls Try.prog 107 #[.pointer (some ⟨b, o, none⟩), .int .i64 d, .pointer (some ⟨bt, 0, none⟩), .pointer (some ⟨bo, 0, none⟩)] W post
  have hpw0 := pow_wrap hd
  obtain ⟨pw, hpwe⟩ : ∃ pw : Int, pw = 2 ^ d := ⟨_, rfl⟩
  have hpw : IntKind.i64.wrap (2 ^ d) = pw := by rw [hpw0, hpwe]
  have Hpw := Lib.hid hpwe
  have hbt : b ≠ bt := fun e => hb (.inl e)
  have hbt' : bt ≠ b := Ne.symm hbt
  have hbo : b ≠ bo := fun e => hb (.inr e)
  have hbo' : bo ≠ b := Ne.symm hbo
  obtain ⟨hC1, hC2⟩ := hC
  obtain ⟨hc8, hc9, -⟩ := h.cells
  simp only [Nd.t0, Nd.t1] at hc8 hc9
  have hf8 := h.frozen (o + 8)
  have hf9 := h.frozen (o + 9)
  have H := Lib.hid h
  clear hpw0 hpwe h hpost hb
  have ht2 : tag = 0 ∨ tag = 1 := by omega
  rcases ht2 with rfl | rfl
  · have hn1 := (H.out.putT0 (bits .andNot .i64 t0 pw) (inI64_bits _ _ _)).drew
    have hT1 := ((Turned.refl b o (fun _ => False) W).setCell (q := 8) (by omega) (.int .i64 (bits .andNot .i64 t0 pw))).drew
    have hC3 : (W.setCell ⟨b, o + 8, none⟩ (.int .i64 (bits .andNot .i64 t0 pw))).drew.cell? ⟨bt, 0, none⟩ = some (.int .i64 (0 : Nat)) :=
      (World.cell?_setCell_far _ _ _ _ hbt).trans hC1
    have hC4 : (W.setCell ⟨b, o + 8, none⟩ (.int .i64 (bits .andNot .i64 t0 pw))).drew.cell? ⟨bo, 0, none⟩ = some (.bool on) :=
      (World.cell?_setCell_far _ _ _ _ hbo).trans hC2
    have Hn1 := Lib.hid hn1
    have HT1 := Lib.hid hT1
    have HC3 := Lib.hid hC3
    have HC4 := Lib.hid hC4
    clear hn1 hT1 hC3 hC4
    go_enter Try.func107, Try.ntmps107
    go_wp2_with fail
    go_region
    have hn1 := Hn1.out
    have hT1 := HT1.out
    have hC3 := HC3.out
    have hC4 := HC4.out
    clear HC3 HC4 HT1 Hn1
    obtain ⟨w2, hw2⟩ : ∃ w2, w2 = (W.setCell ⟨b, o + 8, none⟩ (.int .i64 (bits .andNot .i64 t0 pw))).drew := ⟨_, rfl⟩
    change NodeAt (W.setCell ⟨b, o + 8, none⟩ (.int .i64 (bits .andNot .i64 t0 pw))).drew b o ty _ S at hn1
    change Turned b o (fun _ => False) W (W.setCell ⟨b, o + 8, none⟩ (.int .i64 (bits .andNot .i64 t0 pw))).drew at hT1
    change (W.setCell ⟨b, o + 8, none⟩ (.int .i64 (bits .andNot .i64 t0 pw))).drew.cell? _ = _ at hC3 hC4
    rw [← hw2] at hn1 hT1 hC3 hC4 ⊢
    clear hC1 hC2 hc8 hc9 hf8 hf9 hw2 H
    cases on with
    | false =>
      have hfin := HP.out _ (by unfold markChg; rw [if_pos rfl]; rw [tset_false _ _ rfl Hpw.out]; exact hn1) hT1
      have Hfin := Lib.hid hfin
      clear hn1 hT1 hfin
      go_wp2_with fail
      exact bodyPost_end (results_none rfl _ _ _) rfl Hfin.out
    | true =>
      obtain ⟨hc8, hc9, -⟩ := hn1.cells
      simp only [Nd.t0, Nd.t1] at hc8 hc9
      have hf8 := hn1.frozen (o + 8)
      have hf9 := hn1.frozen (o + 9)
      have hn2 := (hn1.putT0 (bits .or .i64 (bits .andNot .i64 t0 pw) pw) (inI64_bits _ _ _)).drew
      have hT2 := (hT1.setCell (q := 8) (by omega) (.int .i64 (bits .or .i64 (bits .andNot .i64 t0 pw) pw))).drew
      have hfin := HP.out _ (by unfold markChg; rw [if_pos rfl]; rw [tset_true _ _ rfl Hpw.out]; exact hn2) hT2
      have Hfin := Lib.hid hfin
      clear hn1 hT1 hn2 hT2 hfin
      go_wp2_with fail
      go_region
      go_wp2_with fail
      exact bodyPost_end (results_none rfl _ _ _) rfl Hfin.out
  · have hn1 := (H.out.putT1 (bits .andNot .i64 t1 pw) (inI64_bits _ _ _)).drew
    have hT1 := ((Turned.refl b o (fun _ => False) W).setCell (q := 9) (by omega) (.int .i64 (bits .andNot .i64 t1 pw))).drew
    have hC3 : (W.setCell ⟨b, o + 9, none⟩ (.int .i64 (bits .andNot .i64 t1 pw))).drew.cell? ⟨bt, 0, none⟩ = some (.int .i64 (1 : Nat)) :=
      (World.cell?_setCell_far _ _ _ _ hbt).trans hC1
    have hC4 : (W.setCell ⟨b, o + 9, none⟩ (.int .i64 (bits .andNot .i64 t1 pw))).drew.cell? ⟨bo, 0, none⟩ = some (.bool on) :=
      (World.cell?_setCell_far _ _ _ _ hbo).trans hC2
    have Hn1 := Lib.hid hn1
    have HT1 := Lib.hid hT1
    have HC3 := Lib.hid hC3
    have HC4 := Lib.hid hC4
    clear hn1 hT1 hC3 hC4
    go_enter Try.func107, Try.ntmps107
    go_wp2_with fail
    go_region
    have hn1 := Hn1.out
    have hT1 := HT1.out
    have hC3 := HC3.out
    have hC4 := HC4.out
    clear HC3 HC4 HT1 Hn1
    obtain ⟨w2, hw2⟩ : ∃ w2, w2 = (W.setCell ⟨b, o + 8 + 1, none⟩ (.int .i64 (bits .andNot .i64 t1 pw))).drew := ⟨_, rfl⟩
    change NodeAt (W.setCell ⟨b, o + 8 + 1, none⟩ (.int .i64 (bits .andNot .i64 t1 pw))).drew b o ty _ S at hn1
    change Turned b o (fun _ => False) W (W.setCell ⟨b, o + 8 + 1, none⟩ (.int .i64 (bits .andNot .i64 t1 pw))).drew at hT1
    change (W.setCell ⟨b, o + 8 + 1, none⟩ (.int .i64 (bits .andNot .i64 t1 pw))).drew.cell? _ = _ at hC3 hC4
    rw [← hw2] at hn1 hT1 hC3 hC4 ⊢
    clear hC1 hC2 hc8 hc9 hf8 hf9 hw2 H
    cases on with
    | false =>
      have hfin := HP.out _ (by unfold markChg; rw [if_neg (by decide)]; rw [tset_false _ _ rfl Hpw.out]; exact hn1) hT1
      have Hfin := Lib.hid hfin
      clear hn1 hT1 hfin
      go_wp2_with fail
      exact bodyPost_end (results_none rfl _ _ _) rfl Hfin.out
    | true =>
      obtain ⟨hc8, hc9, -⟩ := hn1.cells
      simp only [Nd.t0, Nd.t1] at hc8 hc9
      have hf8 := hn1.frozen (o + 8)
      have hf9 := hn1.frozen (o + 9)
      have hn2 := (hn1.putT1 (bits .or .i64 (bits .andNot .i64 t1 pw) pw) (inI64_bits _ _ _)).drew
      have hT2 := (hT1.setCell (q := 9) (by omega) (.int .i64 (bits .or .i64 (bits .andNot .i64 t1 pw) pw))).drew
      have hfin := HP.out _ (by unfold markChg; rw [if_neg (by decide)]; rw [tset_true _ _ rfl Hpw.out]; exact hn2) hT2
      have Hfin := Lib.hid hfin
      clear hn1 hT1 hn2 hT2 hfin
      go_wp2_with fail
      go_region
      go_wp2_with fail
      exact bodyPost_end (results_none rfl _ _ _) rfl Hfin.out
end Go.Proofs.Ytmdmbnpgdkmklaa
