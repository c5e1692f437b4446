/- The two changes of a leaf entry: radix.Set's and radix.mark's function literals. -/
import Derived.Test.YtmdmbnpgdkmklaaRk2
namespace Go.Proofs.Ytmdmbnpgdkmklaa
open Go.RowKit
set_option linter.unusedVariables false
set_option linter.unusedSimpArgs false

/-- What a change of a leaf entry does: it turns the one node, its captured blocks K are as C says. -/
def Changes (fid : Nat) (capt : Array Value) (K : Nat → Prop) (C : World → Prop) (chg : Nd → Nat → Nd) : Prop :=
  ∀ (W : World) (b o : Nat) (ty : TypeId) (n : Nd) (S : Nat → Prop) (d : Nat), d < 8 → C W → ¬ K b → NodeAt W b o ty n S →
    Calls Try.prog fid (#[.pointer (some ⟨b, o, none⟩), .int .i64 d] ++ capt) W fun e W' => e = .returned (.tuple #[]) ∧ NodeAt W' b o ty (chg n d) S ∧ Turned b o (fun _ => False) W W'

def setChg (x : Int) (n : Nd) (d : Nat) : Nd := .mk (n.vs.set d x) (if x = 0 then tclr n.t0 d else n.t0) (if x = 0 then tclr n.t1 d else n.t1) n.ks
def markChg (tag : Nat) (on : Bool) (n : Nd) (d : Nat) : Nd := if tag = 0 then .mk n.vs (tset n.t0 d on) n.t1 n.ks else .mk n.vs n.t0 (tset n.t1 d on) n.ks

theorem pow_wrap {d : Nat} (hd : d < 8) : IntKind.i64.wrap (2 ^ d) = 2 ^ d := by
  match d, hd with
  | 0, _ | 1, _ | 2, _ | 3, _ | 4, _ | 5, _ | 6, _ | 7, _ => decide

set_option maxRecDepth 100000 in
set_option maxHeartbeats 4000000 in
theorem set1_spec (bv : Nat) (x : Int) (hx : inI64 x) : Changes 75 #[.pointer (some ⟨bv, 0, none⟩)] (fun k => k = bv) (fun W => W.cell? ⟨bv, 0, none⟩ = some (.int .i64 x)) (setChg x) := by
  intro W b o ty n S d hd hC hb h
  obtain ⟨v, t0, t1, ks⟩ := n
  obtain ⟨post, hpost⟩ : ∃ post : Ending → World → Prop, post = fun e W' => e = .returned (.tuple #[]) ∧ NodeAt W' b o ty (setChg x (.mk v t0 t1 ks) d) S ∧ Turned b o (fun _ => False) W W' := ⟨_, rfl⟩
  have HP : Hid (∀ W', NodeAt W' b o ty (setChg x (.mk v t0 t1 ks) d) S → Turned b o (fun _ => False) W W' → post (.returned (.tuple #[])) W') := Lib.hid (by rw [hpost]; exact fun W' a b => ⟨rfl, a, b⟩)
  rw [← hpost]
  show Calls Try.prog 75 #[.pointer (some ⟨b, o, none⟩), .int .i64 d, .pointer (some ⟨bv, 0, none⟩)] W post
  have H := Lib.hid h
  have hpw0 := pow_wrap hd
  obtain ⟨pw, hpwe⟩ : ∃ pw : Int, pw = 2 ^ d := ⟨_, rfl⟩
  have hpw : IntKind.i64.wrap (2 ^ d) = pw := by rw [hpw0, hpwe]
  have Hpw := Lib.hid hpwe
  have hbv : b ≠ bv := hb
  have hbv' : bv ≠ b := Ne.symm hb
  obtain ⟨-, -, hcv⟩ := h.cells
  have hcd := hcv d hd
  simp only [Nd.vs] at hcd
  have hfd := h.frozen (o + d)
  have hn1 := (h.putV x hx hd).drew
  have hT1 := ((Turned.refl b o (fun _ => False) W).setCell (q := d) (by omega) (.int .i64 x)).drew
  have hC1 : (W.setCell ⟨b, o + d, none⟩ (.int .i64 x)).drew.cell? ⟨bv, 0, none⟩ = some (.int .i64 x) := by
    rw [show (W.setCell ⟨b, o + d, none⟩ (.int .i64 x)).drew.cell? ⟨bv, 0, none⟩ = (W.setCell ⟨b, o + d, none⟩ (.int .i64 x)).cell? ⟨bv, 0, none⟩ from rfl]
    rw [World.cell?_setCell_far _ _ _ _ hb]; exact hC
  have Hn1 := Lib.hid hn1
  have HT1 := Lib.hid hT1
  have HC1 := Lib.hid hC1
  clear hn1 hT1 hC1 hcv hpw0 hpwe h hpost hb
  go_enter Try.func75, Try.ntmps75
  go_wp2_with fail
  go_region
  have hn1 := Hn1.out
  have hT1 := HT1.out
  have hC1 := HC1.out
  clear HC1 HT1 Hn1
  obtain ⟨w2, hw2⟩ : ∃ w2, w2 = (W.setCell ⟨b, o + d, none⟩ (.int .i64 x)).drew := ⟨_, rfl⟩
  rw [← hw2] at hn1 hT1 hC1 ⊢
  clear hC hcd hfd hw2 H
  by_cases hx0 : x = 0
  · subst hx0
    obtain ⟨hc8, hc9, -⟩ := hn1.cells
    simp only [Nd.t0, Nd.t1] at hc8 hc9
    have hf8 := hn1.frozen (o + 8)
    have hn2 := (hn1.putT0 (bits .andNot .i64 t0 pw) (inI64_bits _ _ _)).drew
    have hT2 := (hT1.setCell (q := 8) (by omega) (.int .i64 (bits .andNot .i64 t0 pw))).drew
    have Hn2 := Lib.hid hn2
    have HT2 := Lib.hid hT2
    clear hn1 hT1 hn2 hT2
    go_wp2_with fail
    go_region
    have hn2 := Hn2.out
    have hT2 := HT2.out
    clear HT2 Hn2
    obtain ⟨w3, hw3⟩ : ∃ w3, w3 = (w2.setCell ⟨b, o + 8, none⟩ (.int .i64 (bits .andNot .i64 t0 pw))).drew := ⟨_, rfl⟩
    rw [← hw3] at hn2 hT2 ⊢
    clear hc8 hc9 hf8 hw3 hC1
    obtain ⟨hc8, hc9, -⟩ := hn2.cells
    simp only [Nd.t0, Nd.t1] at hc8 hc9
    have hf9 := hn2.frozen (o + 9)
    have hn3 := (hn2.putT1 (bits .andNot .i64 t1 pw) (inI64_bits _ _ _)).drew
    have hT3 := (hT2.setCell (q := 9) (by omega) (.int .i64 (bits .andNot .i64 t1 pw))).drew
    have hfin := HP.out _ (by rw [Hpw.out] at hn3; exact hn3) (by rw [Hpw.out] at hT3; exact hT3)
    rw [← Hpw.out] at hfin
    have Hfin := Lib.hid hfin
    clear hn2 hT2 hn3 hT3 hfin
    go_wp2_with fail
    go_region
    go_wp2_with fail
    exact bodyPost_end (results_none rfl _ _ _) rfl Hfin.out
  · have hb1 : (x != 0) = true := by simpa using hx0
    have hb2 : (x == 0) = false := by simpa using hx0
    have hfin := HP.out _ (by unfold setChg; rw [if_neg hx0, if_neg hx0]; exact hn1) hT1
    have Hfin := Lib.hid hfin
    clear hn1 hT1 hfin
    go_wp2_with fail
    exact bodyPost_end (results_none rfl _ _ _) rfl Hfin.out
end Go.Proofs.Ytmdmbnpgdkmklaa
