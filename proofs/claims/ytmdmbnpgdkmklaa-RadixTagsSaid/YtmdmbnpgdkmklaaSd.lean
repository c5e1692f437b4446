/- refresh, the two changes of a leaf entry, empty, a child taken out and put back. -/
import Derived.Test.YtmdmbnpgdkmklaaSc
import Derived.Deep.RegionHeld3
import Derived.Handy
import Derived.Deep.MidRow
namespace Go.Proofs.Ytmdmbnpgdkmklaa
open Go.RowKit
set_option linter.unusedVariables false
set_option linter.unusedSimpArgs false

/-- A tag with bit d cleared, set. -/
def tclr (t : Int) (d : Nat) : Int := bits .andNot .i64 t (2 ^ d)
def tset (t : Int) (d : Nat) (on : Bool) : Int := if on then bits .or .i64 (tclr t d) (2 ^ d) else tclr t d
theorem tset_false (t : Int) (d : Nat) {on : Bool} (h : on = false) {pw : Int} (hpw : pw = 2 ^ d) : tset t d on = bits .andNot .i64 t pw := by rw [h, hpw]; rfl
theorem tset_true (t : Int) (d : Nat) {on : Bool} (h : on = true) {pw : Int} (hpw : pw = 2 ^ d) : tset t d on = bits .or .i64 (bits .andNot .i64 t pw) pw := by rw [h, hpw]; rfl

theorem inI64_tset (t : Int) (d : Nat) (on : Bool) : inI64 (tset t d on) := by
  unfold tset tclr
  split <;> exact inI64_bits _ _ _

/-- The children's row of a node, where it lies. -/
theorem NodeAt.row {w : World} {b o : Nat} {ty : TypeId} {v : List Int} {t0 t1 : Int} {ks : List Nd} {S : Nat → Prop} (h : NodeAt w b o ty (.mk v t0 t1 ks) S) (hne : ks ≠ []) :
    ∃ bk cap, w.cell? ⟨b, o + 10, none⟩ = some (.slice (some ⟨bk, 0, none⟩) ks.length cap) ∧ b ≠ bk ∧ S bk ∧
      ∀ d (hd : d < ks.length), w.cell? ⟨bk, d * 11 + 8, none⟩ = some (.int .i64 ks[d].t0) ∧ w.cell? ⟨bk, d * 11 + 9, none⟩ = some (.int .i64 ks[d].t1) := by
  obtain ⟨cur, c, hg, hr, ho, hn⟩ := h
  cases ho with
  | leaf => exact absurd rfl hne
  | node v t0 t1 ks bk cap curk f F hv8 hvb8 h08 h18 hne hcp hgk hcur hf hk hb hd =>
    refine ⟨bk, cap, ?_, fun e => hn (.inl e), .inl rfl, fun d hd => kid_tags (hk d hd).isN (hf d hd)⟩
    obtain ⟨v0, v1, v2, v3, v4, v5, v6, v7, rfl⟩ := list8 hv8
    exact hr 10 (by simp [ndCells])

set_option maxRecDepth 100000 in
set_option maxHeartbeats 4000000 in
theorem refresh_spec {W : World} {b o : Nat} {ty : TypeId} {v : List Int} {t0 t1 : Int} {ks : List Nd} {S : Nat → Prop} (h : NodeAt W b o ty (.mk v t0 t1 ks) S) (h8 : ks.length = 8) (d : Nat) (hd : d < 8) (kd : Nd) (hkd : ks[d]? = some kd) :
    Calls Try.prog 73 #[.pointer (some ⟨b, o, none⟩), .int .i64 d] W fun e W' => e = .returned (.tuple #[]) ∧ NodeAt W' b o ty (.mk v (tset t0 d (kd.t0 != 0)) (tset t1 d (kd.t1 != 0)) ks) S ∧ Turned b o (fun _ => False) W W' := by
  obtain ⟨post, hpost⟩ : ∃ post : Ending → World → Prop, post = fun e W' => e = .returned (.tuple #[]) ∧ NodeAt W' b o ty (.mk v (tset t0 d (kd.t0 != 0)) (tset t1 d (kd.t1 != 0)) ks) S ∧ Turned b o (fun _ => False) W W' := ⟨_, rfl⟩
  have HP : Hid (∀ W', NodeAt W' b o ty (.mk v (tset t0 d (kd.t0 != 0)) (tset t1 d (kd.t1 != 0)) ks) S → Turned b o (fun _ => False) W W' → post (.returned (.tuple #[])) W') := Lib.hid (by rw [hpost]; exact fun W' a b => ⟨rfl, a, b⟩)
  rw [← hpost]
  have hkd' : ∃ hd : d < ks.length, ks[d] = kd := by
    rw [List.getElem?_eq_some_iff] at hkd
    exact hkd
  have HK := Lib.hid hkd'
  have H := Lib.hid h
  have H8 := Lib.hid h8
  have hpw0 : IntKind.i64.wrap (2 ^ d) = 2 ^ d := by
    match d, hd with
    | 0, _ | 1, _ | 2, _ | 3, _ | 4, _ | 5, _ | 6, _ | 7, _ => decide
  obtain ⟨pw, hpwe⟩ : ∃ pw : Int, pw = 2 ^ d := ⟨_, rfl⟩
  have hpw : IntKind.i64.wrap (2 ^ d) = pw := by rw [hpw0, hpwe]
  have Hpw := Lib.hid hpwe
  clear hpw0 hpwe
  clear h hpost hkd hkd' h8
  go_enter Try.func73, Try.ntmps73
  go_wp2_with fail
  go_loopw [5] (fun i wr => ∃ (k : Nat) (s0 s1 : Int), k ≤ 2 ∧ i = .int .i64 k ∧ Hid (NodeAt wr b o ty (.mk v s0 s1 ks) S) ∧ Hid (Turned b o (fun _ => False) W wr) ∧
    Hid (s0 = if 1 ≤ k then tset t0 d (kd.t0 != 0) else t0) ∧ Hid (s1 = if 2 ≤ k then tset t1 d (kd.t1 != 0) else t1)) (fun i _ => 2 - (intOf i).toNat)
  case atStart => exact ⟨0, t0, t1, by omega, rfl, H, Lib.hid (Turned.refl _ _ _ _), Lib.hid rfl, Lib.hid rfl⟩
  case round =>
    obtain ⟨k, s0, s1, hk2, rfl, HN, HT, Hs0, Hs1⟩ := hrel
    have h88 := H8.out
    obtain ⟨hd', hkde⟩ := HK.out
    obtain ⟨bk, cap, hc10, hbk, hSbk, hkt⟩ := HN.out.row (by rintro rfl; simp at h88)
    obtain ⟨hc8, hc9, -⟩ := HN.out.cells
    obtain ⟨hkt0, hkt1⟩ := hkt d hd'
    rw [h88] at hc10
    rw [hkde] at hkt0 hkt1
    simp only [Nd.t0, Nd.t1] at hc8 hc9
    have hf8 := HN.out.frozen (o + 8)
    have hf9 := HN.out.frozen (o + 9)
    clear hkt
    obtain ⟨u0, hu0⟩ : ∃ u0, u0 = kd.t0 := ⟨_, rfl⟩
    obtain ⟨u1, hu1⟩ : ∃ u1, u1 = kd.t1 := ⟨_, rfl⟩
    change wr.cell? ⟨bk, d * 11 + 8, none⟩ = some (.int .i64 kd.t0) at hkt0
    change wr.cell? ⟨bk, d * 11 + 9, none⟩ = some (.int .i64 kd.t1) at hkt1
    rw [← hu0] at hkt0
    rw [← hu1] at hkt1
    have Hu0 := Lib.hid hu0
    have Hu1 := Lib.hid hu1
    clear hu0 hu1
    have hbk' : bk ≠ b := Ne.symm hbk
    have hk3 : k = 0 ∨ k = 1 ∨ k = 2 := by omega
    rcases hk3 with rfl | rfl | rfl
    · by_cases hz : u0 = 0
      · subst hz
        have hs2 : tset s0 d (kd.t0 != 0) = bits .andNot .i64 s0 pw := tset_false _ _ (by rw [← Hu0.out]; rfl) Hpw.out
        have hn2 := HN.out.putT0 (bits .andNot .i64 s0 pw) (inI64_bits _ _ _)
        have hT2 := HT.out.setCell (q := 8) (by omega) (.int .i64 (bits .andNot .i64 s0 pw))
        have Hs2 := Lib.hid hs2
        have Hn2 := Lib.hid hn2.drew
        have HT2 := Lib.hid hT2.drew
        clear hs2 hn2 hT2
        go_wp2_with fail
        go_region
        go_wp2_with fail
        go_roundw
        case rel =>
          refine ⟨1, _, _, by omega, by go_num, Hn2, HT2, Lib.hid ?_, Lib.hid ?_⟩
          · rw [← Hs2.out, Hs0.out]; rfl
          · rw [Hs1.out]; rfl
        case measure => simp [intOf]
      · have hb1 : (u0 != 0) = true := by simpa using hz
        have hb2 : (u0 == 0) = false := by simpa using hz
        have hs2 : tset s0 d (kd.t0 != 0) = bits .or .i64 (bits .andNot .i64 s0 pw) pw := tset_true _ _ (by rw [← Hu0.out]; exact hb1) Hpw.out
        have Hs2 := Lib.hid hs2
        clear hs2
        go_wp2_with fail
        go_region
        have hn2 := (HN.out.putT0 (bits .andNot .i64 s0 pw) (inI64_bits _ _ _)).drew
        have hT2 := (HT.out.setCell (q := 8) (by omega) (.int .i64 (bits .andNot .i64 s0 pw))).drew
        obtain ⟨w2, hw2⟩ : ∃ w2, w2 = (wr.setCell ⟨b, o + 8, none⟩ (.int .i64 (bits .andNot .i64 s0 pw))).drew := ⟨_, rfl⟩
        change NodeAt (wr.setCell ⟨b, o + 8, none⟩ (.int .i64 (bits .andNot .i64 s0 pw))).drew b o ty _ S at hn2
        change Turned b o (fun _ => False) W (wr.setCell ⟨b, o + 8, none⟩ (.int .i64 (bits .andNot .i64 s0 pw))).drew at hT2
        rw [← hw2] at hn2 hT2 ⊢
        clear hc10 hbk hbk' hSbk hkt0 hkt1 hc8 hc9 hf8 hf9 hw2
        obtain ⟨bk, cap, hc10, hbk, hSbk, hkt⟩ := hn2.row (by rintro rfl; simp at h88)
        obtain ⟨hc8, hc9, -⟩ := hn2.cells
        obtain ⟨hkt0, hkt1⟩ := hkt d hd'
        rw [h88] at hc10
        rw [hkde] at hkt0 hkt1
        simp only [Nd.t0, Nd.t1] at hc8 hc9
        have hf8 := hn2.frozen (o + 8)
        have hf9 := hn2.frozen (o + 9)
        clear hkt
        change w2.cell? ⟨bk, d * 11 + 8, none⟩ = some (.int .i64 kd.t0) at hkt0
        change w2.cell? ⟨bk, d * 11 + 9, none⟩ = some (.int .i64 kd.t1) at hkt1
        rw [← Hu0.out] at hkt0
        rw [← Hu1.out] at hkt1
        have hbk' : bk ≠ b := Ne.symm hbk
        have hn3 := hn2.putT0 (bits .or .i64 (bits .andNot .i64 s0 pw) pw) (inI64_bits _ _ _)
        have hT3 := hT2.setCell (q := 8) (by omega) (.int .i64 (bits .or .i64 (bits .andNot .i64 s0 pw) pw))
        have Hn3 := Lib.hid hn3.drew
        have HT3 := Lib.hid hT3.drew
        clear hn2 hT2 hn3 hT3
        go_wp2_with fail
        go_region
        go_wp2_with fail
        go_roundw
        case rel =>
          refine ⟨1, _, _, by omega, by go_num, Hn3, HT3, Lib.hid ?_, Lib.hid ?_⟩
          · rw [← Hs2.out, Hs0.out]; rfl
          · rw [Hs1.out]; rfl
        case measure => simp [intOf]
    · by_cases hz : u1 = 0
      · subst hz
        have hs2 : tset s1 d (kd.t1 != 0) = bits .andNot .i64 s1 pw := tset_false _ _ (by rw [← Hu1.out]; rfl) Hpw.out
        have hn2 := HN.out.putT1 (bits .andNot .i64 s1 pw) (inI64_bits _ _ _)
        have hT2 := HT.out.setCell (q := 9) (by omega) (.int .i64 (bits .andNot .i64 s1 pw))
        have Hs2 := Lib.hid hs2
        have Hn2 := Lib.hid hn2.drew
        have HT2 := Lib.hid hT2.drew
        clear hs2 hn2 hT2
        go_wp2_with fail
        go_region
        go_wp2_with fail
        go_roundw
        case rel =>
          refine ⟨2, _, _, by omega, by go_num, Hn2, HT2, Lib.hid ?_, Lib.hid ?_⟩
          · rw [Hs0.out]; rfl
          · rw [← Hs2.out, Hs1.out]; rfl
        case measure => simp [intOf]
      · have hb1 : (u1 != 0) = true := by simpa using hz
        have hb2 : (u1 == 0) = false := by simpa using hz
        have hs2 : tset s1 d (kd.t1 != 0) = bits .or .i64 (bits .andNot .i64 s1 pw) pw := tset_true _ _ (by rw [← Hu1.out]; exact hb1) Hpw.out
        have Hs2 := Lib.hid hs2
        clear hs2
        go_wp2_with fail
        go_region
        have hn2 := (HN.out.putT1 (bits .andNot .i64 s1 pw) (inI64_bits _ _ _)).drew
        have hT2 := (HT.out.setCell (q := 9) (by omega) (.int .i64 (bits .andNot .i64 s1 pw))).drew
        obtain ⟨w2, hw2⟩ : ∃ w2, w2 = (wr.setCell ⟨b, o + 8 + 1, none⟩ (.int .i64 (bits .andNot .i64 s1 pw))).drew := ⟨_, rfl⟩
        change NodeAt (wr.setCell ⟨b, o + 8 + 1, none⟩ (.int .i64 (bits .andNot .i64 s1 pw))).drew b o ty _ S at hn2
        change Turned b o (fun _ => False) W (wr.setCell ⟨b, o + 8 + 1, none⟩ (.int .i64 (bits .andNot .i64 s1 pw))).drew at hT2
        rw [← hw2] at hn2 hT2 ⊢
        clear hc10 hbk hbk' hSbk hkt0 hkt1 hc8 hc9 hf8 hf9 hw2
        obtain ⟨bk, cap, hc10, hbk, hSbk, hkt⟩ := hn2.row (by rintro rfl; simp at h88)
        obtain ⟨hc8, hc9, -⟩ := hn2.cells
        obtain ⟨hkt0, hkt1⟩ := hkt d hd'
        rw [h88] at hc10
        rw [hkde] at hkt0 hkt1
        simp only [Nd.t0, Nd.t1] at hc8 hc9
        have hf8 := hn2.frozen (o + 8)
        have hf9 := hn2.frozen (o + 9)
        clear hkt
        change w2.cell? ⟨bk, d * 11 + 8, none⟩ = some (.int .i64 kd.t0) at hkt0
        change w2.cell? ⟨bk, d * 11 + 9, none⟩ = some (.int .i64 kd.t1) at hkt1
        rw [← Hu0.out] at hkt0
        rw [← Hu1.out] at hkt1
        have hbk' : bk ≠ b := Ne.symm hbk
        have hn3 := hn2.putT1 (bits .or .i64 (bits .andNot .i64 s1 pw) pw) (inI64_bits _ _ _)
        have hT3 := hT2.setCell (q := 9) (by omega) (.int .i64 (bits .or .i64 (bits .andNot .i64 s1 pw) pw))
        have Hn3 := Lib.hid hn3.drew
        have HT3 := Lib.hid hT3.drew
        clear hn2 hT2 hn3 hT3
        go_wp2_with fail
        go_region
        go_wp2_with fail
        go_roundw
        case rel =>
          refine ⟨2, _, _, by omega, by go_num, Hn3, HT3, Lib.hid ?_, Lib.hid ?_⟩
          · rw [Hs0.out]; rfl
          · rw [← Hs2.out, Hs1.out]; rfl
        case measure => simp [intOf]
    · have hfin := HP.out wr (by have h0 := Hs0.out; have h1 := Hs1.out; simp at h0 h1; rw [← h0, ← h1]; exact HN.out) HT.out
      have Hfin := Lib.hid hfin
      clear hfin
      go_wp2_with fail
      exact bodyPost_end (results_none rfl _ _ _) rfl Hfin.out
end Go.Proofs.Ytmdmbnpgdkmklaa
namespace Go.Proofs.Ytmdmbnpgdkmklaa
open Go.RowKit
set_option linter.unusedVariables false
set_option linter.unusedSimpArgs false

/-- What a change of a leaf entry does: it turns the one node, its captured blocks K are as C says. -/
def Changes (fid : Nat) (capt : Array Value) (K : Nat → Prop) (C : World → Prop) (chg : Nd → Nat → Nd) : Prop :=
  ∀ (W : World) (b o : Nat) (ty : TypeId) (n : Nd) (S : Nat → Prop) (d : Nat), d < 8 → C W → ¬ K b → NodeAt W b o ty n S →
    Calls Try.prog fid (#[.pointer (some ⟨b, o, none⟩), .int .i64 d] ++ capt) W fun e W' => e = .returned (.tuple #[]) ∧ NodeAt W' b o ty (chg n d) S ∧ Turned b o (fun _ => False) W W'

def setChg (x : Int) (n : Nd) (d : Nat) : Nd := .mk (n.vs.set d x) (if x = 0 then tclr n.t0 d else n.t0) (if x = 0 then tclr n.t1 d else n.t1) n.ks
def markChg (tag : Nat) (on : Bool) (n : Nd) (d : Nat) : Nd := if tag = 0 then .mk n.vs (tset n.t0 d on) n.t1 n.ks else .mk n.vs n.t0 (tset n.t1 d on) n.ks

theorem pow_wrap {d : Nat} (hd : d < 8) : IntKind.i64.wrap (2 ^ d) = 2 ^ d := by
  match d, hd with
  | 0, _ | 1, _ | 2, _ | 3, _ | 4, _ | 5, _ | 6, _ | 7, _ => decide

set_option maxRecDepth 100000 in
set_option maxHeartbeats 4000000 in
theorem set1_spec (bv : Nat) (x : Int) (hx : inI64 x) : Changes 75 #[.pointer (some ⟨bv, 0, none⟩)] (fun k => k = bv) (fun W => W.cell? ⟨bv, 0, none⟩ = some (.int .i64 x)) (setChg x) := by
  intro W b o ty n S d hd hC hb h
  obtain ⟨v, t0, t1, ks⟩ := n
  obtain ⟨post, hpost⟩ : ∃ post : Ending → World → Prop, post = fun e W' => e = .returned (.tuple #[]) ∧ NodeAt W' b o ty (setChg x (.mk v t0 t1 ks) d) S ∧ Turned b o (fun _ => False) W W' := ⟨_, rfl⟩
  have HP : Hid (∀ W', NodeAt W' b o ty (setChg x (.mk v t0 t1 ks) d) S → Turned b o (fun _ => False) W W' → post (.returned (.tuple #[])) W') := Lib.hid (by rw [hpost]; exact fun W' a b => ⟨rfl, a, b⟩)
  rw [← hpost]
  show Calls Try.prog 75 #[.pointer (some ⟨b, o, none⟩), .int .i64 d, .pointer (some ⟨bv, 0, none⟩)] W post
  have H := Lib.hid h
  have hpw0 := pow_wrap hd
  obtain ⟨pw, hpwe⟩ : ∃ pw : Int, pw = 2 ^ d := ⟨_, rfl⟩
  have hpw : IntKind.i64.wrap (2 ^ d) = pw := by rw [hpw0, hpwe]
  have Hpw := Lib.hid hpwe
  have hbv : b ≠ bv := hb
  have hbv' : bv ≠ b := Ne.symm hb
  obtain ⟨-, -, hcv⟩ := h.cells
  have hcd := hcv d hd
  simp only [Nd.vs] at hcd
  have hfd := h.frozen (o + d)
  have hn1 := (h.putV x hx hd).drew
  have hT1 := ((Turned.refl b o (fun _ => False) W).setCell (q := d) (by omega) (.int .i64 x)).drew
  have hC1 : (W.setCell ⟨b, o + d, none⟩ (.int .i64 x)).drew.cell? ⟨bv, 0, none⟩ = some (.int .i64 x) := by
    rw [show (W.setCell ⟨b, o + d, none⟩ (.int .i64 x)).drew.cell? ⟨bv, 0, none⟩ = (W.setCell ⟨b, o + d, none⟩ (.int .i64 x)).cell? ⟨bv, 0, none⟩ from rfl]
    rw [World.cell?_setCell_far _ _ _ _ hb]; exact hC
  have Hn1 := Lib.hid hn1
  have HT1 := Lib.hid hT1
  have HC1 := Lib.hid hC1
  clear hn1 hT1 hC1 hcv hpw0 hpwe h hpost hb
  go_enter Try.func75, Try.ntmps75
  go_wp2_with fail
  go_region
  have hn1 := Hn1.out
  have hT1 := HT1.out
  have hC1 := HC1.out
  clear HC1 HT1 Hn1
  obtain ⟨w2, hw2⟩ : ∃ w2, w2 = (W.setCell ⟨b, o + d, none⟩ (.int .i64 x)).drew := ⟨_, rfl⟩
  rw [← hw2] at hn1 hT1 hC1 ⊢
  clear hC hcd hfd hw2 H
  by_cases hx0 : x = 0
  · subst hx0
    obtain ⟨hc8, hc9, -⟩ := hn1.cells
    simp only [Nd.t0, Nd.t1] at hc8 hc9
    have hf8 := hn1.frozen (o + 8)
    have hn2 := (hn1.putT0 (bits .andNot .i64 t0 pw) (inI64_bits _ _ _)).drew
    have hT2 := (hT1.setCell (q := 8) (by omega) (.int .i64 (bits .andNot .i64 t0 pw))).drew
    have Hn2 := Lib.hid hn2
    have HT2 := Lib.hid hT2
    clear hn1 hT1 hn2 hT2
    go_wp2_with fail
    go_region
    have hn2 := Hn2.out
    have hT2 := HT2.out
    clear HT2 Hn2
    obtain ⟨w3, hw3⟩ : ∃ w3, w3 = (w2.setCell ⟨b, o + 8, none⟩ (.int .i64 (bits .andNot .i64 t0 pw))).drew := ⟨_, rfl⟩
    rw [← hw3] at hn2 hT2 ⊢
    clear hc8 hc9 hf8 hw3 hC1
    obtain ⟨hc8, hc9, -⟩ := hn2.cells
    simp only [Nd.t0, Nd.t1] at hc8 hc9
    have hf9 := hn2.frozen (o + 9)
    have hn3 := (hn2.putT1 (bits .andNot .i64 t1 pw) (inI64_bits _ _ _)).drew
    have hT3 := (hT2.setCell (q := 9) (by omega) (.int .i64 (bits .andNot .i64 t1 pw))).drew
    have hfin := HP.out _ (by rw [Hpw.out] at hn3; exact hn3) (by rw [Hpw.out] at hT3; exact hT3)
    rw [← Hpw.out] at hfin
    have Hfin := Lib.hid hfin
    clear hn2 hT2 hn3 hT3 hfin
    go_wp2_with fail
    go_region
    go_wp2_with fail
    exact bodyPost_end (results_none rfl _ _ _) rfl Hfin.out
  · have hb1 : (x != 0) = true := by simpa using hx0
    have hb2 : (x == 0) = false := by simpa using hx0
    have hfin := HP.out _ (by unfold setChg; rw [if_neg hx0, if_neg hx0]; exact hn1) hT1
    have Hfin := Lib.hid hfin
    clear hn1 hT1 hfin
    go_wp2_with fail
    exact bodyPost_end (results_none rfl _ _ _) rfl Hfin.out
end Go.Proofs.Ytmdmbnpgdkmklaa
namespace Go.Proofs.Ytmdmbnpgdkmklaa
open Go.RowKit
set_option linter.unusedVariables false
set_option linter.unusedSimpArgs false

set_option maxRecDepth 100000 in
set_option maxHeartbeats 4000000 in
theorem mark1_spec (bt bo : Nat) (tag : Nat) (on : Bool) (htag : tag ≤ 1) : Changes 107 #[.pointer (some ⟨bt, 0, none⟩), .pointer (some ⟨bo, 0, none⟩)] (fun k => k = bt ∨ k = bo) (fun W => W.cell? ⟨bt, 0, none⟩ = some (.int .i64 tag) ∧ W.cell? ⟨bo, 0, none⟩ = some (.bool on)) (markChg tag on) := by
  intro W b o ty n S d hd hC hb h
  obtain ⟨v, t0, t1, ks⟩ := n
  obtain ⟨post, hpost⟩ : ∃ post : Ending → World → Prop, post = fun e W' => e = .returned (.tuple #[]) ∧ NodeAt W' b o ty (markChg tag on (.mk v t0 t1 ks) d) S ∧ Turned b o (fun _ => False) W W' := ⟨_, rfl⟩
  have HP : Hid (∀ W', NodeAt W' b o ty (markChg tag on (.mk v t0 t1 ks) d) S → Turned b o (fun _ => False) W W' → post (.returned (.tuple #[])) W') := Lib.hid (by rw [hpost]; exact fun W' a b => ⟨rfl, a, b⟩)
  rw [← hpost]
  show Calls Try.prog 107 #[.pointer (some ⟨b, o, none⟩), .int .i64 d, .pointer (some ⟨bt, 0, none⟩), .pointer (some ⟨bo, 0, none⟩)] W post
  have hpw0 := pow_wrap hd
  obtain ⟨pw, hpwe⟩ : ∃ pw : Int, pw = 2 ^ d := ⟨_, rfl⟩
  have hpw : IntKind.i64.wrap (2 ^ d) = pw := by rw [hpw0, hpwe]
  have Hpw := Lib.hid hpwe
  have hbt : b ≠ bt := fun e => hb (.inl e)
  have hbt' : bt ≠ b := Ne.symm hbt
  have hbo : b ≠ bo := fun e => hb (.inr e)
  have hbo' : bo ≠ b := Ne.symm hbo
  obtain ⟨hC1, hC2⟩ := hC
  obtain ⟨hc8, hc9, -⟩ := h.cells
  simp only [Nd.t0, Nd.t1] at hc8 hc9
  have hf8 := h.frozen (o + 8)
  have hf9 := h.frozen (o + 9)
  have H := Lib.hid h
  clear hpw0 hpwe h hpost hb
  have ht2 : tag = 0 ∨ tag = 1 := by omega
  rcases ht2 with rfl | rfl
  · have hn1 := (H.out.putT0 (bits .andNot .i64 t0 pw) (inI64_bits _ _ _)).drew
    have hT1 := ((Turned.refl b o (fun _ => False) W).setCell (q := 8) (by omega) (.int .i64 (bits .andNot .i64 t0 pw))).drew
    have hC3 : (W.setCell ⟨b, o + 8, none⟩ (.int .i64 (bits .andNot .i64 t0 pw))).drew.cell? ⟨bt, 0, none⟩ = some (.int .i64 (0 : Nat)) :=
      (World.cell?_setCell_far _ _ _ _ hbt).trans hC1
    have hC4 : (W.setCell ⟨b, o + 8, none⟩ (.int .i64 (bits .andNot .i64 t0 pw))).drew.cell? ⟨bo, 0, none⟩ = some (.bool on) :=
      (World.cell?_setCell_far _ _ _ _ hbo).trans hC2
    have Hn1 := Lib.hid hn1
    have HT1 := Lib.hid hT1
    have HC3 := Lib.hid hC3
    have HC4 := Lib.hid hC4
    clear hn1 hT1 hC3 hC4
    go_enter Try.func107, Try.ntmps107
    go_wp2_with fail
    go_region
    have hn1 := Hn1.out
    have hT1 := HT1.out
    have hC3 := HC3.out
    have hC4 := HC4.out
    clear HC3 HC4 HT1 Hn1
    obtain ⟨w2, hw2⟩ : ∃ w2, w2 = (W.setCell ⟨b, o + 8, none⟩ (.int .i64 (bits .andNot .i64 t0 pw))).drew := ⟨_, rfl⟩
    change NodeAt (W.setCell ⟨b, o + 8, none⟩ (.int .i64 (bits .andNot .i64 t0 pw))).drew b o ty _ S at hn1
    change Turned b o (fun _ => False) W (W.setCell ⟨b, o + 8, none⟩ (.int .i64 (bits .andNot .i64 t0 pw))).drew at hT1
    change (W.setCell ⟨b, o + 8, none⟩ (.int .i64 (bits .andNot .i64 t0 pw))).drew.cell? _ = _ at hC3 hC4
    rw [← hw2] at hn1 hT1 hC3 hC4 ⊢
    clear hC1 hC2 hc8 hc9 hf8 hf9 hw2 H
    cases on with
    | false =>
      have hfin := HP.out _ (by unfold markChg; rw [if_pos rfl]; rw [tset_false _ _ rfl Hpw.out]; exact hn1) hT1
      have Hfin := Lib.hid hfin
      clear hn1 hT1 hfin
      go_wp2_with fail
      exact bodyPost_end (results_none rfl _ _ _) rfl Hfin.out
    | true =>
      obtain ⟨hc8, hc9, -⟩ := hn1.cells
      simp only [Nd.t0, Nd.t1] at hc8 hc9
      have hf8 := hn1.frozen (o + 8)
      have hf9 := hn1.frozen (o + 9)
      have hn2 := (hn1.putT0 (bits .or .i64 (bits .andNot .i64 t0 pw) pw) (inI64_bits _ _ _)).drew
      have hT2 := (hT1.setCell (q := 8) (by omega) (.int .i64 (bits .or .i64 (bits .andNot .i64 t0 pw) pw))).drew
      have hfin := HP.out _ (by unfold markChg; rw [if_pos rfl]; rw [tset_true _ _ rfl Hpw.out]; exact hn2) hT2
      have Hfin := Lib.hid hfin
      clear hn1 hT1 hn2 hT2 hfin
      go_wp2_with fail
      go_region
      go_wp2_with fail
      exact bodyPost_end (results_none rfl _ _ _) rfl Hfin.out
  · have hn1 := (H.out.putT1 (bits .andNot .i64 t1 pw) (inI64_bits _ _ _)).drew
    have hT1 := ((Turned.refl b o (fun _ => False) W).setCell (q := 9) (by omega) (.int .i64 (bits .andNot .i64 t1 pw))).drew
    have hC3 : (W.setCell ⟨b, o + 9, none⟩ (.int .i64 (bits .andNot .i64 t1 pw))).drew.cell? ⟨bt, 0, none⟩ = some (.int .i64 (1 : Nat)) :=
      (World.cell?_setCell_far _ _ _ _ hbt).trans hC1
    have hC4 : (W.setCell ⟨b, o + 9, none⟩ (.int .i64 (bits .andNot .i64 t1 pw))).drew.cell? ⟨bo, 0, none⟩ = some (.bool on) :=
      (World.cell?_setCell_far _ _ _ _ hbo).trans hC2
    have Hn1 := Lib.hid hn1
    have HT1 := Lib.hid hT1
    have HC3 := Lib.hid hC3
    have HC4 := Lib.hid hC4
    clear hn1 hT1 hC3 hC4
    go_enter Try.func107, Try.ntmps107
    go_wp2_with fail
    go_region
    have hn1 := Hn1.out
    have hT1 := HT1.out
    have hC3 := HC3.out
    have hC4 := HC4.out
    clear HC3 HC4 HT1 Hn1
    obtain ⟨w2, hw2⟩ : ∃ w2, w2 = (W.setCell ⟨b, o + 8 + 1, none⟩ (.int .i64 (bits .andNot .i64 t1 pw))).drew := ⟨_, rfl⟩
    change NodeAt (W.setCell ⟨b, o + 8 + 1, none⟩ (.int .i64 (bits .andNot .i64 t1 pw))).drew b o ty _ S at hn1
    change Turned b o (fun _ => False) W (W.setCell ⟨b, o + 8 + 1, none⟩ (.int .i64 (bits .andNot .i64 t1 pw))).drew at hT1
    change (W.setCell ⟨b, o + 8 + 1, none⟩ (.int .i64 (bits .andNot .i64 t1 pw))).drew.cell? _ = _ at hC3 hC4
    rw [← hw2] at hn1 hT1 hC3 hC4 ⊢
    clear hC1 hC2 hc8 hc9 hf8 hf9 hw2 H
    cases on with
    | false =>
      have hfin := HP.out _ (by unfold markChg; rw [if_neg (by decide)]; rw [tset_false _ _ rfl Hpw.out]; exact hn1) hT1
      have Hfin := Lib.hid hfin
      clear hn1 hT1 hfin
      go_wp2_with fail
      exact bodyPost_end (results_none rfl _ _ _) rfl Hfin.out
    | true =>
      obtain ⟨hc8, hc9, -⟩ := hn1.cells
      simp only [Nd.t0, Nd.t1] at hc8 hc9
      have hf8 := hn1.frozen (o + 8)
      have hf9 := hn1.frozen (o + 9)
      have hn2 := (hn1.putT1 (bits .or .i64 (bits .andNot .i64 t1 pw) pw) (inI64_bits _ _ _)).drew
      have hT2 := (hT1.setCell (q := 9) (by omega) (.int .i64 (bits .or .i64 (bits .andNot .i64 t1 pw) pw))).drew
      have hfin := HP.out _ (by unfold markChg; rw [if_neg (by decide)]; rw [tset_true _ _ rfl Hpw.out]; exact hn2) hT2
      have Hfin := Lib.hid hfin
      clear hn1 hT1 hn2 hT2 hfin
      go_wp2_with fail
      go_region
      go_wp2_with fail
      exact bodyPost_end (results_none rfl _ _ _) rfl Hfin.out
end Go.Proofs.Ytmdmbnpgdkmklaa
namespace Go.Proofs.Ytmdmbnpgdkmklaa
open Go.RowKit
set_option linter.unusedVariables false
set_option linter.unusedSimpArgs false

mutual
def Nd.emp : Nd → Bool
  | .mk v _ _ ks => v.all (· == 0) && empL ks
def empL : List Nd → Bool
  | [] => true
  | n :: ks => n.emp && empL ks
end

theorem empL_all (ks : List Nd) : empL ks = ks.all Nd.emp := by
  induction ks with
  | nil => rfl
  | cons n ks ih => simp [empL, ih]

theorem empL_take (ks : List Nd) (j : Nat) (hj : j < ks.length) : empL (ks.take (j + 1)) = (empL (ks.take j) && ks[j].emp) := by
  rw [empL_all, empL_all, List.take_succ_eq_append_getElem hj, List.all_append]
  simp

theorem empL_false (ks : List Nd) (j : Nat) (hj : j < ks.length) (h : ks[j].emp = false) : empL ks = false := by
  rw [empL_all, List.all_eq_false]
  exact ⟨ks[j], List.getElem_mem hj, by simp [h]⟩

theorem neqArr (w : World) (t : TypeId) (n : Nat) (ht : Try.prog.underlying t = some (.array n 3)) (xs ys : List Int) (hx : xs.length = n) (hy : ys.length = n) :
    (binOp .neq t (.agg (xs.map (Value.int .i64)).toArray) (.agg (ys.map (Value.int .i64)).toArray)).run Try.prog w = .ok (.bool (!(xs == ys))) w := by
  have h := eqlArr w t n ht xs ys hx hy
  rw [run_eql_struct] at h
  rw [run_neq_struct]
  clear ht hx hy
  generalize (Op.equalIn 10000 t (.agg (xs.map (Value.int .i64)).toArray) (.agg (ys.map (Value.int .i64)).toArray)).run Try.prog w = r at h ⊢
  cases r with
  | ok b w' =>
    change Result.ok (Value.bool b) w' = _ at h
    change Result.ok (Value.bool (!b)) w' = _
    injection h with h1 h2
    injection h1 with h3
    rw [h2, h3]
  | halt s w' =>
    change Result.halt _ _ = _ at h
    cases h

set_option maxRecDepth 100000 in
set_option maxHeartbeats 2000000 in
theorem empty_spec {w : World} {n : Nd} {c : Array Value} (h : IsN w n c) : ∀ (W : World), Keeps w W →
    Calls Try.prog 100 #[.agg c] W fun e w' => e = .returned (.bool n.emp) ∧ Below W.heap.size W w' := by
  induction h with
  | mk v t0 t1 ks a b o cap f hv hvb h0 h1 haa hl hcp hf hk ih =>
    intro W hK
    obtain ⟨v0, v1, v2, v3, v4, v5, v6, v7, rfl⟩ := list8 hv
    have he8 := fun (w : World) => neqArr w 22 8 Try.underlying22 [v0, v1, v2, v3, v4, v5, v6, v7] [0, 0, 0, 0, 0, 0, 0, 0] rfl rfl
    have hall : ([v0, v1, v2, v3, v4, v5, v6, v7] == [0, 0, 0, 0, 0, 0, 0, 0]) = [v0, v1, v2, v3, v4, v5, v6, v7].all (· == 0) := by simp
    rw [hall] at he8
    simp only [ndCells, List.map_cons, List.map_nil, List.cons_append, List.nil_append] at he8 ⊢
    have hrow := rowAt_new W #[.int .i64 v0, .int .i64 v1, .int .i64 v2, .int .i64 v3, .int .i64 v4, .int .i64 v5, .int .i64 v6, .int .i64 v7, .int .i64 t0, .int .i64 t1, .slice a ks.length cap] 26
    have hc10 : (W.alloc (.cells #[.int .i64 v0, .int .i64 v1, .int .i64 v2, .int .i64 v3, .int .i64 v4, .int .i64 v5, .int .i64 v6, .int .i64 v7, .int .i64 t0, .int .i64 t1, .slice a ks.length cap] 26)).cell? ⟨W.heap.size, 10, none⟩ = some (.slice a ks.length cap) := hrow 10 (by simp)
    rw [Nd.emp]
    obtain ⟨al, hal⟩ : ∃ al, al = [v0, v1, v2, v3, v4, v5, v6, v7].all (· == 0) := ⟨_, rfl⟩
    rw [← hal] at he8 ⊢
    obtain ⟨W1, hW1⟩ : ∃ W1, W1 = W.alloc (.cells #[.int .i64 v0, .int .i64 v1, .int .i64 v2, .int .i64 v3, .int .i64 v4, .int .i64 v5, .int .i64 v6, .int .i64 v7, .int .i64 t0, .int .i64 t1, .slice a ks.length cap] 26) := ⟨_, rfl⟩
    have hB1 : Below W.heap.size W W1 := by rw [hW1]; exact (Below.refl _ _).alloc (Nat.le_refl _) _
    have hz1 : W.heap.size < W1.heap.size := by rw [hW1]; simp
    have HW1 := Lib.hid hW1
    have Hf := Lib.hid hf
    have Hk := Lib.hid hk
    have Ih := Lib.hid ih
    have Haa := Lib.hid haa
    rw [← hW1] at hrow hc10
    clear hv hvb hf hk ih haa h0 h1 hW1 hall hrow hal
    obtain ⟨post, hpost⟩ : ∃ post : Ending → World → Prop, post = fun e w' => e = .returned (.bool (al && empL ks)) ∧ Below W.heap.size W w' := ⟨_, rfl⟩
    have HP : Hid (∀ (x : Bool) W', x = (al && empL ks) → Below W.heap.size W W' → post (.returned (.bool x)) W') := Lib.hid (by rw [hpost]; exact fun x W' a b => ⟨by rw [a], b⟩)
    rw [← hpost]
    clear hpost
    cases al with
    | false =>
      go_enter Try.func100, Try.ntmps100
      go_wp2_with fail
      exact HP.out _ _ rfl (by first | exact hB1 | (rw [← HW1.out]; exact hB1))
    | true =>
      go_enter Try.func100, Try.ntmps100
      go_wp2_with fail
      rw [← HW1.out]
      go_loopw [12] (fun i wr => ∃ (j : Nat), j ≤ ks.length ∧ i = .int .i64 j ∧ Hid (empL (ks.take j) = true) ∧ Below W1.heap.size W1 wr) (fun i _ => ks.length - (intOf i).toNat)
      case atStart => exact ⟨0, by omega, rfl, Lib.hid rfl, Below.refl _ _⟩
      case round =>
        obtain ⟨j, hj, rfl, Hinv, hbe⟩ := hrel
        have hcl := (Keeps.of_below hbe) _ _ hc10
        have hzz := hbe.size
        have hend : Below W.heap.size W wr := hB1.trans (hbe.mono (Nat.le_of_lt hz1))
        by_cases hlt : j < ks.length
        · obtain rfl : a = some ⟨b, o, none⟩ := Haa.out (by rintro rfl; simp at hlt)
          have hkeep : Keeps w wr := hK.trans ((Keeps.of_below hB1).trans (Keeps.of_below hbe))
          have hn := (Hk.out j hlt)
          have hr := (Hf.out j hlt).keeps hkeep
          have hB2 : Below wr.heap.size wr (wr.alloc (.cells (f j) 26)) := (Below.refl _ _).alloc (Nat.le_refl _) _
          have hcall := Ih.out j hlt (wr.alloc (.cells (f j) 26)) (hkeep.trans (Keeps.of_below hB2))
          obtain ⟨x0, x1, x2, x3, x4, x5, x6, x7, xp, xl, xc, hx⟩ := hn.lit
          rw [hx] at hr hcall hB2
          generalize (ks[j]).t0 = kt0 at *
          generalize (ks[j]).t1 = kt1 at *
          have Hr := Lib.hid hr
          have Hcall := Lib.hid hcall
          have Hx := Lib.hid hx
          have HB2 := Lib.hid hB2
          clear hr hcall hkeep hn hx hB2
          obtain ⟨em, hem⟩ : ∃ em, em = (ks[j]).emp := ⟨_, rfl⟩
          have Hem := Lib.hid hem
          clear hem
          have hlenb : (j : Int) < (ks.length : Int) := by omega
          go_wp2_with (first | (refine wpList_load_nd (.tmp 14) rfl rfl b (o + j * 11) rfl _ rfl Hr.out ?_))
          (with_reducible refine Hcall.out.mono ?_)
          rw [← Hem.out]
          rintro e w2 ⟨rfl, hB3⟩
          have hbe2 : Below wr.heap.size wr w2 := HB2.out.trans (hB3.mono (by simp))
          have hend2 : Below W.heap.size W w2 := hend.trans (hbe2.mono (by have := hB1.size; omega))
          have Hend2 := Lib.hid hend2
          clear hB3 hend2
          cases em with
          | false =>
            go_wp2_with fail
            exact HP.out _ _ (by rw [empL_false _ _ hlt Hem.out.symm]; rfl) Hend2.out
          | true =>
            go_wp2_with fail
            go_roundw
            case rel => exact ⟨j + 1, by omega, by go_num, Lib.hid (by rw [empL_take _ _ hlt, Hinv.out, ← Hem.out]; rfl), hbe.trans (hbe2.mono (by omega))⟩
            case measure => simp [intOf]; omega
        · obtain rfl : j = ks.length := by omega
          go_wp2_with fail
          exact HP.out _ _ (by have := Hinv.out; rw [List.take_length] at this; rw [this]; rfl) hend
end Go.Proofs.Ytmdmbnpgdkmklaa
namespace Go.Proofs.Ytmdmbnpgdkmklaa
open Go.RowKit
set_option linter.unusedVariables false
set_option linter.unusedSimpArgs false

theorem kids_ne {ks : List Nd} {d : Nat} {k : Nd} (h : ks ≠ []) : ks.set d k ≠ [] := by
  cases ks with
  | nil => exact absurd rfl h
  | cons x xs => cases d <;> simp

/-- A child where it lies; and the node again, when the child has been turned. -/
theorem NodeAt.child {w : World} {b o : Nat} {ty : TypeId} {v : List Int} {t0 t1 : Int} {ks : List Nd} {S : Nat → Prop} (h : NodeAt w b o ty (.mk v t0 t1 ks) S) (d : Nat) (hd : d < ks.length) :
    ∃ bk cap T, w.cell? ⟨b, o + 10, none⟩ = some (.slice (some ⟨bk, 0, none⟩) ks.length cap) ∧ b ≠ bk ∧ S bk ∧ (∀ k, T k → S k) ∧ NodeAt w bk (d * 11) 26 ks[d] T ∧
      ∀ w' k' T', NodeAt w' bk (d * 11) 26 k' T' → Turned bk (d * 11) T w w' → (∀ k, T' k → T k ∨ w.heap.size ≤ k) →
        w'.cell? ⟨b, o + 10, none⟩ = some (.slice (some ⟨bk, 0, none⟩) ks.length cap) ∧ Turned b o S w w' ∧
        ∃ S', NodeAt w' b o ty (.mk v t0 t1 (ks.set d k')) S' ∧ (∀ k, S' k → S k ∨ w.heap.size ≤ k) := by
  obtain ⟨cur, c, hg, hr, ho, hn⟩ := h
  have hblt : b < w.heap.size := (Array.getElem?_eq_some_iff.1 hg).1
  have hSlt := ho.lt
  cases ho with
  | leaf => simp at hd
  | node v t0 t1 ks bk cap curk f F hv8 hvb8 h08 h18 hne hcp hgk hcur hf hk hb hdj =>
    have hbbk : b ≠ bk := fun e => hn (.inl e)
    have hnF : ∀ i, i < ks.length → ¬ F i b := fun i hi e => hn (.inr ⟨i, hi, e⟩)
    have hc10 : w.cell? ⟨b, o + 10, none⟩ = some (.slice (some ⟨bk, 0, none⟩) ks.length cap) := by
      obtain ⟨v0, v1, v2, v3, v4, v5, v6, v7, rfl⟩ := list8 hv8
      exact hr 10 (by simp [ndCells])
    refine ⟨bk, cap, F d, hc10, hbbk, .inl rfl, fun k hk => .inr ⟨d, hd, hk⟩, ⟨curk, f d, hgk, hf d hd, hk d hd, hb d hd⟩, ?_⟩
    intro w' k' T' hN hT hT'
    have hwb : w'.heap[b]? = w.heap[b]? := hT.block b hblt hbbk (hnF d hd)
    obtain ⟨cur', hg', hsz', hoth⟩ := hT.cells curk 26 hgk
    obtain ⟨cur2, c2, hg2, hr2, ho2, hn2⟩ := hN
    have hce : cur2 = cur' := by
      rw [hg'] at hg2
      injection hg2 with h; injection h with h; exact h.symm
    subst hce
    have hT'lt := ho2.lt
    have hT'S : ∀ k, T' k → k ≠ bk := fun k hk e => hn2 (e ▸ hk)
    refine ⟨?_, ⟨hT.os, hT.tape, hT.output, hT.size, fun k hk hkb hS => hT.block k hk (fun e => hS (.inl e)) (fun e => hS (.inr ⟨d, hd, e⟩)), fun cur3 ty3 h3 => ⟨cur3, hwb.trans h3, rfl, fun _ _ => rfl⟩⟩, ?_⟩
    · rw [World.cell?, hwb]
      rw [World.cell?] at hc10
      exact hc10
    · refine ⟨fun k => k = bk ∨ ∃ i, i < ks.length ∧ (if i = d then T' else F i) k, ⟨cur, _, hwb.trans hg, row_of_block hr hwb, ?_, ?_⟩, ?_⟩
      · have hl : (ks.set d k').length = ks.length := by simp
        have := Owns.node (w := w') v t0 t1 (ks.set d k') bk cap cur2 (fun i => if i = d then c2 else f i) (fun i => if i = d then T' else F i) hv8 hvb8 h08 h18 (kids_ne hne) (by rw [hl]; exact hcp) hg2 (by rw [hsz', hcur])
          (fun i hi => by
            rw [hl] at hi
            by_cases e : i = d
            · subst e; simp only [if_true]; exact hr2
            · simp only [if_neg e]
              intro q hq
              have hq11 : q < 11 := by have := (hk i hi).size; omega
              have := hf i hi q hq
              rw [cell_of_row w bk _ curk 26 (0, 0) hgk] at this
              rw [cell_of_row w' bk _ cur2 26 (0, 0) hg2, hoth _ (by
                rcases Nat.lt_or_ge i d with h | h
                · left
                  have : (i + 1) * 11 ≤ d * 11 := Nat.mul_le_mul_right _ h
                  omega
                · right
                  have : (d + 1) * 11 ≤ i * 11 := Nat.mul_le_mul_right _ (by omega)
                  omega)]
              exact this)
          (fun i hi => by
            have hi' : i < ks.length := by rw [hl] at hi; exact hi
            by_cases e : i = d
            · subst e; simp only [if_true, List.getElem_set_self]; exact ho2
            · simp only [if_neg e]
              rw [List.getElem_set_ne (fun h => e h.symm)]
              exact (hk i hi').frame (fun k hk' => hT.block k (hSlt k (.inr ⟨i, hi', hk'⟩)) (fun h => hb i hi' (h ▸ hk')) (hdj i d k hi' hd e hk')))
          (fun i hi => by
            rw [hl] at hi
            by_cases e : i = d
            · subst e; simp only [if_true]; exact hn2
            · simp only [if_neg e]; exact hb i hi)
          (fun i j k hi hj hne' => by
            rw [hl] at hi hj
            by_cases e : i = d
            · have e' : j ≠ d := fun h => hne' (by omega)
              simp only [if_pos e, if_neg e']
              intro hk' hFj
              rcases hT' k hk' with q | q
              · exact hdj d j k hd hj (fun h => e' h.symm) q hFj
              · have := hSlt k (.inr ⟨j, hj, hFj⟩)
                omega
            · by_cases e' : j = d
              · simp only [if_neg e, if_pos e']
                intro hFi hk'
                rcases hT' k hk' with q | q
                · exact hdj d i k hd hi (fun h => e h.symm) q hFi
                · have := hSlt k (.inr ⟨i, hi, hFi⟩)
                  omega
              · simp only [if_neg e, if_neg e']
                exact hdj i j k hi hj hne')
        rw [hl] at this
        exact this
      · rintro (e | ⟨i, hi, hk'⟩)
        · exact hbbk e
        · by_cases e : i = d
          · subst e
            simp only [if_true] at hk'
            rcases hT' b hk' with q | q
            · exact hnF _ hd q
            · omega
          · simp only [if_neg e] at hk'
            exact hnF i hi hk'
      · rintro k (e | ⟨i, hi, hk'⟩)
        · exact .inl (.inl e)
        · by_cases e : i = d
          · subst e
            simp only [if_true] at hk'
            rcases hT' k hk' with q | q
            · exact .inl (.inr ⟨_, hd, q⟩)
            · exact .inr q
          · simp only [if_neg e] at hk'
            exact .inl (.inr ⟨i, hi, hk'⟩)
end Go.Proofs.Ytmdmbnpgdkmklaa
namespace Go.Proofs.Ytmdmbnpgdkmklaa
open Go.RowKit
set_option linter.unusedVariables false
set_option linter.unusedSimpArgs false

theorem setCells_block {b : Nat} {ty : TypeId} (vs : List Value) : ∀ (o : Nat) (w : World) (cur : Array Value), w.heap[b]? = some (.cells cur ty (0, 0)) →
    ∃ cur', (w.setCells b o vs).heap[b]? = some (.cells cur' ty (0, 0)) ∧ cur'.size = cur.size ∧ ∀ q, (q < o ∨ o + vs.length ≤ q) → cur'[q]? = cur[q]? := by
  induction vs with
  | nil => intro o w cur h; exact ⟨cur, h, rfl, fun _ _ => rfl⟩
  | cons v r ih =>
    intro o w cur h
    obtain ⟨c1, h1, s1, e1⟩ := ih (o + 1) (w.setCell ⟨b, o, none⟩ v) _ (heap_setCell_same w b o cur ty v h)
    refine ⟨c1, h1, by rw [s1]; simp, fun q hq => ?_⟩
    rw [e1 q (by simp at hq; omega), Array.getElem?_setIfInBounds, if_neg (by simp at hq; omega)]

theorem setCells_other {b : Nat} (vs : List Value) : ∀ (o : Nat) (w : World) (k : Nat), k ≠ b → (w.setCells b o vs).heap[k]? = w.heap[k]? := by
  induction vs with
  | nil => intro o w k h; rfl
  | cons v r ih =>
    intro o w k h
    rw [World.setCells, ih (o + 1) _ k h]
    exact Below.heap_setCell _ _ _ _ h

theorem setCells_rest {b : Nat} (vs : List Value) : ∀ (o : Nat) (w : World), (w.setCells b o vs).os = w.os ∧ (w.setCells b o vs).tape = w.tape ∧ (w.setCells b o vs).output = w.output ∧ (w.setCells b o vs).heap.size = w.heap.size := by
  induction vs with
  | nil => intro o w; exact ⟨rfl, rfl, rfl, rfl⟩
  | cons v r ih =>
    intro o w
    obtain ⟨a, b', c, d⟩ := ih (o + 1) (w.setCell ⟨b, o, none⟩ v)
    exact ⟨a, b', c, by rw [World.setCells, d]; simp [World.setCell]⟩

theorem NodeAt.there {w : World} {b o : Nat} {ty : TypeId} {n : Nd} {S : Nat → Prop} (h : NodeAt w b o ty n S) : w.there b o 11 := by
  intro j hj
  obtain ⟨cur, c, hg, hr, ho, hn⟩ := h
  have := hr j (by rw [ho.size]; exact hj)
  exact ⟨by rw [this]; rfl, frozen_of_row w b (o + j) _ _ hg⟩

/-- A node whose tree is elsewhere (or nowhere) is stored over the node at a place. -/
theorem NodeAt.over {w : World} {b o : Nat} {ty : TypeId} {n n' : Nd} {S S' T : Nat → Prop} {c' : Array Value} (h : NodeAt w b o ty n S) (ho' : Owns w n' c' S') (hS : ¬ S' b) :
    NodeAt (w.setCells b o c'.toList) b o ty n' S' ∧ Turned b o T w (w.setCells b o c'.toList) := by
  obtain ⟨cur, c, hg, hr, ho, hn⟩ := h
  have hsz := ho.size
  have hsz' := ho'.size
  obtain ⟨cur', hg', hs', he'⟩ := setCells_block c'.toList o w cur hg
  obtain ⟨r1, r2, r3, r4⟩ := setCells_rest (b := b) c'.toList o w
  have hl : c'.toList.length = 11 := by simpa using hsz'
  refine ⟨⟨cur', c', hg', ?_, ho'.frame (fun k hk => setCells_other _ _ _ _ (fun e => hS (e ▸ hk))), hS⟩, ⟨r1, r2, r3, by omega, fun k _ hk _ => setCells_other _ _ _ _ hk, fun cur2 ty2 h2 => ?_⟩⟩
  · intro i hi
    have := World.cell?_setCells_in b c'.toList o w (fun j hj => by
      have := hr j (by omega)
      rw [this]; rfl) i (by omega)
    rw [this]
    simp
  · rw [hg] at h2
    injection h2 with h2; injection h2 with h3 h4
    subst h3; subst h4
    exact ⟨cur', hg', hs', fun q hq => he' q (by omega)⟩

/-- The cells of the zero node. -/
def zeroNd : Array Value := #[.int .i64 0, .int .i64 0, .int .i64 0, .int .i64 0, .int .i64 0, .int .i64 0, .int .i64 0, .int .i64 0, .int .i64 0, .int .i64 0, .slice none 0 0]

theorem owns_zero (w : World) : Owns w Nd.zero zeroNd (fun _ => False) := by
  have := Owns.leaf (w := w) [0, 0, 0, 0, 0, 0, 0, 0] 0 0 rfl (by intro x hx; simp at hx; subst hx; exact ⟨by decide, by decide⟩) ⟨by decide, by decide⟩ ⟨by decide, by decide⟩
  exact this

/-- Eight zero nodes. -/
def zeros8 : Array Value := ((List.replicate 8 zeroNd.toList).flatten).toArray

theorem make8 (W : World) : (Instr.makeSlice 24 (.int .i64 8) (.int .i64 8)).run Try.prog W = .ok (.slice (some ⟨W.heap.size, 0, none⟩) 8 8) (W.alloc (.cells zeros8 26)) := by kernel_rfl

theorem row_zeros8 {w : World} {b : Nat} (h : w.heap[b]? = some (.cells zeros8 26 (0, 0))) (i : Nat) (hi : i < 8) : RowAt w b (i * 11) zeroNd := by
  intro q hq
  have hq11 : q < 11 := hq
  rw [cell_of_row w b _ zeros8 26 (0, 0) h]
  have : ∀ i, i < 8 → ∀ q, q < 11 → zeros8[i * 11 + q]? = zeroNd[q]? := by
    intro i hi q hq
    have hi' : i = 0 ∨ i = 1 ∨ i = 2 ∨ i = 3 ∨ i = 4 ∨ i = 5 ∨ i = 6 ∨ i = 7 := by omega
    have hq' : q = 0 ∨ q = 1 ∨ q = 2 ∨ q = 3 ∨ q = 4 ∨ q = 5 ∨ q = 6 ∨ q = 7 ∨ q = 8 ∨ q = 9 ∨ q = 10 := by omega
    rcases hi' with rfl | rfl | rfl | rfl | rfl | rfl | rfl | rfl <;> rcases hq' with rfl | rfl | rfl | rfl | rfl | rfl | rfl | rfl | rfl | rfl | rfl <;> rfl
  rw [this i hi q hq11, Array.getElem?_eq_getElem hq]

/-- A node without children is given eight zero children in a new block. -/
theorem NodeAt.grow {w : World} {b o : Nat} {ty : TypeId} {v : List Int} {t0 t1 : Int} {S : Nat → Prop} (h : NodeAt w b o ty (.mk v t0 t1 []) S) :
    (∃ S', NodeAt ((w.alloc (.cells zeros8 26)).setCell ⟨b, o + 10, none⟩ (.slice (some ⟨w.heap.size, 0, none⟩) 8 8)) b o ty (.mk v t0 t1 (List.replicate 8 Nd.zero)) S' ∧ ∀ k, S' k → w.heap.size ≤ k) ∧
    Turned b o S w ((w.alloc (.cells zeros8 26)).setCell ⟨b, o + 10, none⟩ (.slice (some ⟨w.heap.size, 0, none⟩) 8 8)) := by
  have hblt := h.lt
  obtain ⟨cur, c, hg, hr, ho, hn⟩ := h
  have hB : Below w.heap.size w (w.alloc (.cells zeros8 26)) := (Below.refl _ _).alloc (Nat.le_refl _) _
  have hT : Turned b o S w (w.alloc (.cells zeros8 26)) := Turned.below hB hblt
  have hga : (w.alloc (.cells zeros8 26)).heap[b]? = some (.cells cur ty (0, 0)) := (hB.block b hblt).trans hg
  have hra : RowAt (w.alloc (.cells zeros8 26)) b o c := row_of_block hr (hB.block b hblt)
  refine ⟨?_, hT.setCell (by omega) _⟩
  have hsz := ho.size
  cases ho with
  | leaf v t0 t1 hv8 hvb8 h08 h18 =>
    have hr2 := RowAt.set hga hra (.slice (some ⟨w.heap.size, 0, none⟩) 8 8) (q := 10) (by omega)
    have hgz : ((w.alloc (.cells zeros8 26)).setCell ⟨b, o + 10, none⟩ (.slice (some ⟨w.heap.size, 0, none⟩) 8 8)).heap[w.heap.size]? = some (.cells zeros8 26 (0, 0)) :=
      (Below.heap_setCell _ _ _ _ (by show w.heap.size ≠ b; omega)).trans (heap_alloc_new w _)
    have hown := Owns.node (w := (w.alloc (.cells zeros8 26)).setCell ⟨b, o + 10, none⟩ (.slice (some ⟨w.heap.size, 0, none⟩) 8 8)) v t0 t1 (List.replicate 8 Nd.zero) w.heap.size 8 zeros8 (fun _ => zeroNd) (fun _ _ => False) hv8 hvb8 h08 h18 (by simp) (by simp) hgz (by decide)
      (fun i hi => row_zeros8 hgz i (by simpa using hi)) (fun i hi => by simp only [List.getElem_replicate]; exact owns_zero _) (fun i hi h => h) (fun i j k hi hj hne h => h.elim)
    refine ⟨fun k => k = w.heap.size, ⟨_, _, heap_setCell_same _ b (o + 10) cur ty _ hga, hr2, ?_, ?_⟩, ?_⟩
    · obtain ⟨v0, v1, v2, v3, v4, v5, v6, v7, rfl⟩ := list8 hv8
      have he : (fun k => k = w.heap.size ∨ ∃ i, i < (List.replicate 8 Nd.zero).length ∧ False) = fun k => k = w.heap.size := by funext k; simp
      rw [he] at hown
      exact hown
    · intro e; omega
    · intro k hk; exact Nat.le_of_eq hk.symm
  | node _ _ _ _ _ _ _ _ _ _ _ _ _ hne => exact absurd rfl hne
end Go.Proofs.Ytmdmbnpgdkmklaa
