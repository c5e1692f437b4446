/- radix.refresh: the two tags of an inner node for one of its children are computed anew. -/
import Derived.Test.YtmdmbnpgdkmklaaRk1
import Derived.Deep.RegionHeld3
namespace Go.Proofs.Ytmdmbnpgdkmklaa
open Go.RowKit
set_option linter.unusedVariables false
set_option linter.unusedSimpArgs false

/-- A tag with bit d cleared, set. -/
def tclr (t : Int) (d : Nat) : Int := bits .andNot .i64 t (2 ^ d)
def tset (t : Int) (d : Nat) (on : Bool) : Int := if on then bits .or .i64 (tclr t d) (2 ^ d) else tclr t d
theorem tset_false (t : Int) (d : Nat) {on : Bool} (h : on = false) {pw : Int} (hpw : pw = 2 ^ d) : tset t d on = bits .andNot .i64 t pw := by rw [h, hpw]; rfl
theorem tset_true (t : Int) (d : Nat) {on : Bool} (h : on = true) {pw : Int} (hpw : pw = 2 ^ d) : tset t d on = bits .or .i64 (bits .andNot .i64 t pw) pw := by rw [h, hpw]; rfl

theorem inI64_tset (t : Int) (d : Nat) (on : Bool) : inI64 (tset t d on) := by
  unfold tset tclr
  split <;> exact inI64_bits _ _ _

/-- The children's row of a node, where it lies. -/
theorem NodeAt.row {w : World} {b o : Nat} {ty : TypeId} {v : List Int} {t0 t1 : Int} {ks : List Nd} {S : Nat → Prop} (h : NodeAt w b o ty (.mk v t0 t1 ks) S) (hne : ks ≠ []) :
    ∃ bk cap, w.cell? ⟨b, o + 10, none⟩ = some (.slice (some ⟨bk, 0, none⟩) ks.length cap) ∧ b ≠ bk ∧ S bk ∧
      ∀ d (hd : d < ks.length), w.cell? ⟨bk, d * 11 + 8, none⟩ = some (.int .i64 ks[d].t0) ∧ w.cell? ⟨bk, d * 11 + 9, none⟩ = some (.int .i64 ks[d].t1) := by
  obtain ⟨cur, c, hg, hr, ho, hn⟩ := h
  cases ho with
  | leaf => exact absurd rfl hne
  | node v t0 t1 ks bk cap curk f F hv8 hvb8 h08 h18 hne hcp hgk hcur hf hk hb hd =>
    refine ⟨bk, cap, ?_, fun e => hn (.inl e), .inl rfl, fun d hd => kid_tags (hk d hd).isN (hf d hd)⟩
    obtain ⟨v0, v1, v2, v3, v4, v5, v6, v7, rfl⟩ := list8 hv8
    exact hr 10 (by simp [ndCells])

set_option maxRecDepth 100000 in
set_option maxHeartbeats 4000000 in
theorem refresh_spec {W : World} {b o : Nat} {ty : TypeId} {v : List Int} {t0 t1 : Int} {ks : List Nd} {S : Nat → Prop} (h : NodeAt W b o ty (.mk v t0 t1 ks) S) (h8 : ks.length = 8) (d : Nat) (hd : d < 8) (kd : Nd) (hkd : ks[d]? = some kd) :
    Calls Try.prog 73 #[.pointer (some ⟨b, o, none⟩), .int .i64 d] W fun e W' => e = .returned (.tuple #[]) ∧ NodeAt W' b o ty (.mk v (tset t0 d (kd.t0 != 0)) (tset t1 d (kd.t1 != 0)) ks) S ∧ Turned b o (fun _ => False) W W' := by
  obtain ⟨post, hpost⟩ : ∃ post : Ending → World → Prop, post = fun e W' => e = .returned (.tuple #[]) ∧ NodeAt W' b o ty (.mk v (tset t0 d (kd.t0 != 0)) (tset t1 d (kd.t1 != 0)) ks) S ∧ Turned b o (fun _ => False) W W' := ⟨_, rfl⟩
  have HP : Hid (∀ W', NodeAt W' b o ty (.mk v (tset t0 d (kd.t0 != 0)) (tset t1 d (kd.t1 != 0)) ks) S → Turned b o (fun _ => False) W W' → post (.returned (.tuple #[])) W') := Lib.hid (by rw [hpost]; exact fun W' a b => ⟨rfl, a, b⟩)
  rw [← hpost]
  have hkd' : ∃ hd : d < ks.length, ks[d] = kd := by
    rw [List.getElem?_eq_some_iff] at hkd
    exact hkd
  have HK := Lib.hid hkd'
  have H := Lib.hid h
  have H8 := Lib.hid h8
  have hpw0 : IntKind.i64.wrap (2 ^ d) = 2 ^ d := by
    match d, hd with
    | 0, _ | 1, _ | 2, _ | 3, _ | 4, _ | 5, _ | 6, _ | 7, _ => decide
  obtain ⟨pw, hpwe⟩ : ∃ pw : Int, pw = 2 ^ d := ⟨_, rfl⟩
  have hpw : IntKind.i64.wrap (2 ^ d) = pw := by rw [hpw0, hpwe]
  have Hpw := Lib.hid hpwe
  clear hpw0 hpwe
  clear h hpost hkd hkd' h8
  go_enter Try.func73, Try.ntmps73
  go_wp2_with fail
  go_loopw [5] (fun i wr => ∃ (k : Nat) (s0 s1 : Int), k ≤ 2 ∧ i = .int .i64 k ∧ Hid (NodeAt wr b o ty (.mk v s0 s1 ks) S) ∧ Hid (Turned b o (fun _ => False) W wr) ∧
    Hid (s0 = if 1 ≤ k then tset t0 d (kd.t0 != 0) else t0) ∧ Hid (s1 = if 2 ≤ k then tset t1 d (kd.t1 != 0) else t1)) (fun i _ => 2 - (intOf i).toNat)
  case atStart => exact ⟨0, t0, t1, by omega, rfl, H, Lib.hid (Turned.refl _ _ _ _), Lib.hid rfl, Lib.hid rfl⟩
  case round =>
    obtain ⟨k, s0, s1, hk2, rfl, HN, HT, Hs0, Hs1⟩ := hrel
    have h88 := H8.out
    obtain ⟨hd', hkde⟩ := HK.out
    obtain ⟨bk, cap, hc10, hbk, hSbk, hkt⟩ := HN.out.row (by rintro rfl; simp at h88)
    obtain ⟨hc8, hc9, -⟩ := HN.out.cells
    obtain ⟨hkt0, hkt1⟩ := hkt d hd'
    rw [h88] at hc10
    rw [hkde] at hkt0 hkt1
    simp only [Nd.t0, Nd.t1] at hc8 hc9
    have hf8 := HN.out.frozen (o + 8)
    have hf9 := HN.out.frozen (o + 9)
    clear hkt
    obtain ⟨u0, hu0⟩ : ∃ u0, u0 = kd.t0 := ⟨_, rfl⟩
    obtain ⟨u1, hu1⟩ : ∃ u1, u1 = kd.t1 := ⟨_, rfl⟩
    change wr.cell? ⟨bk, d * 11 + 8, none⟩ = some (.int .i64 kd.t0) at hkt0
    change wr.cell? ⟨bk, d * 11 + 9, none⟩ = some (.int .i64 kd.t1) at hkt1
    rw [← hu0] at hkt0
    rw [← hu1] at hkt1
    have Hu0 := Lib.hid hu0
    have Hu1 := Lib.hid hu1
    clear hu0 hu1
    have hbk' : bk ≠ b := Ne.symm hbk
    have hk3 : k = 0 ∨ k = 1 ∨ k = 2 := by omega
    rcases hk3 with rfl | rfl | rfl
    · by_cases hz : u0 = 0
      · subst hz
        have hs2 : tset s0 d (kd.t0 != 0) = bits .andNot .i64 s0 pw := tset_false _ _ (by rw [← Hu0.out]; rfl) Hpw.out
        have hn2 := HN.out.putT0 (bits .andNot .i64 s0 pw) (inI64_bits _ _ _)
        have hT2 := HT.out.setCell (q := 8) (by omega) (.int .i64 (bits .andNot .i64 s0 pw))
        have Hs2 := Lib.hid hs2
        have Hn2 := Lib.hid hn2.drew
        have HT2 := Lib.hid hT2.drew
        clear hs2 hn2 hT2
        go_wp2_with fail
        go_region
        go_wp2_with fail
        go_roundw
        case rel =>
          refine ⟨1, _, _, by omega, by go_num, Hn2, HT2, Lib.hid ?_, Lib.hid ?_⟩
          · rw [← Hs2.out, Hs0.out]; rfl
          · rw [Hs1.out]; rfl
        case measure => simp [intOf]
      · have hb1 : (u0 != 0) = true := by simpa using hz
        have hb2 : (u0 == 0) = false := by simpa using hz
        have hs2 : tset s0 d (kd.t0 != 0) = bits .or .i64 (bits .andNot .i64 s0 pw) pw := tset_true _ _ (by rw [← Hu0.out]; exact hb1) Hpw.out
        have Hs2 := Lib.hid hs2
        clear hs2
        go_wp2_with fail
        go_region
        have hn2 := (HN.out.putT0 (bits .andNot .i64 s0 pw) (inI64_bits _ _ _)).drew
        have hT2 := (HT.out.setCell (q := 8) (by omega) (.int .i64 (bits .andNot .i64 s0 pw))).drew
        obtain ⟨w2, hw2⟩ : ∃ w2, w2 = (wr.setCell ⟨b, o + 8, none⟩ (.int .i64 (bits .andNot .i64 s0 pw))).drew := ⟨_, rfl⟩
        change NodeAt (wr.setCell ⟨b, o + 8, none⟩ (.int .i64 (bits .andNot .i64 s0 pw))).drew b o ty _ S at hn2
        change Turned b o (fun _ => False) W (wr.setCell ⟨b, o + 8, none⟩ (.int .i64 (bits .andNot .i64 s0 pw))).drew at hT2
        rw [← hw2] at hn2 hT2 ⊢
        clear hc10 hbk hbk' hSbk hkt0 hkt1 hc8 hc9 hf8 hf9 hw2
        obtain ⟨bk, cap, hc10, hbk, hSbk, hkt⟩ := hn2.row (by rintro rfl; simp at h88)
        obtain ⟨hc8, hc9, -⟩ := hn2.cells
        obtain ⟨hkt0, hkt1⟩ := hkt d hd'
        rw [h88] at hc10
        rw [hkde] at hkt0 hkt1
        simp only [Nd.t0, Nd.t1] at hc8 hc9
        have hf8 := hn2.frozen (o + 8)
        have hf9 := hn2.frozen (o + 9)
        clear hkt
        change w2.cell? ⟨bk, d * 11 + 8, none⟩ = some (.int .i64 kd.t0) at hkt0
        change w2.cell? ⟨bk, d * 11 + 9, none⟩ = some (.int .i64 kd.t1) at hkt1
        rw [← Hu0.out] at hkt0
        rw [← Hu1.out] at hkt1
        have hbk' : bk ≠ b := Ne.symm hbk
        have hn3 := hn2.putT0 (bits .or .i64 (bits .andNot .i64 s0 pw) pw) (inI64_bits _ _ _)
        have hT3 := hT2.setCell (q := 8) (by omega) (.int .i64 (bits .or .i64 (bits .andNot .i64 s0 pw) pw))
        have Hn3 := Lib.hid hn3.drew
        have HT3 := Lib.hid hT3.drew
        clear hn2 hT2 hn3 hT3
        go_wp2_with fail
        go_region
        go_wp2_with fail
        go_roundw
        case rel =>
          refine ⟨1, _, _, by omega, by go_num, Hn3, HT3, Lib.hid ?_, Lib.hid ?_⟩
          · rw [← Hs2.out, Hs0.out]; rfl
          · rw [Hs1.out]; rfl
        case measure => simp [intOf]
    · by_cases hz : u1 = 0
      · subst hz
        have hs2 : tset s1 d (kd.t1 != 0) = bits .andNot .i64 s1 pw := tset_false _ _ (by rw [← Hu1.out]; rfl) Hpw.out
        have hn2 := HN.out.putT1 (bits .andNot .i64 s1 pw) (inI64_bits _ _ _)
        have hT2 := HT.out.setCell (q := 9) (by omega) (.int .i64 (bits .andNot .i64 s1 pw))
        have Hs2 := Lib.hid hs2
        have Hn2 := Lib.hid hn2.drew
        have HT2 := Lib.hid hT2.drew
        clear hs2 hn2 hT2
        go_wp2_with fail
        go_region
        go_wp2_with fail
        go_roundw
        case rel =>
          refine ⟨2, _, _, by omega, by go_num, Hn2, HT2, Lib.hid ?_, Lib.hid ?_⟩
          · rw [Hs0.out]; rfl
          · rw [← Hs2.out, Hs1.out]; rfl
        case measure => simp [intOf]
      · have hb1 : (u1 != 0) = true := by simpa using hz
        have hb2 : (u1 == 0) = false := by simpa using hz
        have hs2 : tset s1 d (kd.t1 != 0) = bits .or .i64 (bits .andNot .i64 s1 pw) pw := tset_true _ _ (by rw [← Hu1.out]; exact hb1) Hpw.out
        have Hs2 := Lib.hid hs2
        clear hs2
        go_wp2_with fail
        go_region
        have hn2 := (HN.out.putT1 (bits .andNot .i64 s1 pw) (inI64_bits _ _ _)).drew
        have hT2 := (HT.out.setCell (q := 9) (by omega) (.int .i64 (bits .andNot .i64 s1 pw))).drew
        obtain ⟨w2, hw2⟩ : ∃ w2, w2 = (wr.setCell ⟨b, o + 8 + 1, none⟩ (.int .i64 (bits .andNot .i64 s1 pw))).drew := ⟨_, rfl⟩
        change NodeAt (wr.setCell ⟨b, o + 8 + 1, none⟩ (.int .i64 (bits .andNot .i64 s1 pw))).drew b o ty _ S at hn2
        change Turned b o (fun _ => False) W (wr.setCell ⟨b, o + 8 + 1, none⟩ (.int .i64 (bits .andNot .i64 s1 pw))).drew at hT2
        rw [← hw2] at hn2 hT2 ⊢
        clear hc10 hbk hbk' hSbk hkt0 hkt1 hc8 hc9 hf8 hf9 hw2
        obtain ⟨bk, cap, hc10, hbk, hSbk, hkt⟩ := hn2.row (by rintro rfl; simp at h88)
        obtain ⟨hc8, hc9, -⟩ := hn2.cells
        obtain ⟨hkt0, hkt1⟩ := hkt d hd'
        rw [h88] at hc10
        rw [hkde] at hkt0 hkt1
        simp only [Nd.t0, Nd.t1] at hc8 hc9
        have hf8 := hn2.frozen (o + 8)
        have hf9 := hn2.frozen (o + 9)
        clear hkt
        change w2.cell? ⟨bk, d * 11 + 8, none⟩ = some (.int .i64 kd.t0) at hkt0
        change w2.cell? ⟨bk, d * 11 + 9, none⟩ = some (.int .i64 kd.t1) at hkt1
        rw [← Hu0.out] at hkt0
        rw [← Hu1.out] at hkt1
        have hbk' : bk ≠ b := Ne.symm hbk
        have hn3 := hn2.putT1 (bits .or .i64 (bits .andNot .i64 s1 pw) pw) (inI64_bits _ _ _)
        have hT3 := hT2.setCell (q := 9) (by omega) (.int .i64 (bits .or .i64 (bits .andNot .i64 s1 pw) pw))
        have Hn3 := Lib.hid hn3.drew
        have HT3 := Lib.hid hT3.drew
        clear hn2 hT2 hn3 hT3
        go_wp2_with fail
        go_region
        go_wp2_with fail
        go_roundw
        case rel =>
          refine ⟨2, _, _, by omega, by go_num, Hn3, HT3, Lib.hid ?_, Lib.hid ?_⟩
          · rw [Hs0.out]; rfl
          · rw [← Hs2.out, Hs1.out]; rfl
        case measure => simp [intOf]
    · have hfin := HP.out wr (by have h0 := Hs0.out; have h1 := Hs1.out; simp at h0 h1; rw [← h0, ← h1]; exact HN.out) HT.out
      have Hfin := Lib.hid hfin
      clear hfin
      go_wp2_with fail
      exact bodyPost_end (results_none rfl _ _ _) rfl Hfin.out
end Go.Proofs.Ytmdmbnpgdkmklaa
