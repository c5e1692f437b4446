/- radix.Tagged: whether an entry has a tag. -/
import Derived.Test.YtmdmbnpgdkmklaaRp6
namespace Go.Proofs.Ytmdmbnpgdkmklaa
open Go.RowKit
set_option linter.unusedVariables false
set_option linter.unusedSimpArgs false

def Rx.tagged (r : Rx) (i tag : Int) : Bool :=
  match r.leafOf i with
  | none => false
  | some n => (decide (tag = 0) || decide (tag = 1)) && (n.vs.getD (dig i.toNat 0) 0 != 0) && tb (if tag = 0 then n.t0 else n.t1) (dig i.toNat 0)

set_option maxRecDepth 100000 in
set_option maxHeartbeats 8000000 in
theorem Tagged_spec {w : World} {r : Rx} {c : Array Value} {i tag : Int} (h : IsR w r c) (hi : inI64 i) (ht : inI64 tag) :
    Calls Try.prog 34 #[.agg c, .int .i64 i, .int .i64 tag] w fun e w' => e = .returned (.bool (r.tagged i tag)) ∧ Below w.heap.size w w' := by
  obtain ⟨post, hpost⟩ : ∃ post : Ending → World → Prop, post = fun e w' => e = .returned (.bool (r.tagged i tag)) ∧ Below w.heap.size w w' := ⟨_, rfl⟩
  have HP : Hid (∀ b : Bool, r.tagged i tag = b → ∀ W', Below w.heap.size w W' → post (.returned (.bool b)) W') := Lib.hid (by rw [hpost]; exact fun b hb W' a => ⟨by rw [hb], a⟩)
  rw [← hpost]
  clear hpost
  have hlf := leaf_spec' (h.keeps (Keeps.alloc w (.cells c 28))) hi
  obtain ⟨hh, nc, rfl, hn0⟩ := h
  obtain ⟨x0, x1, x2, x3, x4, x5, x6, x7, xp, xl, xc, rfl⟩ := hn0.lit
  simp only [List.append_toArray, List.cons_append, List.nil_append] at hlf ⊢
  have Hlf := Lib.hid hlf
  clear hlf hn0 hh
  unfold inI64 at hi ht
  obtain ⟨hi1, hi2⟩ := hi
  obtain ⟨ht1, ht2⟩ := ht
  go_enter Try.func34, Try.ntmps34
  go_wp2_with fail
  (with_reducible refine Hlf.out.mono ?_)
  rintro e w2 ⟨⟨nd, cn, rfl, hn, hsome⟩, hB2⟩
  have hbb : Below w.heap.size w w2 := ((Below.refl w.heap.size w).alloc (Nat.le_refl _) _).trans (hB2.mono (by simp))
  have hz : w.heap.size < w2.heap.size := by have := hB2.size; simp at this; omega
  cases hq : r.leafOf i with
  | none =>
    have hr0 : r.tagged i tag = false := by unfold Rx.tagged; rw [hq]
    have Hr0 := Lib.hid hr0
    obtain ⟨y0, y1, y2, y3, y4, y5, y6, y7, yp, yl, yc, rfl⟩ := hn.lit
    have Hdig := Lib.hid (fun W => digit_spec 0 0 (by omega) (by omega) W)
    have Hbb := Lib.hid (hbb.alloc (Nat.le_of_lt hz) (.cells #[.int .i64 y0, .int .i64 y1, .int .i64 y2, .int .i64 y3, .int .i64 y4, .int .i64 y5, .int .i64 y6, .int .i64 y7, .int .i64 nd.t0, .int .i64 nd.t1, .slice yp yl yc] 26))
    have Hbz := Lib.hid (show w.heap.size ≤ (w2.alloc (.cells #[.int .i64 y0, .int .i64 y1, .int .i64 y2, .int .i64 y3, .int .i64 y4, .int .i64 y5, .int .i64 y6, .int .i64 y7, .int .i64 nd.t0, .int .i64 nd.t1, .slice yp yl yc] 26)).heap.size by simp; omega)
    clear hq hsome hn hB2 hr0 hbb
    simp only [Option.isSome_none]
    go_upto_region 2 with fail
    generalize w2.alloc (.cells #[.int .i64 y0, .int .i64 y1, .int .i64 y2, .int .i64 y3, .int .i64 y4, .int .i64 y5, .int .i64 y6, .int .i64 y7, .int .i64 nd.t0, .int .i64 nd.t1, .slice yp yl yc] 26) = w3 at Hbb Hbz ⊢
    obtain ⟨ι, F, hF, hG⟩ := world_class w3
    obtain ⟨i0, hi0⟩ := hG w3.drew (Below.refl _ _).drew
    have HF := Lib.hid hF
    have HG := Lib.hid hG
    clear hF hG
    go_wp2_with fail
    refine wp_region_class F (by kernel_rfl) ⟨i0, hi0⟩ ?_
    repeat (go_big_quiet_step ((first
      | (go_at_call 82; with_reducible exact Calls.class_same (Hdig.out _))
      | with_reducible rfl)))
    refine wpQuiet_nil ?_
    rintro w4 ⟨i3, rfl⟩
    have Hfin := Lib.hid (HP.out _ Hr0.out (F i3) (Hbb.out.trans ((HF.out i3).mono Hbz.out)))
    go_wp2_with fail
    exact Hfin.out
  | some m =>
    obtain rfl := hsome m hq
    obtain ⟨hi0, hi1, _⟩ := leafOf_nonneg hq
    obtain ⟨k, rfl⟩ := Int.eq_ofNat_of_zero_le hi0
    have htg : r.tagged (k : Int) tag = ((decide (tag = 0) || decide (tag = 1)) && (m.vs.getD (dig k 0) 0 != 0) && tb (if tag = 0 then m.t0 else m.t1) (dig k 0)) := by unfold Rx.tagged; rw [hq]; rfl
    have hdig := fun W => digit_spec k 0 (by omega) (by omega) W
    rw [show (((0 : Nat) : Int) + 1) = 1 from rfl] at hdig
    have Hdig := Lib.hid hdig
    have hd8 := dig_lt k 0
    cases hn with
    | mk v t0 t1 ks a b o cap f hv hvb h0 h1 haa hl hcp hf hk =>
      obtain ⟨v0, v1, v2, v3, v4, v5, v6, v7, rfl⟩ := list8 hv
      simp only [Nd.vs, Nd.t0, Nd.t1] at htg
      simp only [ndCells, List.map_cons, List.map_nil, List.cons_append, List.nil_append, Option.isSome_some]
      have hrn := rowAt_new w2 #[.int .i64 v0, .int .i64 v1, .int .i64 v2, .int .i64 v3, .int .i64 v4, .int .i64 v5, .int .i64 v6, .int .i64 v7, .int .i64 t0, .int .i64 t1, .slice a ks.length cap] 26
      have hcv := cellV hrn hd8
      obtain ⟨_, _, _, _, _, _, _, _, hc8, hc9, _⟩ := row11 hrn
      obtain ⟨vv, hvv⟩ : ∃ vv, vv = [v0, v1, v2, v3, v4, v5, v6, v7].getD (dig k 0) 0 := ⟨_, rfl⟩
      rw [← hvv] at hcv htg
      obtain ⟨dd, hdd⟩ : ∃ dd, dd = dig k 0 := ⟨_, rfl⟩
      rw [← hdd] at Hdig hd8 hcv htg
      have hd8' : (dd : Int) < 8 := by omega
      have hd0' : (0 : Int) ≤ (dd : Int) := by omega
      have Htg := Lib.hid htg
      have Hbb := Lib.hid (hbb.alloc (Nat.le_of_lt hz) (.cells #[.int .i64 v0, .int .i64 v1, .int .i64 v2, .int .i64 v3, .int .i64 v4, .int .i64 v5, .int .i64 v6, .int .i64 v7, .int .i64 t0, .int .i64 t1, .slice a ks.length cap] 26))
      have Hbz := Lib.hid (show w.heap.size ≤ (w2.alloc (.cells #[.int .i64 v0, .int .i64 v1, .int .i64 v2, .int .i64 v3, .int .i64 v4, .int .i64 v5, .int .i64 v6, .int .i64 v7, .int .i64 t0, .int .i64 t1, .slice a ks.length cap] 26)).heap.size by simp; omega)
      rw [Nat.zero_add] at hc8 hc9
      clear hdd hq hsome hB2 hv hvb h0 h1 haa hl hcp hf hk hdig hvv hrn htg hbb hi0
      go_upto_region 2 with fail
      obtain ⟨G, hG0⟩ : ∃ G, G = w2.heap.size := ⟨_, rfl⟩
      rw [← hG0] at hcv hc8 hc9 ⊢
      clear hG0
      generalize w2.alloc (.cells #[.int .i64 v0, .int .i64 v1, .int .i64 v2, .int .i64 v3, .int .i64 v4, .int .i64 v5, .int .i64 v6, .int .i64 v7, .int .i64 t0, .int .i64 t1, .slice a ks.length cap] 26) = w3 at Hbb Hbz hcv hc8 hc9 ⊢
      by_cases ht01 : tag = 0 ∨ tag = 1
      · by_cases hv0 : vv = 0
        · subst hv0
          have hres : r.tagged (k : Int) tag = false := by rw [Htg.out]; simp
          have Hres := Lib.hid hres
          clear hres
          rcases ht01 with rfl | rfl
          · obtain ⟨ι, F, hF, hG⟩ := world_class w3
            obtain ⟨i0, hi0⟩ := hG w3.drew (Below.refl _ _).drew
            have HF := Lib.hid hF
            have HG := Lib.hid hG
            have e0 := fun i => (Keeps.of_below (hF i)) _ _ hcv
            have e8 := fun i => (Keeps.of_below (hF i)) _ _ hc8
            have e9 := fun i => (Keeps.of_below (hF i)) _ _ hc9
            clear hF hG
            go_wp2_with fail
            refine wp_region_class F (by kernel_rfl) ⟨i0, hi0⟩ ?_
            repeat (go_big_quiet_step ((first
              | (go_at_call 82; with_reducible exact Calls.class_same (Hdig.out _))
              | with_reducible rfl)))
            refine wpQuiet_nil ?_
            rintro w4 ⟨i3, rfl⟩
            have Hfin := Lib.hid (HP.out _ Hres.out (F i3) (Hbb.out.trans ((HF.out i3).mono Hbz.out)))
            go_wp2_with fail
            exact Hfin.out
          · obtain ⟨ι, F, hF, hG⟩ := world_class w3
            obtain ⟨i0, hi0⟩ := hG w3.drew (Below.refl _ _).drew
            have HF := Lib.hid hF
            have HG := Lib.hid hG
            have e0 := fun i => (Keeps.of_below (hF i)) _ _ hcv
            have e8 := fun i => (Keeps.of_below (hF i)) _ _ hc8
            have e9 := fun i => (Keeps.of_below (hF i)) _ _ hc9
            clear hF hG
            go_wp2_with fail
            refine wp_region_class F (by kernel_rfl) ⟨i0, hi0⟩ ?_
            repeat (go_big_quiet_step ((first
              | (go_at_call 82; with_reducible exact Calls.class_same (Hdig.out _))
              | with_reducible rfl)))
            refine wpQuiet_nil ?_
            rintro w4 ⟨i3, rfl⟩
            have Hfin := Lib.hid (HP.out _ Hres.out (F i3) (Hbb.out.trans ((HF.out i3).mono Hbz.out)))
            go_wp2_with fail
            exact Hfin.out
        · have hvb : (vv == 0) = false := by simpa using hv0
          have hvn : (vv != 0) = true := by simpa using hv0
          rcases ht01 with rfl | rfl
          · have hres : r.tagged (k : Int) 0 = (bits .and .i64 (t0 / 2 ^ dd) 1 == 1) := by
              rw [Htg.out, if_pos rfl, show (vv != 0) = true by simpa using hv0]; rfl
            have Hres := Lib.hid hres
            clear hres
            obtain ⟨ι, F, hF, hG⟩ := world_class w3
            obtain ⟨i0, hi0⟩ := hG w3.drew (Below.refl _ _).drew
            have HF := Lib.hid hF
            have HG := Lib.hid hG
            have e0 := fun i => (Keeps.of_below (hF i)) _ _ hcv
            have e8 := fun i => (Keeps.of_below (hF i)) _ _ hc8
            have e9 := fun i => (Keeps.of_below (hF i)) _ _ hc9
            clear hF hG
            go_wp2_with fail
            refine wp_region_class F (by kernel_rfl) ⟨i0, hi0⟩ ?_
            repeat (go_big_quiet_step ((first
              | (go_at_call 82; with_reducible exact Calls.class_same (Hdig.out _))
              | with_reducible rfl)))
            refine wpQuiet_nil ?_
            rintro w4 ⟨i3, rfl⟩
            have Hfin := Lib.hid (HP.out _ Hres.out (F i3) (Hbb.out.trans ((HF.out i3).mono Hbz.out)))
            go_wp2_with fail
            exact Hfin.out
          · have hres : r.tagged (k : Int) 1 = (bits .and .i64 (t1 / 2 ^ dd) 1 == 1) := by
              rw [Htg.out, if_neg (by omega), show (vv != 0) = true by simpa using hv0]; rfl
            have Hres := Lib.hid hres
            clear hres
            obtain ⟨ι, F, hF, hG⟩ := world_class w3
            obtain ⟨i0, hi0⟩ := hG w3.drew (Below.refl _ _).drew
            have HF := Lib.hid hF
            have HG := Lib.hid hG
            have e0 := fun i => (Keeps.of_below (hF i)) _ _ hcv
            have e8 := fun i => (Keeps.of_below (hF i)) _ _ hc8
            have e9 := fun i => (Keeps.of_below (hF i)) _ _ hc9
            clear hF hG
            go_wp2_with fail
            refine wp_region_class F (by kernel_rfl) ⟨i0, hi0⟩ ?_
            repeat (go_big_quiet_step ((first
              | (go_at_call 82; with_reducible exact Calls.class_same (Hdig.out _))
              | with_reducible rfl)))
            refine wpQuiet_nil ?_
            rintro w4 ⟨i3, rfl⟩
            have Hfin := Lib.hid (HP.out _ Hres.out (F i3) (Hbb.out.trans ((HF.out i3).mono Hbz.out)))
            go_wp2_with fail
            exact Hfin.out
      · have hn0 : (tag == 0) = false := by simp; exact fun q => ht01 (.inl q)
        have hn1 : (tag == 1) = false := by simp; exact fun q => ht01 (.inr q)
        have hres : r.tagged (k : Int) tag = false := by
          rw [Htg.out, show decide (tag = 0) = false by simp; exact fun q => ht01 (.inl q), show decide (tag = 1) = false by simp; exact fun q => ht01 (.inr q)]; rfl
        have Hres := Lib.hid hres
        clear hres ht01
        obtain ⟨ι, F, hF, hG⟩ := world_class w3
        obtain ⟨i0, hi0⟩ := hG w3.drew (Below.refl _ _).drew
        have HF := Lib.hid hF
        have HG := Lib.hid hG
        have e0 := fun i => (Keeps.of_below (hF i)) _ _ hcv
        have e8 := fun i => (Keeps.of_below (hF i)) _ _ hc8
        have e9 := fun i => (Keeps.of_below (hF i)) _ _ hc9
        clear hF hG
        go_wp2_with fail
        refine wp_region_class F (by kernel_rfl) ⟨i0, hi0⟩ ?_
        repeat (go_big_quiet_step ((first
          | (go_at_call 82; with_reducible exact Calls.class_same (Hdig.out _))
          | with_reducible rfl)))
        refine wpQuiet_nil ?_
        rintro w4 ⟨i3, rfl⟩
        have Hfin := Lib.hid (HP.out _ Hres.out (F i3) (Hbb.out.trans ((HF.out i3).mono Hbz.out)))
        go_wp2_with fail
        exact Hfin.out
end Go.Proofs.Ytmdmbnpgdkmklaa
