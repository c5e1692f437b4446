/- radix.Check: the first error of a tree. -/
import Derived.Test.YtmdmbnpgdkmklaaSb
import Derived.Test.YtmdmbnpgdkmklaaRd5
namespace Go.Proofs.Ytmdmbnpgdkmklaa
open Go.RowKit
set_option linter.unusedVariables false
set_option linter.unusedSimpArgs false

/-- The first error of a tree: 0, 2 (range) or 3 (form). -/
def Rx.check (r : Rx) : Int :=
  if r.h < 0 ∨ 10 < r.h then 2
  else if r.h = 0 then (if r.root.absent = true then 0 else 3)
  else if r.root.ok r.h.toNat = false then 3
  else if r.h = 1 then 0
  else if (List.range 7).any (fun i => !(r.root.kid (i + 1)).absent) = true then 0 else 3

set_option maxRecDepth 100000 in
set_option maxHeartbeats 4000000 in
theorem Check_range {w : World} {r : Rx} {c : Array Value} (h : IsR w r c) (hh : r.h < 0 ∨ 10 < r.h) :
    Calls Try.prog 19 #[.agg c] w fun e w' => e = .returned (.int .i64 2) ∧ Below w.heap.size w w' := by
  obtain ⟨_, nc, rfl, hn⟩ := h
  obtain ⟨x0, x1, x2, x3, x4, x5, x6, x7, x8, x9, x10, hx⟩ := arr11 hn.size
  subst hx
  simp only [List.append_toArray, List.cons_append, List.nil_append]
  obtain ⟨H, root⟩ := r
  simp only at hh ⊢
  clear hn
  by_cases h0 : H < 0
  · clear hh
    go_enter Try.func19, Try.ntmps19
    go_wp2_with fail
    go_ret
    exact ⟨rfl, (Below.refl _ _).alloc (Nat.le_refl _) _⟩
  · replace hh : 10 < H := hh.resolve_left h0
    go_enter Try.func19, Try.ntmps19
    go_wp2_with fail
    go_ret
    exact ⟨rfl, (Below.refl _ _).alloc (Nat.le_refl _) _⟩

set_option maxRecDepth 100000 in
set_option maxHeartbeats 4000000 in
theorem Check_zero {w : World} {r : Rx} {c : Array Value} (h : IsR w r c) (hh : r.h = 0) :
    Calls Try.prog 19 #[.agg c] w fun e w' => e = .returned (.int .i64 (if r.root.absent = true then 0 else 3)) ∧ Below w.heap.size w w' := by
  obtain ⟨_, nc, rfl, hn⟩ := h
  have hab := absent_spec (hn.keeps (Keeps.alloc w (.cells (#[.int .i64 r.h] ++ nc) 28)))
  obtain ⟨x0, x1, x2, x3, x4, x5, x6, x7, x8, x9, x10, hx⟩ := arr11 hn.size
  subst hx
  simp only [List.append_toArray, List.cons_append, List.nil_append] at hab ⊢
  obtain ⟨H, root⟩ := r
  simp only at hh hab ⊢
  subst hh
  clear hn
  cases ha : root.absent with
  | true =>
    rw [ha] at hab
    rw [if_pos rfl]
    have Hab := Lib.hid hab
    clear ha hab
    go_enter Try.func19, Try.ntmps19
    go_wp2_with fail
    (with_reducible refine Hab.out.mono ?_)
    rintro e w2 ⟨rfl, hB2⟩
    have hend : Below w.heap.size w w2 := ((Below.refl w.heap.size w).alloc (Nat.le_refl _) _).trans (hB2.mono (by simp))
    go_wp2_with fail
    go_ret
    exact ⟨rfl, hend⟩
  | false =>
    rw [ha] at hab
    rw [if_neg (by simp)]
    have Hab := Lib.hid hab
    clear ha hab
    go_enter Try.func19, Try.ntmps19
    go_wp2_with fail
    (with_reducible refine Hab.out.mono ?_)
    rintro e w2 ⟨rfl, hB2⟩
    have hend : Below w.heap.size w w2 := ((Below.refl w.heap.size w).alloc (Nat.le_refl _) _).trans (hB2.mono (by simp))
    go_wp2_with fail
    go_ret
    exact ⟨rfl, hend⟩

set_option maxRecDepth 100000 in
set_option maxHeartbeats 4000000 in
theorem Check_low {w : World} {r : Rx} {c : Array Value} (l : Nat) (hl : l ≤ 9) (h : IsR w r c) (hh : r.h = (l : Int) + 1) (hc : r.root.ok (l + 1) = false ∨ l = 0) :
    Calls Try.prog 19 #[.agg c] w fun e w' => e = .returned (.int .i64 (if r.root.ok (l + 1) = false then 3 else 0)) ∧ Below w.heap.size w w' := by
  obtain ⟨_, nc, rfl, hn⟩ := h
  have hval := valid_spec l hl _ _ _ (hn.keeps (Keeps.alloc w (.cells (#[.int .i64 r.h] ++ nc) 28)))
  have hrow := rowAt_new w (#[.int .i64 r.h] ++ nc) 28
  obtain ⟨x0, x1, x2, x3, x4, x5, x6, x7, x8, x9, x10, hx⟩ := arr11 hn.size
  subst hx
  obtain ⟨H, root⟩ := r
  simp only at hh hval hrow hc ⊢
  subst hh
  have hc0 := rowAt_head hrow
  simp only [List.append_toArray, List.cons_append, List.nil_append] at hval hc0 ⊢
  have Hval := Lib.hid hval
  clear hn hval hrow
  obtain ⟨q, hq⟩ : ∃ q, root.ok (l + 1) = q := ⟨_, rfl⟩
  rw [hq] at Hval hc ⊢
  clear hq
  have h0 : ((l : Int) + 1 == 0) = false := by simp; omega
  go_enter Try.func19, Try.ntmps19
  go_wp2_with fail
  (with_reducible refine Hval.out.mono ?_)
  rintro e w2 ⟨rfl, hB2⟩
  have hend : Below w.heap.size w w2 := ((Below.refl w.heap.size w).alloc (Nat.le_refl _) _).trans (hB2.mono (by simp))
  replace hc0 := (Keeps.of_below hB2) _ _ hc0
  cases q with
  | false =>
    go_wp2_with fail
    go_ret
    exact ⟨rfl, hend⟩
  | true =>
    obtain rfl : l = 0 := hc.resolve_left (by simp)
    go_wp2_with fail
    go_ret
    exact ⟨rfl, hend⟩

set_option maxRecDepth 100000 in
set_option maxHeartbeats 8000000 in
theorem Check_high {w : World} {r : Rx} {c : Array Value} (l : Nat) (hl : l ≤ 8) (h : IsR w r c) (hh : r.h = (l : Int) + 2) (hok : r.root.ok (l + 2) = true) :
    Calls Try.prog 19 #[.agg c] w fun e w' => e = .returned (.int .i64 (if (List.range 7).any (fun i => !(r.root.kid (i + 1)).absent) = true then 0 else 3)) ∧ Below w.heap.size w w' := by
  obtain ⟨_, nc, rfl, hn⟩ := h
  have hval := valid_spec (l + 1) (by omega) _ _ _ (hn.keeps (Keeps.alloc w (.cells (#[.int .i64 r.h] ++ nc) 28)))
  rw [hok, show ((l + 1 : Nat) : Int) + 1 = (l : Int) + 2 by omega] at hval
  have hrow := rowAt_new w (#[.int .i64 r.h] ++ nc) 28
  obtain ⟨H, root⟩ := r
  have h8 : root.ks.length = 8 := by
    have := hok
    simp only [Nd.ok, Bool.and_eq_true, beq_iff_eq] at this
    exact this.1.1.1.1.2
  simp only at hh hval hrow hok hn ⊢
  subst hh
  have hc0 := rowAt_head hrow
  cases hn with
  | mk v t0 t1 ks a b o cap f hv hvb h0 h1 haa hll hcp hf hk =>
    replace h8 : ks.length = 8 := h8
    rw [h8] at hf hcp
    obtain rfl : a = some ⟨b, o, none⟩ := haa (by intro h; simp [h] at h8)
    have hc11 : (w.alloc (.cells (#[.int .i64 ((l : Int) + 2)] ++ ndCells v t0 t1 (.slice (some ⟨b, o, none⟩) 8 cap)) 28)).cell? ⟨w.heap.size, 11, none⟩ = some (.slice (some ⟨b, o, none⟩) 8 cap) := by
      obtain ⟨v0, v1, v2, v3, v4, v5, v6, v7, rfl⟩ := list8 hv
      rw [h8] at hrow
      exact hrow 11 (by simp [ndCells])
    rw [h8] at hval hc0 ⊢
    obtain ⟨v0, v1, v2, v3, v4, v5, v6, v7, rfl⟩ := list8 hv
    simp only [ndCells, List.map_cons, List.map_nil, List.append_toArray, List.cons_append, List.nil_append] at hval hc0 hc11 ⊢
    obtain ⟨V, hV⟩ : ∃ V, V = [v0, v1, v2, v3, v4, v5, v6, v7] := ⟨_, rfl⟩
    rw [← hV]
    obtain ⟨q, hq⟩ : ∃ q, (List.range 7).any (fun i => !((Nd.mk V t0 t1 ks).kid (i + 1)).absent) = q := ⟨_, rfl⟩
    rw [hq]
    obtain ⟨res, hres⟩ : ∃ res : Int, (if q = true then 0 else 3) = res := ⟨_, rfl⟩
    rw [hres]
    have Hq := Lib.hid hq
    have Hres := Lib.hid hres
    clear hq hres
    have Hval := Lib.hid hval
    have Hf := Lib.hid hf
    have Hk := Lib.hid hk
    have H8 := Lib.hid h8
    obtain ⟨hcp1, hcp2⟩ := hcp
    clear hval hrow hf hk haa h8 hV hv hvb h0 h1 hok hll
    have hz0 : ((l : Int) + 2 == 0) = false := by simp; omega
    have hz1 : ((l : Int) + 2 == 1) = false := by simp; omega
    go_enter Try.func19, Try.ntmps19
    go_wp2_with fail
    (with_reducible refine Hval.out.mono ?_)
    rintro e w2 ⟨rfl, hB2⟩
    have hkw : Keeps w w2 := (Keeps.alloc w _).trans (Keeps.of_below hB2)
    have hbb : Below w.heap.size w w2 := ((Below.refl w.heap.size w).alloc (Nat.le_refl _) _).trans (hB2.mono (by simp))
    have hz : w.heap.size < w2.heap.size := by have := hB2.size; simp at this; omega
    replace hc0 := (Keeps.of_below hB2) _ _ hc0
    replace hc11 := (Keeps.of_below hB2) _ _ hc11
    have Hkw := Lib.hid hkw
    clear hB2 Hval hkw
    go_wp2_with fail
    go_loopw [34] (fun i wr => ∃ j : Nat, j ≤ 7 ∧ i = .int .i64 j ∧ (∀ t, t < j → ((Nd.mk V t0 t1 ks).kid (t + 1)).absent = true) ∧ Below w2.heap.size w2 wr) (fun i _ => 7 - (intOf i).toNat)
    case atStart => exact ⟨0, by omega, rfl, fun t ht => by omega, Below.refl _ _⟩
    case round =>
      obtain ⟨j, hj, rfl, habs, hbe⟩ := hrel
      have Habs := Lib.hid habs
      clear habs
      have hkeep := Keeps.of_below hbe
      have hzz := hbe.size
      by_cases hlt : j < 7
      · have hj8 : j + 1 < ks.length := by rw [H8.out]; omega
        obtain ⟨kd, hkd⟩ : ∃ kd, kd = (Nd.mk V t0 t1 ks).kid (j + 1) := ⟨_, rfl⟩
        have hkn : IsN wr kd (f (j + 1)) := by
          have := (Hk.out (j + 1) hj8).keeps (Hkw.out.trans hkeep)
          rwa [show ks[j + 1] = kd by rw [hkd]; simp [Nd.kid, Nd.ks, hj8]] at this
        have hkr : RowAt wr b (o + (j + 1) * 11) (f (j + 1)) := (Hf.out (j + 1) (by omega)).keeps (Hkw.out.trans hkeep)
        obtain ⟨x0, x1, x2, x3, x4, x5, x6, x7, xp, xl, xc, hx⟩ := hkn.lit
        rw [hx] at hkn hkr
        rw [show o + (j + 1) * 11 = o + 11 + j * 11 by omega] at hkr
        have hcall := fun (W : World) (q : Keeps wr W) => absent_spec (hkn.keeps q)
        have Hcall := Lib.hid hcall
        have Hkr := Lib.hid hkr
        have Hkd := Lib.hid hkd
        clear hcall hkr hkd hkn hx
        have hanyt : kd.absent = false → q = true := fun h => by
          rw [← Hq.out, List.any_eq_true]
          exact ⟨j, by simpa using hlt, by rw [← Hkd.out, h]; rfl⟩
        have Hanyt := Lib.hid hanyt
        have hnext : kd.absent = true → ∀ t, t < j + 1 → ((Nd.mk V t0 t1 ks).kid (t + 1)).absent = true := fun h t ht => by
          rcases Nat.lt_or_ge t j with h1 | h1
          · exact Habs.out t h1
          · rw [show t = j by omega, ← Hkd.out]; exact h
        have Hnext := Lib.hid hnext
        have hbeA := hbe.alloc hzz (.cells #[.int .i64 x0, .int .i64 x1, .int .i64 x2, .int .i64 x3, .int .i64 x4, .int .i64 x5, .int .i64 x6, .int .i64 x7, .int .i64 kd.t0, .int .i64 kd.t1, .slice xp xl xc] 26)
        have HbeA := Lib.hid hbeA
        clear hanyt hnext hbeA hkeep
        obtain ⟨ab, hab⟩ : ∃ ab, kd.absent = ab := ⟨_, rfl⟩
        rw [hab] at Hcall Hanyt Hnext
        clear hab
        go_wp2_with (first | (refine wpList_load_nd _ rfl rfl b (o + 11 + j * 11) rfl _ rfl Hkr.out ?_))
        (with_reducible refine (Hcall.out _ (Keeps.alloc _ _)).mono ?_)
        rintro e w3 ⟨rfl, hB3⟩
        have hb3 : Below w2.heap.size w2 w3 := HbeA.out.trans (hB3.mono (by simp; omega))
        have Hb3 := Lib.hid hb3
        clear hb3 hB3
        cases ab with
        | true =>
          go_wp2_with fail
          go_roundw
          case rel => exact ⟨j + 1, by omega, by go_num, Hnext.out (by simp), Hb3.out⟩
          case measure => simp [intOf]; omega
        | false =>
          obtain rfl := Hanyt.out (by simp)
          go_wp2_with fail
          go_ret
          exact ⟨ret_int Hres.out, hbb.trans (Hb3.out.mono (Nat.le_of_lt hz))⟩
      · obtain rfl : j = 7 := by omega
        have hqf : q = false := by
          rw [← Hq.out, List.any_eq_false]
          intro t ht
          rw [Habs.out t (by simpa using ht)]; simp
        subst hqf
        go_wp2_with fail
        go_ret
        exact ⟨ret_int Hres.out, hbb.trans (hbe.mono (Nat.le_of_lt hz))⟩

theorem Check_spec {w : World} {r : Rx} {c : Array Value} (h : IsR w r c) :
    Calls Try.prog 19 #[.agg c] w fun e w' => e = .returned (.int .i64 r.check) ∧ Below w.heap.size w w' := by
  unfold Rx.check
  by_cases h0 : r.h < 0 ∨ 10 < r.h
  · rw [if_pos h0]; exact Check_range h h0
  · rw [if_neg h0]
    by_cases h1 : r.h = 0
    · rw [if_pos h1]; exact Check_zero h h1
    · rw [if_neg h1]
      obtain ⟨l, hl, hl9⟩ : ∃ l : Nat, r.h = (l : Int) + 1 ∧ l ≤ 9 := ⟨(r.h - 1).toNat, by omega, by omega⟩
      rw [show r.h.toNat = l + 1 by omega]
      cases l with
      | zero =>
        rw [if_pos (show r.h = 1 by omega)]
        exact Check_low 0 hl9 h hl (.inr rfl)
      | succ l =>
        rw [if_neg (show ¬ r.h = 1 by omega)]
        cases hq : r.root.ok (l + 1 + 1) with
        | false =>
          have := Check_low (l + 1) hl9 h hl (.inl hq)
          rw [hq] at this
          exact this
        | true => exact Check_high l (by omega) h (by omega) hq
end Go.Proofs.Ytmdmbnpgdkmklaa
