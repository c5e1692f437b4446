/- radix.walk at a leaf: it hands the entries to the yield function, in ascending order, until that says no. -/
import Derived.Test.YtmdmbnpgdkmklaaSc
import Derived.StillTailTactics
import Derived.WalkSmall
namespace Go.Proofs.Ytmdmbnpgdkmklaa
open Go.RowKit
set_option linter.unusedVariables false
set_option linter.unusedSimpArgs false

/-- What a yield function does: each call takes one step, and turns one block alone. -/
def Yields {σ : Type} (w0 : World) (bv : Nat) (p1 p2 : Value) (J : σ → World → Prop) (step : σ → Nat → Int → Bool × σ) : Prop :=
  ∀ (s : σ) (W : World) (i : Nat) (t : Int), i < 1073741824 → 0 ≤ t → t ≤ 3 → J s W → Below w0.heap.size w0 W → bv < W.heap.size →
    Calls Try.prog 106 #[.int .i64 i, .int .i64 t, p1, p2] W fun e W' => e = .returned (.bool (step s i t).1) ∧ J (step s i t).2 W' ∧ Mod bv W W'

def Stays {σ : Type} (J : σ → World → Prop) : Prop := ∀ s W W', J s W → Below W.heap.size W W' → J s W'

def leafEnts (V : List Int) (t0 t1 : Int) (first k : Nat) : List En :=
  (List.range k).flatMap fun d => if V.getD d 0 = 0 then [] else [⟨first + d, V.getD d 0, bit01 t0 d + bit01 t1 d * 2⟩]

theorem leafEnts_succ (V : List Int) (t0 t1 : Int) (first k : Nat) : leafEnts V t0 t1 first (k + 1) = leafEnts V t0 t1 first k ++ if V.getD k 0 = 0 then [] else [⟨first + k, V.getD k 0, bit01 t0 k + bit01 t1 k * 2⟩] := by
  unfold leafEnts
  rw [List.range_succ, List.flatMap_append]
  simp

set_option maxRecDepth 100000 in
set_option maxHeartbeats 8000000 in
theorem walk_leaf {σ : Type} {w0 : World} {bv : Nat} {p1 p2 : Value} {J : σ → World → Prop} {step : σ → Nat → Int → Bool × σ} (hY : Yields w0 bv p1 p2 J step) (hJ : Stays J) (hbv : w0.heap.size ≤ bv)
    {n : Nd} {c : Array Value} (h : IsN w0 n c) (first : Nat) (hfirst : first + 8 ≤ 1073741824) (s : σ) (W : World) (hs : J s W) (hW : Below w0.heap.size w0 W) (hb : bv < W.heap.size) :
    Calls Try.prog 105 #[.agg c, .int .i64 1, .int .i64 first, .func (.func 106) #[] #[p1, p2]] W fun e W' =>
      e = .returned (.bool (feed step s (n.ents 0 first)).1) ∧ J (feed step s (n.ents 0 first)).2 W' ∧ Mod bv W W' := by
  have hrow := rowAt_new W c 26
  cases h with
  | mk v t0 t1 ks a b o cap f hv hvb h0 h1 haa hl hcp hf hk =>
    have hents : (Nd.mk v t0 t1 ks).ents 0 first = leafEnts v t0 t1 first 8 := rfl
    rw [hents]
    obtain ⟨v0, v1, v2, v3, v4, v5, v6, v7, rfl⟩ := list8 hv
    simp only [ndCells, List.map_cons, List.map_nil, List.cons_append, List.nil_append] at hrow ⊢
    obtain ⟨V, hV⟩ : ∃ V, V = [v0, v1, v2, v3, v4, v5, v6, v7] := ⟨_, rfl⟩
    have hcellV := fun (W' : World) (k : Nat) (hk : k < 8) (hr : RowAt W' W.heap.size 0 _) => cellV (b := W.heap.size) (v0 := v0) (v1 := v1) (v2 := v2) (v3 := v3) (v4 := v4) (v5 := v5) (v6 := v6) (v7 := v7) (c8 := .int .i64 t0) (c9 := .int .i64 t1) (c10 := .slice a ks.length cap) hr hk
    rw [← hV] at hv hcellV ⊢
    obtain ⟨post, hpost⟩ : ∃ post : Ending → World → Prop, post = fun e W' => e = .returned (.bool (feed step s (leafEnts V t0 t1 first 8)).1) ∧ J (feed step s (leafEnts V t0 t1 first 8)).2 W' ∧ Mod bv W W' := ⟨_, rfl⟩
    have HP : Hid (∀ e W', e = .returned (.bool (feed step s (leafEnts V t0 t1 first 8)).1) → J (feed step s (leafEnts V t0 t1 first 8)).2 W' → Mod bv W W' → post e W') := Lib.hid (by rw [hpost]; exact fun e W' a b c => ⟨a, b, c⟩)
    rw [← hpost]
    have HY := Lib.hid hY
    have HJ := Lib.hid hJ
    have Hcell := Lib.hid hcellV
    have Hbv := Lib.hid hbv
    have HW := Lib.hid hW
    obtain ⟨W1, hW1⟩ : ∃ W1, W1 = W.alloc (.cells #[.int .i64 v0, .int .i64 v1, .int .i64 v2, .int .i64 v3, .int .i64 v4, .int .i64 v5, .int .i64 v6, .int .i64 v7, .int .i64 t0, .int .i64 t1, .slice a ks.length cap] 26) := ⟨_, rfl⟩
    have HW1 := Lib.hid hW1
    have hB1 : Below W.heap.size W W1 := by rw [hW1]; exact (Below.refl _ _).alloc (Nat.le_refl _) _
    have hz1 : W1.heap.size = W.heap.size + 1 := by rw [hW1]; simp
    rw [← hW1] at hrow
    have Hrow := Lib.hid hrow
    have Hs1 := Lib.hid (hJ s W W1 hs hB1)
    have HM1 := Lib.hid (Mod.of_below (bv := bv) hB1)
    have Hz1 := Lib.hid hz1
    clear hrow hcellV hV hvb hf hk haa hcp hl h0 h1 hpost hents hY hJ hbv hs hW hB1 hW1 hz1
    go_enter Try.func105, Try.ntmps105
    go_wp2_with fail
    rw [← HW1.out]
    go_loopw [11] (fun i wr => ∃ (k : Nat) (s' : σ), k ≤ 8 ∧ i = .int .i64 k ∧ Hid (feed step s (leafEnts V t0 t1 first k) = (true, s')) ∧ Hid (J s' wr) ∧ Hid (Mod bv W1 wr)) (fun i _ => 8 - (intOf i).toNat)
    case atStart => exact ⟨0, s, by omega, rfl, Lib.hid rfl, Hs1, Lib.hid (Mod.refl _ _)⟩
    case round =>
      obtain ⟨k, s', hk8, rfl, Hfd, Hs', HM⟩ := hrel
      have hne : W.heap.size ≠ bv := by omega
      have hrow2 := HM.out.row Hrow.out hne
      obtain ⟨hc0, hc8, hc9, hc10⟩ := cells11 hrow2
      have hend := HM1.out.trans HM.out
      by_cases hlt : k < 8
      · have hcell := Hcell.out wr k hlt hrow2
        clear hrow2 Hcell
        obtain ⟨x, hx⟩ : ∃ x, x = V.getD k 0 := ⟨_, rfl⟩
        rw [← hx] at hcell
        have Hx := Lib.hid hx
        clear hx
        by_cases hx0 : x = 0
        · subst hx0
          have Hnext : Hid (feed step s (leafEnts V t0 t1 first (k + 1)) = (true, s')) := Lib.hid (by rw [leafEnts_succ, if_pos Hx.out.symm, List.append_nil]; exact Hfd.out)
          have Hend := Lib.hid hend
          clear hend hne
          have hkk : ((k : Int)) < 8 := by omega
          go_wp2_with fail
          go_quiet (fail)
          go_wp2_with fail
          go_roundw
          case rel => exact ⟨k + 1, s', by omega, by go_num, Hnext, Lib.hid (HJ.out _ _ _ Hs'.out (below_drewN (Below.refl _ _) _)), Lib.hid (HM.out.trans (Mod.of_below (below_drewN (Below.refl _ _) _)))⟩
          case measure => simp [intOf]; omega
        · have hx1 : (x != 0) = true := by simpa using hx0
          have hkk : ((k : Int)) < 8 := by omega
          obtain ⟨q0, hq0⟩ : ∃ q, bits .and .i64 (t0 / 2 ^ k) 1 = q := ⟨_, rfl⟩
          obtain ⟨q1, hq1⟩ : ∃ q, bits .and .i64 (t1 / 2 ^ k) 1 = q := ⟨_, rfl⟩
          have hb0 : 0 ≤ q0 ∧ q0 ≤ 1 := by rw [← hq0]; exact bit01_bd t0 k
          have hb1 : 0 ≤ q1 ∧ q1 ≤ 1 := by rw [← hq1]; exact bit01_bd t1 k
          obtain ⟨hb01, hb02⟩ := hb0
          obtain ⟨hb11, hb12⟩ := hb1
          have Hnx : Hid (leafEnts V t0 t1 first (k + 1) = leafEnts V t0 t1 first k ++ [⟨first + k, x, q0 + q1 * 2⟩]) := Lib.hid (by
            rw [leafEnts_succ, ← Hx.out, if_neg hx0]; unfold bit01; rw [hq0, hq1])
          have Hend := Lib.hid hend
          have hcall := HY.out s' wr.drew (first + k) (q0 + q1 * 2) (by omega) (by omega) (by omega) (HJ.out _ _ _ Hs'.out (Below.refl _ _).drew) ((HM1.out.trans HM.out).below HW.out Hbv.out (HW.out.size) |>.drew) (by have := hend.size; show bv < wr.heap.size; omega)
          have Hcall := Lib.hid hcall
          have hfk : (first : Int) + (k : Int) = ((first + k : Nat) : Int) := by omega
          have Hfk := Lib.hid hfk
          clear hend hne hcall hfk hx0
          go_wp2_with fail
          refine wp_region_still_tail 22 (by kernel_rfl) (by kernel_rfl) ?_
          simp only [List.take_succ_cons, List.take_zero, List.drop_succ_cons, List.drop_zero]
          repeat still_step
          refine wpStill_nil ?_
          change wpList _ _ _ _ _ wr.drew
          go_wp2_with fail
          rw [Hfk.out]
          obtain ⟨ans, hans⟩ : ∃ ans, (step s' (first + k) (q0 + q1 * 2)).1 = ans := ⟨_, rfl⟩
          obtain ⟨s2, hs2⟩ : ∃ s2, (step s' (first + k) (q0 + q1 * 2)).2 = s2 := ⟨_, rfl⟩
          rw [hans, hs2] at Hcall
          have Hfd2 : Hid (feed step s (leafEnts V t0 t1 first (k + 1)) = (ans, s2)) := Lib.hid (by
            rw [Hnx.out, feed_append, Hfd.out]
            simp only [feed, if_true]
            rw [hans, hs2]
            cases ans <;> rfl)
          clear hans hs2
          (with_reducible refine Hcall.out.mono ?_)
          rintro e w5 ⟨rfl, hJ5, hM5⟩
          have HJ5 := Lib.hid hJ5
          have HM5 := Lib.hid (HM.out.trans ((Mod.of_below (Below.refl _ _).drew).trans hM5))
          clear hJ5 hM5
          cases ans with
          | true =>
            go_wp2_with fail
            go_roundw
            case rel => exact ⟨k + 1, s2, by omega, by go_num, Hfd2, HJ5, HM5⟩
            case measure => simp [intOf]; omega
          | false =>
            have Hall : Hid (feed step s (leafEnts V t0 t1 first 8) = (false, s2)) := Lib.hid (by
              have hsplit : leafEnts V t0 t1 first 8 = leafEnts V t0 t1 first (k + 1) ++ ((List.range' (k + 1) (8 - (k + 1))).flatMap fun d => if V.getD d 0 = 0 then [] else [⟨first + d, V.getD d 0, bit01 t0 d + bit01 t1 d * 2⟩]) := by
                unfold leafEnts
                rw [← List.flatMap_append, ← range_split (by omega)]
              rw [hsplit, feed_append, Hfd2.out]; rfl)
            go_wp2_with fail
            exact HP.out _ _ (by rw [Hall.out]; rfl) (by rw [Hall.out]; exact HJ5.out) (HM1.out.trans HM5.out)
      · obtain rfl : k = 8 := by omega
        have Hend := Lib.hid hend
        clear hrow2 Hcell hend hne
        rw [show ((8 : Nat) : Int) = 8 from rfl]
        go_wp2_with fail
        exact HP.out _ _ (by rw [Hfd.out]; rfl) (by rw [Hfd.out]; exact Hs'.out) Hend.out
end Go.Proofs.Ytmdmbnpgdkmklaa
