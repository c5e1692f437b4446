/- radix.walk at a leaf: it hands the entries to the yield function, in ascending order, until that says no. -/
import Derived.Test.YtmdmbnpgdkmklaaSc
import Derived.StillTailTactics
import Derived.WalkSmall
namespace Go.Proofs.Ytmdmbnpgdkmklaa
open Go.RowKit
set_option linter.unusedVariables false
set_option linter.unusedSimpArgs false

/-- The row that the slice in the cell at bv lies in. -/
def rowOf (W : World) (bv k : Nat) : Prop := ∃ n cap, W.cell? ⟨bv, 0, none⟩ = some (.slice (some ⟨k, 0, none⟩) n cap)

/-- What was there stays, but for the block bv and the row that its slice lies in. -/
structure Mo (bv : Nat) (W W' : World) : Prop where
  os : W'.os = W.os
  tape : W'.tape = W.tape
  output : W'.output = W.output
  size : W.heap.size ≤ W'.heap.size
  block : bv < W.heap.size → ∀ k, k < W.heap.size → k ≠ bv → ¬ rowOf W bv k → W'.heap[k]? = W.heap[k]?
  rowK : bv < W.heap.size → ∀ k, rowOf W' bv k → rowOf W bv k ∨ W.heap.size ≤ k

theorem Mo.refl (bv : Nat) (W : World) : Mo bv W W := ⟨rfl, rfl, rfl, Nat.le_refl _, fun _ _ _ _ _ => rfl, fun _ _ h => .inl h⟩
theorem Mo.trans {bv : Nat} {a b c : World} (h : Mo bv a b) (k : Mo bv b c) : Mo bv a c := by
  refine ⟨k.os.trans h.os, k.tape.trans h.tape, k.output.trans h.output, Nat.le_trans h.size k.size, fun hb i hi hn hr => ?_, fun hb i hi => ?_⟩
  · refine (k.block (Nat.lt_of_lt_of_le hb h.size) i (Nat.lt_of_lt_of_le hi h.size) hn (fun q => ?_)).trans (h.block hb i hi hn hr)
    rcases h.rowK hb i q with q | q
    · exact hr q
    · omega
  · rcases k.rowK (Nat.lt_of_lt_of_le hb h.size) i hi with q | q
    · exact h.rowK hb i q
    · exact .inr (Nat.le_trans h.size q)
theorem rowOf_below {bv : Nat} {W W' : World} (h : Below W.heap.size W W') (hb : bv < W.heap.size) {k : Nat} : rowOf W' bv k ↔ rowOf W bv k := by
  unfold rowOf
  rw [h.cell (p := ⟨bv, 0, none⟩) hb]
theorem Mo.of_below {bv : Nat} {W W' : World} (h : Below W.heap.size W W') : Mo bv W W' := ⟨h.os, h.tape, h.output, h.size, fun _ k hk _ _ => h.block k hk, fun hb k hk => .inl ((rowOf_below h hb).1 hk)⟩
theorem Mo.below {bv B : Nat} {w0 W W' : World} (h : Mo bv W W') (hb : Below B w0 W) (hB : B ≤ bv) (hw : B ≤ W.heap.size) (hbv : bv < W.heap.size) (hr : ∀ k, rowOf W bv k → B ≤ k) : Below B w0 W' :=
  hb.trans ⟨h.os, h.tape, h.output, h.size, fun k hk => h.block hbv k (by omega) (by omega) (fun q => by have := hr k q; omega)⟩
theorem Mo.cell {bv : Nat} {W W' : World} (h : Mo bv W W') {b o : Nat} {v : Value} (hc : W.cell? ⟨b, o, none⟩ = some v) (hn : b ≠ bv) (hbv : bv < W.heap.size) (hr : ¬ rowOf W bv b) : W'.cell? ⟨b, o, none⟩ = some v := by
  have hb := h.block hbv b (lt_of_cell hc) hn hr
  rw [← hc]
  simp only [World.cell?, hb]
theorem Mo.row {bv : Nat} {W W' : World} (h : Mo bv W W') {b o : Nat} {cs : Array Value} (hc : RowAt W b o cs) (hn : b ≠ bv) (hbv : bv < W.heap.size) (hr : ¬ rowOf W bv b) : RowAt W' b o cs := fun i hi => h.cell (hc i hi) hn hbv hr

/-- The state's row lies behind w0. -/
def Inb {σ : Type} (w0 : World) (bv : Nat) (J : σ → World → Prop) : Prop := ∀ s W, J s W → ∀ k, rowOf W bv k → w0.heap.size ≤ k ∧ k < W.heap.size

/-- All steps of a feed meet the precondition. -/
def Okf {σ : Type} (Pre : σ → Nat → Int → Prop) (step : σ → Nat → Int → Bool × σ) : σ → List En → Prop
  | _, [] => True
  | s, e :: l => Pre s e.i e.t ∧ ((step s e.i e.t).1 = true → Okf Pre step (step s e.i e.t).2 l)

theorem okf_append {σ : Type} {Pre : σ → Nat → Int → Prop} {step : σ → Nat → Int → Bool × σ} : ∀ (l m : List En) (s s' : σ), Okf Pre step s (l ++ m) → feed step s l = (true, s') → Okf Pre step s' m
  | [], m, s, s', h, hf => by
    have : s = s' := (Prod.mk.inj hf).2
    rw [← this]; exact h
  | e :: l, m, s, s', h, hf => by
    unfold feed at hf
    by_cases q : (step s e.i e.t).1 = true
    · rw [if_pos q] at hf
      exact okf_append l m _ s' (h.2 q) hf
    · rw [if_neg q] at hf
      cases (Prod.mk.inj hf).1

theorem okf_left {σ : Type} {Pre : σ → Nat → Int → Prop} {step : σ → Nat → Int → Bool × σ} : ∀ (l m : List En) (s : σ), Okf Pre step s (l ++ m) → Okf Pre step s l
  | [], _, _, _ => trivial
  | e :: l, m, s, h => ⟨h.1, fun q => okf_left l m _ (h.2 q)⟩

theorem okf_true {σ : Type} {Pre : σ → Nat → Int → Prop} {step : σ → Nat → Int → Bool × σ} (hP : ∀ s i t, Pre s i t) : ∀ (l : List En) (s : σ), Okf Pre step s l
  | [], _ => trivial
  | e :: l, s => ⟨hP _ _ _, fun _ => okf_true hP l _⟩

/-- What a yield function does: each call takes one step, and turns one block alone. -/
def Yields {σ : Type} (w0 : World) (bv : Nat) (p1 p2 : Value) (J : σ → World → Prop) (Pre : σ → Nat → Int → Prop) (step : σ → Nat → Int → Bool × σ) : Prop :=
  ∀ (s : σ) (W : World) (i : Nat) (t : Int), i < 1073741824 → 0 ≤ t → t ≤ 3 → Pre s i t → J s W → Below w0.heap.size w0 W → bv < W.heap.size →
    Calls Try.prog 106 #[.int .i64 i, .int .i64 t, p1, p2] W fun e W' => e = .returned (.bool (step s i t).1) ∧ J (step s i t).2 W' ∧ Mo bv W W'

def Stays {σ : Type} (J : σ → World → Prop) : Prop := ∀ s W W', J s W → Below W.heap.size W W' → J s W'

def leafEnts (V : List Int) (t0 t1 : Int) (first k : Nat) : List En :=
  (List.range k).flatMap fun d => if V.getD d 0 = 0 then [] else [⟨first + d, V.getD d 0, bit01 t0 d + bit01 t1 d * 2⟩]

theorem leafEnts_succ (V : List Int) (t0 t1 : Int) (first k : Nat) : leafEnts V t0 t1 first (k + 1) = leafEnts V t0 t1 first k ++ if V.getD k 0 = 0 then [] else [⟨first + k, V.getD k 0, bit01 t0 k + bit01 t1 k * 2⟩] := by
  unfold leafEnts
  rw [List.range_succ, List.flatMap_append]
  simp

theorem leafEnts_split (V : List Int) (t0 t1 : Int) (first k : Nat) (hk : k ≤ 8) : leafEnts V t0 t1 first 8 = leafEnts V t0 t1 first k ++ ((List.range' k (8 - k)).flatMap fun d => if V.getD d 0 = 0 then [] else [⟨first + d, V.getD d 0, bit01 t0 d + bit01 t1 d * 2⟩]) := by
  unfold leafEnts
  rw [← List.flatMap_append, ← range_split hk]

set_option maxRecDepth 100000 in
set_option maxHeartbeats 8000000 in
theorem walk_leaf {σ : Type} {w0 : World} {bv : Nat} {p1 p2 : Value} {J : σ → World → Prop} {Pre : σ → Nat → Int → Prop} {step : σ → Nat → Int → Bool × σ} (hY : Yields w0 bv p1 p2 J Pre step) (hJ : Stays J) (hIn : Inb w0 bv J) (hbv : w0.heap.size ≤ bv)
    {n : Nd} {c : Array Value} (h : IsN w0 n c) (first : Nat) (hfirst : first + 8 ≤ 1073741824) (s : σ) (W : World) (hO : Okf Pre step s (n.ents 0 first)) (hs : J s W) (hW : Below w0.heap.size w0 W) (hb : bv < W.heap.size) :
    Calls Try.prog 105 #[.agg c, .int .i64 1, .int .i64 first, .func (.func 106) #[] #[p1, p2]] W fun e W' =>
      e = .returned (.bool (feed step s (n.ents 0 first)).1) ∧ J (feed step s (n.ents 0 first)).2 W' ∧ Mo bv W W' := by
  have hrow := rowAt_new W c 26
  cases h with
  | mk v t0 t1 ks a b o cap f hv hvb h0 h1 haa hl hcp hf hk =>
    have hents : (Nd.mk v t0 t1 ks).ents 0 first = leafEnts v t0 t1 first 8 := rfl
    rw [hents] at hO ⊢
    obtain ⟨v0, v1, v2, v3, v4, v5, v6, v7, rfl⟩ := list8 hv
    simp only [ndCells, List.map_cons, List.map_nil, List.cons_append, List.nil_append] at hrow ⊢
    obtain ⟨V, hV⟩ : ∃ V, V = [v0, v1, v2, v3, v4, v5, v6, v7] := ⟨_, rfl⟩
    have hcellV := fun (W' : World) (k : Nat) (hk : k < 8) (hr : RowAt W' W.heap.size 0 _) => cellV (b := W.heap.size) (v0 := v0) (v1 := v1) (v2 := v2) (v3 := v3) (v4 := v4) (v5 := v5) (v6 := v6) (v7 := v7) (c8 := .int .i64 t0) (c9 := .int .i64 t1) (c10 := .slice a ks.length cap) hr hk
    rw [← hV] at hv hcellV hO ⊢
    have HO := Lib.hid hO
    clear hO
    obtain ⟨post, hpost⟩ : ∃ post : Ending → World → Prop, post = fun e W' => e = .returned (.bool (feed step s (leafEnts V t0 t1 first 8)).1) ∧ J (feed step s (leafEnts V t0 t1 first 8)).2 W' ∧ Mo bv W W' := ⟨_, rfl⟩
    have HP : Hid (∀ e W', e = .returned (.bool (feed step s (leafEnts V t0 t1 first 8)).1) → J (feed step s (leafEnts V t0 t1 first 8)).2 W' → Mo bv W W' → post e W') := Lib.hid (by rw [hpost]; exact fun e W' a b c => ⟨a, b, c⟩)
    rw [← hpost]
    have HY := Lib.hid hY
    have HJ := Lib.hid hJ
    have Hcell := Lib.hid hcellV
    have Hbv := Lib.hid hbv
    have HW := Lib.hid hW
    obtain ⟨W1, hW1⟩ : ∃ W1, W1 = W.alloc (.cells #[.int .i64 v0, .int .i64 v1, .int .i64 v2, .int .i64 v3, .int .i64 v4, .int .i64 v5, .int .i64 v6, .int .i64 v7, .int .i64 t0, .int .i64 t1, .slice a ks.length cap] 26) := ⟨_, rfl⟩
    have HW1 := Lib.hid hW1
    have hB1 : Below W.heap.size W W1 := by rw [hW1]; exact (Below.refl _ _).alloc (Nat.le_refl _) _
    have hz1 : W1.heap.size = W.heap.size + 1 := by rw [hW1]; simp
    rw [← hW1] at hrow
    have Hrow := Lib.hid hrow
    have Hs1 := Lib.hid (hJ s W W1 hs hB1)
    have HM1 := Lib.hid (Mo.of_below (bv := bv) hB1)
    have Hz1 := Lib.hid hz1
    have Hin := Lib.hid hIn
    have Hnr : Hid (¬ rowOf W1 bv W.heap.size) := Lib.hid (fun q => by have := (hIn s W hs _ ((rowOf_below hB1 hb).1 q)).2; omega)
    have HrW : Hid (∀ k, rowOf W bv k → w0.heap.size ≤ k) := Lib.hid (fun k q => (hIn s W hs k q).1)
    have hb1 : bv < W1.heap.size := by omega
    clear hIn hrow hcellV hV hvb hf hk haa hcp hl h0 h1 hpost hents hY hJ hbv hs hW hB1 hW1 hz1
    go_enter Try.func105, Try.ntmps105
    go_wp2_with fail
    rw [← HW1.out]
    go_loopw [11] (fun i wr => ∃ (k : Nat) (s' : σ), k ≤ 8 ∧ i = .int .i64 k ∧ Hid (feed step s (leafEnts V t0 t1 first k) = (true, s')) ∧ Hid (J s' wr) ∧ Hid (Mo bv W1 wr)) (fun i _ => 8 - (intOf i).toNat)
    case atStart => exact ⟨0, s, by omega, rfl, Lib.hid rfl, Hs1, Lib.hid (Mo.refl _ _)⟩
    case round =>
      obtain ⟨k, s', hk8, rfl, Hfd, Hs', HM⟩ := hrel
      have hne : W.heap.size ≠ bv := by omega
      have hrow2 := HM.out.row Hrow.out hne hb1 Hnr.out
      obtain ⟨hc0, hc8, hc9, hc10⟩ := cells11 hrow2
      have hend := HM1.out.trans HM.out
      by_cases hlt : k < 8
      · have hcell := Hcell.out wr k hlt hrow2
        clear hrow2 Hcell
        obtain ⟨x, hx⟩ : ∃ x, x = V.getD k 0 := ⟨_, rfl⟩
        rw [← hx] at hcell
        have Hx := Lib.hid hx
        clear hx
        by_cases hx0 : x = 0
        · subst hx0
          have Hnext : Hid (feed step s (leafEnts V t0 t1 first (k + 1)) = (true, s')) := Lib.hid (by rw [leafEnts_succ, if_pos Hx.out.symm, List.append_nil]; exact Hfd.out)
          have Hend := Lib.hid hend
          clear hend hne
          have hkk : ((k : Int)) < 8 := by omega
          go_wp2_with fail
          go_quiet (fail)
          go_wp2_with fail
          go_roundw
          case rel => exact ⟨k + 1, s', by omega, by go_num, Hnext, Lib.hid (HJ.out _ _ _ Hs'.out (below_drewN (Below.refl _ _) _)), Lib.hid (HM.out.trans (Mo.of_below (below_drewN (Below.refl _ _) _)))⟩
          case measure => simp [intOf]; omega
        · have hx1 : (x != 0) = true := by simpa using hx0
          have hkk : ((k : Int)) < 8 := by omega
          obtain ⟨q0, hq0⟩ : ∃ q, bits .and .i64 (t0 / 2 ^ k) 1 = q := ⟨_, rfl⟩
          obtain ⟨q1, hq1⟩ : ∃ q, bits .and .i64 (t1 / 2 ^ k) 1 = q := ⟨_, rfl⟩
          have hb0 : 0 ≤ q0 ∧ q0 ≤ 1 := by rw [← hq0]; exact bit01_bd t0 k
          have hb1 : 0 ≤ q1 ∧ q1 ≤ 1 := by rw [← hq1]; exact bit01_bd t1 k
          obtain ⟨hb01, hb02⟩ := hb0
          obtain ⟨hb11, hb12⟩ := hb1
          have Hnx : Hid (leafEnts V t0 t1 first (k + 1) = leafEnts V t0 t1 first k ++ [⟨first + k, x, q0 + q1 * 2⟩]) := Lib.hid (by
            rw [leafEnts_succ, ← Hx.out, if_neg hx0]; unfold bit01; rw [hq0, hq1])
          have Hend := Lib.hid hend
          have hpre : Pre s' (first + k) (q0 + q1 * 2) := by
            have h1 := HO.out
            rw [leafEnts_split V t0 t1 first (k + 1) (by omega), Hnx.out, List.append_assoc] at h1
            exact (okf_append _ _ _ _ h1 Hfd.out).1
          have hcall := HY.out s' wr.drew (first + k) (q0 + q1 * 2) (by omega) (by omega) (by omega) hpre (HJ.out _ _ _ Hs'.out (Below.refl _ _).drew) ((HM1.out.trans HM.out).below HW.out Hbv.out (HW.out.size) hb HrW.out |>.drew) (by have := hend.size; show bv < wr.heap.size; omega)
          have Hcall := Lib.hid hcall
          have hfk : (first : Int) + (k : Int) = ((first + k : Nat) : Int) := by omega
          have Hfk := Lib.hid hfk
          clear hend hne hcall hfk hx0 hpre
          go_wp2_with fail
          refine wp_region_still_tail 22 (by kernel_rfl) (by kernel_rfl) ?_
          simp only [List.take_succ_cons, List.take_zero, List.drop_succ_cons, List.drop_zero]
          repeat still_step
          refine wpStill_nil ?_
          change wpList _ _ _ _ _ wr.drew
          go_wp2_with fail
          rw [Hfk.out]
          obtain ⟨ans, hans⟩ : ∃ ans, (step s' (first + k) (q0 + q1 * 2)).1 = ans := ⟨_, rfl⟩
          obtain ⟨s2, hs2⟩ : ∃ s2, (step s' (first + k) (q0 + q1 * 2)).2 = s2 := ⟨_, rfl⟩
          rw [hans, hs2] at Hcall
          have Hfd2 : Hid (feed step s (leafEnts V t0 t1 first (k + 1)) = (ans, s2)) := Lib.hid (by
            rw [Hnx.out, feed_append, Hfd.out]
            simp only [feed, if_true]
            rw [hans, hs2]
            cases ans <;> rfl)
          clear hans hs2
          (with_reducible refine Hcall.out.mono ?_)
          rintro e w5 ⟨rfl, hJ5, hM5⟩
          have HJ5 := Lib.hid hJ5
          have HM5 := Lib.hid (HM.out.trans ((Mo.of_below (Below.refl _ _).drew).trans hM5))
          clear hJ5 hM5
          cases ans with
          | true =>
            go_wp2_with fail
            go_roundw
            case rel => exact ⟨k + 1, s2, by omega, by go_num, Hfd2, HJ5, HM5⟩
            case measure => simp [intOf]; omega
          | false =>
            have Hall : Hid (feed step s (leafEnts V t0 t1 first 8) = (false, s2)) := Lib.hid (by
              have hsplit : leafEnts V t0 t1 first 8 = leafEnts V t0 t1 first (k + 1) ++ ((List.range' (k + 1) (8 - (k + 1))).flatMap fun d => if V.getD d 0 = 0 then [] else [⟨first + d, V.getD d 0, bit01 t0 d + bit01 t1 d * 2⟩]) := by
                unfold leafEnts
                rw [← List.flatMap_append, ← range_split (by omega)]
              rw [hsplit, feed_append, Hfd2.out]; rfl)
            go_wp2_with fail
            exact HP.out _ _ (by rw [Hall.out]; rfl) (by rw [Hall.out]; exact HJ5.out) (HM1.out.trans HM5.out)
      · obtain rfl : k = 8 := by omega
        have Hend := Lib.hid hend
        clear hrow2 Hcell hend hne
        rw [show ((8 : Nat) : Int) = 8 from rfl]
        go_wp2_with fail
        exact HP.out _ _ (by rw [Hfd.out]; rfl) (by rw [Hfd.out]; exact Hs'.out) Hend.out
end Go.Proofs.Ytmdmbnpgdkmklaa
