/- radix.walk at an inner node, and at every level. -/
import Derived.Test.YtmdmbnpgdkmklaaRi2
namespace Go.Proofs.Ytmdmbnpgdkmklaa
open Go.RowKit
set_option linter.unusedVariables false
set_option linter.unusedSimpArgs false

def inEnts (l : Nat) (n : Nd) (first k : Nat) : List En :=
  (List.range k).flatMap fun d => if (n.kid d).absent = true then [] else (n.kid d).ents l (first + d * 8 ^ (l + 1))

theorem inEnts_succ (l : Nat) (n : Nd) (first k : Nat) : inEnts l n first (k + 1) = inEnts l n first k ++ if (n.kid k).absent = true then [] else (n.kid k).ents l (first + k * 8 ^ (l + 1)) := by
  unfold inEnts
  rw [List.range_succ, List.flatMap_append]
  simp

theorem inEnts_split (l : Nat) (n : Nd) (first k : Nat) (hk : k ≤ 8) : inEnts l n first 8 = inEnts l n first k ++ ((List.range' k (8 - k)).flatMap fun d => if (n.kid d).absent = true then [] else (n.kid d).ents l (first + d * 8 ^ (l + 1))) := by
  unfold inEnts
  rw [← List.flatMap_append, ← range_split hk]

theorem feed_stop {σ : Type} (step : σ → Nat → Int → Bool × σ) (s s2 : σ) (l : Nat) (n : Nd) (first k : Nat) (hk : k < 8) (h : feed step s (inEnts l n first (k + 1)) = (false, s2)) :
    feed step s (inEnts l n first 8) = (false, s2) := by
  have hsplit : inEnts l n first 8 = inEnts l n first (k + 1) ++ ((List.range' (k + 1) (8 - (k + 1))).flatMap fun d => if (n.kid d).absent = true then [] else (n.kid d).ents l (first + d * 8 ^ (l + 1))) := by
    unfold inEnts
    rw [← List.flatMap_append, ← range_split (by omega)]
  rw [hsplit, feed_append, h]; rfl

set_option maxRecDepth 100000 in
set_option maxHeartbeats 8000000 in
theorem walk_inner {σ : Type} {w0 : World} {bv : Nat} {p1 p2 : Value} {J : σ → World → Prop} {Pre : σ → Nat → Int → Prop} {step : σ → Nat → Int → Bool × σ} (hJ : Stays J) (hIn : Inb w0 bv J) (hbv : w0.heap.size ≤ bv) (l : Nat) (hl9 : l ≤ 8)
    (ih : ∀ (n : Nd) (c : Array Value), IsN w0 n c → n.ok (l + 1) = true → ∀ (first : Nat), first + 8 ^ (l + 1) ≤ 1073741824 → ∀ (s : σ) (W : World), Okf Pre step s (n.ents l first) → J s W → Below w0.heap.size w0 W → bv < W.heap.size →
      Calls Try.prog 105 #[.agg c, .int .i64 ((l : Int) + 1), .int .i64 first, .func (.func 106) #[] #[p1, p2]] W fun e W' =>
        e = .returned (.bool (feed step s (n.ents l first)).1) ∧ J (feed step s (n.ents l first)).2 W' ∧ Mo bv W W')
    {n : Nd} {c : Array Value} (h : IsN w0 n c) (hok : n.ok (l + 2) = true) (first : Nat) (hfirst : first + 8 ^ (l + 2) ≤ 1073741824) (s : σ) (W : World) (hO : Okf Pre step s (n.ents (l + 1) first)) (hs : J s W) (hW : Below w0.heap.size w0 W) (hb : bv < W.heap.size) :
    Calls Try.prog 105 #[.agg c, .int .i64 ((l : Int) + 2), .int .i64 first, .func (.func 106) #[] #[p1, p2]] W fun e W' =>
      e = .returned (.bool (feed step s (n.ents (l + 1) first)).1) ∧ J (feed step s (n.ents (l + 1) first)).2 W' ∧ Mo bv W W' := by
  have h8 := ok_len hok
  have hrow := rowAt_new W c 26
  have hents : n.ents (l + 1) first = inEnts l n first 8 := rfl
  rw [hents] at hO ⊢
  have hokk := fun k (hk : k < 8) => ok_kid hok hk
  cases h with
  | mk v t0 t1 ks a b o cap f hv hvb h0 h1 haa hl hcp hf hk =>
    replace h8 : ks.length = 8 := h8
    rw [h8] at hf
    obtain rfl : a = some ⟨b, o, none⟩ := haa (by intro h; simp [h] at h8)
    obtain ⟨N, hN⟩ : ∃ N, N = Nd.mk v t0 t1 ks := ⟨_, rfl⟩
    rw [← hN] at hokk hO ⊢
    have HO := Lib.hid hO
    clear hO
    have hkid : ∀ k, (hk : k < ks.length) → ks[k] = N.kid k := fun k hk => by rw [hN]; simp [Nd.kid, Nd.ks, hk]
    rw [h8] at hrow ⊢
    have hc10 : (W.alloc (.cells (ndCells v t0 t1 (.slice (some ⟨b, o, none⟩) 8 cap)) 26)).cell? ⟨W.heap.size, 10, none⟩ = some (.slice (some ⟨b, o, none⟩) 8 cap) := by
      obtain ⟨v0, v1, v2, v3, v4, v5, v6, v7, rfl⟩ := list8 hv
      exact hrow 10 (by simp [ndCells])
    obtain ⟨post, hpost⟩ : ∃ post : Ending → World → Prop, post = fun e W' => e = .returned (.bool (feed step s (inEnts l N first 8)).1) ∧ J (feed step s (inEnts l N first 8)).2 W' ∧ Mo bv W W' := ⟨_, rfl⟩
    have HP : Hid (∀ e W', e = .returned (.bool (feed step s (inEnts l N first 8)).1) → J (feed step s (inEnts l N first 8)).2 W' → Mo bv W W' → post e W') := Lib.hid (by rw [hpost]; exact fun e W' a b c => ⟨a, b, c⟩)
    rw [← hpost]
    have HJ := Lib.hid hJ
    have Hbv := Lib.hid hbv
    have HW := Lib.hid hW
    have Ih := Lib.hid ih
    have Hkid := Lib.hid hkid
    have Hokk := Lib.hid hokk
    have Hf := Lib.hid hf
    have Hk := Lib.hid hk
    have H8 := Lib.hid h8
    have Hfirst := Lib.hid hfirst
    have Hl9 := Lib.hid hl9
    obtain ⟨W1, hW1⟩ : ∃ W1, W1 = W.alloc (.cells (ndCells v t0 t1 (.slice (some ⟨b, o, none⟩) 8 cap)) 26) := ⟨_, rfl⟩
    have HW1 := Lib.hid hW1
    have hB1 : Below W.heap.size W W1 := by rw [hW1]; exact (Below.refl _ _).alloc (Nat.le_refl _) _
    have hz1 : W1.heap.size = W.heap.size + 1 := by rw [hW1]; simp
    rw [← hW1] at hc10
    have Hc10 := Lib.hid hc10
    have Hs1 := Lib.hid (hJ s W W1 hs hB1)
    have HM1 := Lib.hid (Mo.of_below (bv := bv) hB1)
    have Hz1 := Lib.hid hz1
    have Hin := Lib.hid hIn
    have Hnr : Hid (¬ rowOf W1 bv W.heap.size) := Lib.hid (fun q => by have := (hIn s W hs _ ((rowOf_below hB1 hb).1 q)).2; omega)
    have HrW : Hid (∀ k, rowOf W bv k → w0.heap.size ≤ k) := Lib.hid (fun k q => (hIn s W hs k q).1)
    have hb1 : bv < W1.heap.size := by omega
    clear hIn
    obtain ⟨L, hL⟩ : ∃ L : Int, L = (l : Int) + 2 := ⟨_, rfl⟩
    rw [← hL]
    have hL2 : 2 ≤ L := by omega
    have hL10 : L ≤ 10 := by omega
    have hL1 : decide (1 < L) = true := by simp; omega
    have HL := Lib.hid hL
    clear hrow hokk hkid hN hvb hf hk haa hcp hl h0 h1 hpost hents hJ hbv hs hW hB1 hW1 hz1 ih hc10 h8 hv hok hfirst hl9 hL
    go_enter Try.func105, Try.ntmps105
    go_wp2_with fail
    rw [← HW1.out]
    go_loopw [11] (fun i wr => ∃ (k : Nat) (s' : σ), k ≤ 8 ∧ i = .int .i64 k ∧ Hid (feed step s (inEnts l N first k) = (true, s')) ∧ Hid (J s' wr) ∧ Hid (Mo bv W1 wr)) (fun i _ => 8 - (intOf i).toNat)
    case atStart => exact ⟨0, s, by omega, rfl, Lib.hid rfl, Hs1, Lib.hid (Mo.refl _ _)⟩
    case round =>
      obtain ⟨k, s', hk8, rfl, Hfd, Hs', HM⟩ := hrel
      have hne : W.heap.size ≠ bv := by omega
      have hc10 := HM.out.cell Hc10.out hne hb1 Hnr.out
      have hend := HM1.out.trans HM.out
      have Hend := Lib.hid hend
      by_cases hlt : k < 8
      · have hBw : Below w0.heap.size w0 wr := hend.below HW.out Hbv.out HW.out.size hb HrW.out
        have hkw := Keeps.of_below hBw
        obtain ⟨kd, hkd⟩ : ∃ kd, kd = N.kid k := ⟨_, rfl⟩
        have hk0 : k < ks.length := by rw [H8.out]; exact hlt
        have hkn : IsN w0 kd (f k) := by
          have := Hk.out k hk0
          rwa [Hkid.out k hk0, ← hkd] at this
        have hkr : RowAt wr b (o + k * 11) (f k) := (Hf.out k hlt).keeps hkw
        have hkok : kd.absent = true ∨ kd.ok (l + 1) = true := by rw [hkd]; exact Hokk.out k hlt
        have hpow : 8 ^ (l + 2) = 8 * 8 ^ (l + 1) := by rw [Nat.pow_succ]; omega
        obtain ⟨P, hP⟩ : ∃ P, P = 8 ^ (l + 1) := ⟨_, rfl⟩
        have hP30 : first + 8 * P ≤ 1073741824 := by have := Hfirst.out; rw [hpow, ← hP] at this; exact this
        obtain ⟨K, hK⟩ : ∃ K, K = k * P := ⟨_, rfl⟩
        have hKP : K + P ≤ 8 * P := by rw [hK, ← Nat.succ_mul]; exact Nat.mul_le_mul_right _ hlt
        have hshl : (k : Int) * 2 ^ (3 * (L - 1)).toNat = (K : Int) := by
          rw [hK, hP, show (3 * (L - 1)).toNat = 3 * (l + 1) by have := HL.out; omega, show (8 : Nat) = 2 ^ 3 by rfl, ← Nat.pow_mul]
          simp
        have hK30 : (K : Int) ≤ 1073741824 := by omega
        have hfK : (first : Int) + (K : Int) ≤ 1073741824 := by omega
        have hsucc : inEnts l N first (k + 1) = inEnts l N first k ++ if kd.absent = true then [] else kd.ents l (first + K) := by
          rw [inEnts_succ, ← hkd, ← hP, ← hK]
        have Hsucc := Lib.hid hsucc
        have Hkn := Lib.hid hkn
        have Hkr := Lib.hid hkr
        have Hkok := Lib.hid hkok
        have HBw := Lib.hid hBw
        have hPf : first + K + 8 ^ (l + 1) ≤ 1073741824 := by rw [← hP]; omega
        have HPf := Lib.hid hPf
        have hbw : bv < wr.heap.size := by have := hend.size; omega
        have Hbw := Lib.hid hbw
        clear hkd hkn hkr hkok hpow hP hP30 hK hKP hsucc hPf hBw hkw hend
        go_wp2_with (first | (refine wpList_load_nd (.tmp 26) rfl rfl b (o + k * 11) rfl (f k) Hkn.out.size Hkr.out ?_))
        (with_reducible refine (absent_spec (Hkn.out.keeps (Keeps.of_below HBw.out))).mono ?_)
        rintro e w5 ⟨rfl, hB5⟩
        have hM5 : Mo bv W1 w5 := HM.out.trans (Mo.of_below hB5)
        have HM5 := Lib.hid hM5
        have Hs5 := Lib.hid (HJ.out _ _ _ Hs'.out hB5)
        have HB5 := Lib.hid (HBw.out.trans (hB5.mono HBw.out.size))
        have hbw5 : bv < w5.heap.size := Nat.lt_of_lt_of_le Hbw.out hB5.size
        have Hbw5 := Lib.hid hbw5
        replace hc10 := hM5.cell Hc10.out hne hb1 Hnr.out
        have Hkr5 := Lib.hid (Hkr.out.keeps (Keeps.of_below hB5))
        clear hB5 hM5 hbw5
        cases hab : kd.absent with
        | true =>
          have Hnext : Hid (feed step s (inEnts l N first (k + 1)) = (true, s')) := Lib.hid (by rw [Hsucc.out, if_pos hab, List.append_nil]; exact Hfd.out)
          clear hab
          go_wp2_with fail
          go_roundw
          case rel => exact ⟨k + 1, s', by omega, by go_num, Hnext, Hs5, HM5⟩
          case measure => simp [intOf]; omega
        | false =>
          have hkok2 := Hkok.out.resolve_left (by rw [hab]; simp)
          have hpre : Okf Pre step s' (kd.ents l (first + K)) := by
            have h1 := HO.out
            rw [inEnts_split l N first (k + 1) (by omega), Hsucc.out, if_neg (by rw [hab]; simp), List.append_assoc] at h1
            exact okf_left _ _ _ (okf_append _ _ _ _ h1 Hfd.out)
          have hcall := Ih.out kd (f k) Hkn.out hkok2 (first + K) HPf.out s' w5 hpre Hs5.out HB5.out Hbw5.out
          have Hcall := Lib.hid hcall
          have hsucc2 : inEnts l N first (k + 1) = inEnts l N first k ++ kd.ents l (first + K) := by rw [Hsucc.out, if_neg (by rw [hab]; simp)]
          have Hsucc2 := Lib.hid hsucc2
          clear hab hkok2 hcall hsucc2 hpre
          obtain ⟨ans, hans⟩ : ∃ ans, (feed step s' (kd.ents l (first + K))).1 = ans := ⟨_, rfl⟩
          obtain ⟨s2, hs2⟩ : ∃ s2, (feed step s' (kd.ents l (first + K))).2 = s2 := ⟨_, rfl⟩
          rw [hans, hs2] at Hcall
          have Hfd2 : Hid (feed step s (inEnts l N first (k + 1)) = (ans, s2)) := Lib.hid (by
            rw [Hsucc2.out, feed_append, Hfd.out]
            simp only [if_true]
            exact Prod.ext hans hs2)
          clear hans hs2
          go_wp2_with (first | (refine wpList_load_nd (.tmp 34) rfl rfl b (o + k * 11) rfl (f k) Hkn.out.size Hkr5.out ?_))
          rw [show L - 1 = (l : Int) + 1 by have := HL.out; omega, show (first : Int) + (K : Int) = ((first + K : Nat) : Int) by omega]
          (with_reducible refine Hcall.out.mono ?_)
          rintro e w6 ⟨rfl, hJ6, hM6⟩
          have HJ6 := Lib.hid hJ6
          have HM6 := Lib.hid (HM5.out.trans hM6)
          clear hJ6 hM6
          cases ans with
          | true =>
            go_wp2_with fail
            go_roundw
            case rel => exact ⟨k + 1, s2, by omega, by go_num, Hfd2, HJ6, HM6⟩
            case measure => simp [intOf]; omega
          | false =>
            have Hall := Lib.hid (feed_stop step s s2 l N first k hlt Hfd2.out)
            go_wp2_with fail
            exact HP.out _ _ (by rw [Hall.out]; rfl) (by rw [Hall.out]; exact HJ6.out) (HM1.out.trans HM6.out)
      · obtain rfl : k = 8 := by omega
        clear hc10 hend hne
        rw [show ((8 : Nat) : Int) = 8 from rfl]
        go_wp2_with fail
        exact HP.out _ _ (by rw [Hfd.out]; rfl) (by rw [Hfd.out]; exact Hs'.out) Hend.out

/-- walk hands the entries below a valid node to the yield function. -/
theorem walk_spec {σ : Type} {w0 : World} {bv : Nat} {p1 p2 : Value} {J : σ → World → Prop} {Pre : σ → Nat → Int → Prop} {step : σ → Nat → Int → Bool × σ} (hY : Yields w0 bv p1 p2 J Pre step) (hJ : Stays J) (hIn : Inb w0 bv J) (hbv : w0.heap.size ≤ bv) (l : Nat) : l ≤ 9 →
    ∀ (n : Nd) (c : Array Value), IsN w0 n c → n.ok (l + 1) = true → ∀ (first : Nat), first + 8 ^ (l + 1) ≤ 1073741824 → ∀ (s : σ) (W : World), Okf Pre step s (n.ents l first) → J s W → Below w0.heap.size w0 W → bv < W.heap.size →
      Calls Try.prog 105 #[.agg c, .int .i64 ((l : Int) + 1), .int .i64 first, .func (.func 106) #[] #[p1, p2]] W fun e W' =>
        e = .returned (.bool (feed step s (n.ents l first)).1) ∧ J (feed step s (n.ents l first)).2 W' ∧ Mo bv W W' := by
  induction l with
  | zero => intro _ n c h _ first hf s W hO hs hW hb; exact walk_leaf hY hJ hIn hbv h first (by simpa using hf) s W hO hs hW hb
  | succ l ih =>
    intro hl n c h hok first hf s W hO hs hW hb
    rw [show ((l + 1 : Nat) : Int) + 1 = (l : Int) + 2 by omega]
    exact walk_inner hJ hIn hbv l (by omega) (ih (by omega)) h hok first hf s W hO hs hW hb
end Go.Proofs.Ytmdmbnpgdkmklaa
