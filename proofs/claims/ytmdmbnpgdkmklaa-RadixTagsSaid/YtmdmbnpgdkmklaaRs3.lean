/- The reference's entries: an inner node's entries are its children's, one after the other. -/
import Derived.Test.YtmdmbnpgdkmklaaRs2
import Derived.Deep.AppendLies
namespace Go.Proofs.Ytmdmbnpgdkmklaa
open Go.RowKit
set_option linter.unusedVariables false
set_option linter.unusedSimpArgs false

theorem enCells_get (l : List En) (j : Nat) (hj : j < l.length) : (enCells l)[j * 3]? = some (.int .i64 (l[j].i : Int)) ∧ (enCells l)[j * 3 + 1]? = some (.int .i64 l[j].v) ∧ (enCells l)[j * 3 + 2]? = some (.int .i64 l[j].t) := by
  have h : enCells l = enCells (l.take j) ++ ([.int .i64 (l[j].i : Int), .int .i64 l[j].v, .int .i64 l[j].t] ++ enCells (l.drop (j + 1))) := by
    conv => lhs; rw [← List.take_append_drop j l, List.drop_eq_getElem_cons hj]
    rw [enCells_append]
    rfl
  have hl : (enCells (l.take j)).length = j * 3 := by rw [enCells_length, List.length_take, Nat.min_eq_left (by omega)]
  rw [h]
  refine ⟨?_, ?_, ?_⟩
  · rw [List.getElem?_append_right (by omega), hl, Nat.sub_self]; rfl
  · rw [List.getElem?_append_right (by omega), hl, show j * 3 + 1 - j * 3 = 1 by omega]; rfl
  · rw [List.getElem?_append_right (by omega), hl, show j * 3 + 2 - j * 3 = 2 by omega]; rfl

theorem own_cell {w : World} {base g cap : Nat} {l : List En} (h : w.ownsRow base 83 3 (.slice (some ⟨g, 0, none⟩) l.length cap) l.length (enCells l)) (j : Nat) (hj : j < l.length) :
    w.cell? ⟨g, j * 3, none⟩ = some (.int .i64 (l[j].i : Int)) ∧ w.cell? ⟨g, j * 3 + 1, none⟩ = some (.int .i64 l[j].v) ∧ w.cell? ⟨g, j * 3 + 2, none⟩ = some (.int .i64 l[j].t) := by
  obtain ⟨_, ⟨h1, _⟩ | ⟨g', cap', cur, he, hb, hg, hlc, hcm, hcs, hx⟩⟩ := h
  · cases h1
  · simp only [Value.slice.injEq, Option.some.injEq, Addr.mk.injEq] at he
    obtain ⟨⟨rfl, _, _⟩, _, rfl⟩ := he
    have hc : ∀ q, q < l.length * 3 → w.cell? ⟨g, q, none⟩ = (enCells l)[q]? := fun q hq => by
      rw [cell_of_row w g q cur 83 (0, 0) hg, ← hx, List.getElem?_take_of_lt hq]
      simp
    obtain ⟨e0, e1, e2⟩ := enCells_get l j hj
    exact ⟨(hc _ (by omega)).trans e0, (hc _ (by omega)).trans e1, (hc _ (by omega)).trans e2⟩

theorem inEnts_length (l : Nat) (n : Nd) (first : Nat) : ∀ k, (inEnts l n first k).length ≤ k * 8 ^ (l + 1)
  | 0 => by simp [inEnts]
  | k + 1 => by
    rw [inEnts_succ, List.length_append, Nat.add_mul, Nat.one_mul]
    have h1 := inEnts_length l n first k
    have h2 := ents_length l (n.kid k) (first + k * 8 ^ (l + 1))
    split
    · simp; omega
    · omega

set_option maxRecDepth 100000 in
set_option maxHeartbeats 8000000 in
theorem entries_inner (l : Nat) (hl9 : l ≤ 8)
    (ih : ∀ (W : World) (n : Nd) (c : Array Value), IsN W n c → n.ok (l + 1) = true → ∀ (first : Nat), first + 8 ^ (l + 1) ≤ 1073741824 → Calls Try.prog 101 #[.agg c, .int .i64 ((l : Int) + 1), .int .i64 first] W (Listed W (n.ents l first)))
    {W : World} {n : Nd} {c : Array Value} (h : IsN W n c) (hok : n.ok (l + 2) = true) (first : Nat) (hfirst : first + 8 ^ (l + 2) ≤ 1073741824) :
    Calls Try.prog 101 #[.agg c, .int .i64 ((l : Int) + 2), .int .i64 first] W (Listed W (n.ents (l + 1) first)) := by
  have h8 := ok_len hok
  have hrow := rowAt_new W c 26
  have hents : n.ents (l + 1) first = inEnts l n first 8 := rfl
  rw [hents]
  have hokk := fun k (hk : k < 8) => ok_kid hok hk
  cases h with
  | mk v t0 t1 ks a b o cap f hv hvb h0 h1 haa hl hcp hf hk =>
    replace h8 : ks.length = 8 := h8
    rw [h8] at hf
    obtain rfl : a = some ⟨b, o, none⟩ := haa (by intro h; simp [h] at h8)
    obtain ⟨N, hN⟩ : ∃ N, N = Nd.mk v t0 t1 ks := ⟨_, rfl⟩
    rw [← hN] at hokk ⊢
    have hkid : ∀ k, (hk : k < ks.length) → ks[k] = N.kid k := fun k hk => by rw [hN]; simp [Nd.kid, Nd.ks, hk]
    rw [h8] at hrow ⊢
    have hc10 : (W.alloc (.cells (ndCells v t0 t1 (.slice (some ⟨b, o, none⟩) 8 cap)) 26)).cell? ⟨W.heap.size, 10, none⟩ = some (.slice (some ⟨b, o, none⟩) 8 cap) := by
      obtain ⟨v0, v1, v2, v3, v4, v5, v6, v7, rfl⟩ := list8 hv
      exact hrow 10 (by simp [ndCells])
    obtain ⟨post, hpost⟩ : ∃ post, post = Listed W (inEnts l N first 8) := ⟨_, rfl⟩
    have HP : Hid (∀ e W', Listed W (inEnts l N first 8) e W' → post e W') := Lib.hid (by rw [hpost]; exact fun e W' a => a)
    rw [← hpost]
    have Ih := Lib.hid ih
    have Hkid := Lib.hid hkid
    have Hokk := Lib.hid hokk
    have Hf := Lib.hid hf
    have Hk := Lib.hid hk
    have H8 := Lib.hid h8
    have Hfirst := Lib.hid hfirst
    have Hl9 := Lib.hid hl9
    obtain ⟨W1, hW1⟩ : ∃ W1, W1 = W.alloc (.cells (ndCells v t0 t1 (.slice (some ⟨b, o, none⟩) 8 cap)) 26) := ⟨_, rfl⟩
    have HW1 := Lib.hid hW1
    have hB1 : Below W.heap.size W W1 := by rw [hW1]; exact (Below.refl _ _).alloc (Nat.le_refl _) _
    have hz1 : W1.heap.size = W.heap.size + 1 := by rw [hW1]; simp
    rw [← hW1] at hc10
    have Hc10 := Lib.hid hc10
    have HB1 := Lib.hid hB1
    have Hz1 := Lib.hid hz1
    obtain ⟨L, hL⟩ : ∃ L : Int, L = (l : Int) + 2 := ⟨_, rfl⟩
    rw [← hL]
    have hL2 : 2 ≤ L := by omega
    have hL10 : L ≤ 10 := by omega
    have hL1 : (L == 1) = false := by simp; omega
    have HL := Lib.hid hL
    obtain ⟨i0, hi0, hz0, hzs, hzb⟩ := info_parts info83
    clear hrow hokk hkid hN hvb hf hk haa hcp hl h0 h1 hpost hents hB1 hW1 hz1 ih hc10 h8 hv hok hfirst hl9 hL
    go_enter Try.func101, Try.ntmps101
    go_wp2_with fail
    rw [← HW1.out]
    go_loopw [7, 8] (fun ov i wr => ∃ k : Nat, k ≤ 8 ∧ i = .int .i64 k ∧ Hid (wr.ownsRow (W.heap.size + 1) 83 3 ov (inEnts l N first k).length (enCells (inEnts l N first k))) ∧ Hid (Below (W.heap.size + 1) W1 wr)) (fun _ i _ => 8 - (intOf i).toNat)
    case atStart => exact ⟨0, by omega, rfl, Lib.hid (World.ownsRow_nil _ _ _ _), Lib.hid (Below.refl _ _)⟩
    case round =>
      obtain ⟨k, hk8, rfl, Hown, Hbe⟩ := hrel
      rename World => wo
      have hkeep1 : Keeps W1 wo := Keeps.of_below (by rw [Hz1.out]; exact Hbe.out)
      have hkeep : Keeps W wo := (Keeps.of_below HB1.out).trans hkeep1
      have hc10 := hkeep1 _ _ Hc10.out
      by_cases hlt : k < 8
      · obtain ⟨kd, hkd⟩ : ∃ kd, kd = N.kid k := ⟨_, rfl⟩
        have hk0 : k < ks.length := by rw [H8.out]; exact hlt
        have hkn : IsN wo kd (f k) := by
          have := (Hk.out k hk0).keeps hkeep
          rwa [Hkid.out k hk0, ← hkd] at this
        have hkr : RowAt wo b (o + k * 11) (f k) := (Hf.out k hlt).keeps hkeep
        have hkok : kd.absent = true ∨ kd.ok (l + 1) = true := by rw [hkd]; exact Hokk.out k hlt
        have hpow : 8 ^ (l + 2) = 8 * 8 ^ (l + 1) := by rw [Nat.pow_succ]; omega
        obtain ⟨P, hP⟩ : ∃ P, P = 8 ^ (l + 1) := ⟨_, rfl⟩
        have hP30 : first + 8 * P ≤ 1073741824 := by have := Hfirst.out; rw [hpow, ← hP] at this; exact this
        obtain ⟨K, hK⟩ : ∃ K, K = k * P := ⟨_, rfl⟩
        have hKP : K + P ≤ 8 * P := by rw [hK, ← Nat.succ_mul]; exact Nat.mul_le_mul_right _ hlt
        have hmul : (k : Int) * (P : Int) = (K : Int) := by rw [hK]; simp
        have hK30 : (K : Int) ≤ 1073741824 := by omega
        have hK0 : 0 ≤ (K : Int) := by omega
        have hfK : (first : Int) + (K : Int) ≤ 1073741824 := by omega
        have hsucc : inEnts l N first (k + 1) = inEnts l N first k ++ if kd.absent = true then [] else kd.ents l (first + K) := by
          rw [inEnts_succ, ← hkd, ← hP, ← hK]
        have hspan := fun W => span_spec W (l + 1) (by have := Hl9.out; omega)
        rw [← hP, show ((l + 1 : Nat) : Int) = L - 1 by have := HL.out; omega] at hspan
        have hlen1 := inEnts_length l N first k
        rw [← hP] at hlen1
        have hlen2 := ents_length l kd (first + K)
        rw [← hP] at hlen2
        have hlen : (inEnts l N first k).length + (kd.ents l (first + K)).length ≤ 1073741824 := by
          rw [← hK] at hlen1; omega
        have Hw1 := Lib.hid (show IntKind.i64.wrap (L - 1) = L - 1 by rw [IntKind.wrap_i64]; omega)
        have Hw2 := Lib.hid (show IntKind.i64.wrap ((k : Int) * (P : Int)) = (K : Int) by rw [hmul, IntKind.wrap_i64]; omega)
        have Hw3 := Lib.hid (show IntKind.i64.wrap ((first : Int) + (K : Int)) = (first : Int) + (K : Int) by rw [IntKind.wrap_i64]; omega)
        have Hw4 := Lib.hid (show IntKind.i64.wrap (K : Int) = (K : Int) by rw [IntKind.wrap_i64]; omega)
        have Hlen := Lib.hid hlen
        have Hspan := Lib.hid hspan
        have Hsucc := Lib.hid hsucc
        have Hkn := Lib.hid hkn
        have Hkr := Lib.hid hkr
        have Hkok := Lib.hid hkok
        have hPf : first + K + 8 ^ (l + 1) ≤ 1073741824 := by rw [← hP]; omega
        have HPf := Lib.hid hPf
        clear hkd hkn hkr hkok hpow hP hP30 hK hKP hsucc hPf hkeep hkeep1 hspan hlen1 hlen2 hlen
        go_wp2_with (first | (refine wpList_load_nd (.tmp 54) (by rfl) (by rfl) b (o + k * 11) (by rfl) (f k) Hkn.out.size (by with_reducible exact Hkr.out) ?_))
        (with_reducible refine (Absent_spec Hkn.out).mono ?_)
        rintro e w5 ⟨rfl, hB5⟩
        have hsz5 : W.heap.size + 1 ≤ wo.heap.size := by have := Hbe.out.size; have := Hz1.out; omega
        have Hown5 := Lib.hid (ownsRow_below Hown.out hB5)
        have Hbe5 := Lib.hid (Hbe.out.trans (hB5.mono hsz5))
        have Hkn5 := Lib.hid (Hkn.out.keeps (Keeps.of_below hB5))
        have Hkr5 := Lib.hid (Hkr.out.keeps (Keeps.of_below hB5))
        replace hc10 := (Keeps.of_below hB5) _ _ hc10
        have hsz6 : W.heap.size + 1 ≤ w5.heap.size := Nat.le_trans hsz5 hB5.size
        clear hB5 hsz5
        cases hab : kd.absent with
        | true =>
          have Hnext : Hid (w5.ownsRow (W.heap.size + 1) 83 3 u7 (inEnts l N first (k + 1)).length (enCells (inEnts l N first (k + 1)))) := Lib.hid (by rw [Hsucc.out, if_pos hab, List.append_nil]; exact Hown5.out)
          clear hab
          go_wp2_with fail
          go_roundw
          case rel => exact ⟨k + 1, by omega, by go_num, Hnext, Hbe5⟩
          case measure => simp [intOf]; omega
        | false =>
          have hkok2 := Hkok.out.resolve_left (by rw [hab]; simp)
          have hsucc2 : inEnts l N first (k + 1) = inEnts l N first k ++ kd.ents l (first + K) := by rw [Hsucc.out, if_neg (by rw [hab]; simp)]
          have Hsucc2 := Lib.hid hsucc2
          obtain ⟨y0, y1, y2, y3, y4, y5, y6, y7, yp, yl, yc, hy⟩ := Hkn5.out.lit
          have hkr5 := Hkr5.out
          have hkn5 := Hkn5.out.keeps (w' := w5.drew) (Keeps.of_below (Below.refl _ _).drew)
          rw [hy] at hkr5 hkn5
          obtain ⟨k0, k1, k2, k3, k4, k5, k6, k7, k8, k9, k10⟩ := row11 hkr5
          have hcall := Ih.out w5.drew kd _ hkn5 hkok2 (first + K) HPf.out
          rw [show (l : Int) + 1 = L - 1 by have := HL.out; omega, show ((first + K : Nat) : Int) = (first : Int) + (K : Int) by omega] at hcall
          have Hcall := Lib.hid hcall
          clear hab hkok2 hcall hsucc2 hkr5 hkn5 hy
          go_wp2_with fail
          refine wp_region_still_tail 14 (by kernel_rfl) (by kernel_rfl) ?_
          simp only [List.take_succ_cons, List.take_zero, List.drop_succ_cons, List.drop_zero]
          repeat still_step
          refine wpStill_step (fun KK hKK => ?_)
          go_simp
          rw [Hw1.out]
          refine ⟨_, (Hspan.out _).mono fun e w' ⟨he, hw⟩ => ⟨he, hw.symm⟩, hKK _ ?_⟩
          clear hKK KK
          repeat still_step
          refine wpStill_nil ?_
          try rw [Hw2.out]
          try rw [Hw4.out]
          try rw [Hw3.out]
          change wpList _ _ _ _ _ w5.drew
          go_wp2_with fail
          (with_reducible refine Hcall.out.mono ?_)
          rintro e w6 ⟨v10, rfl, hown10, hB6⟩
          have hsz7 : W.heap.size + 1 ≤ w6.heap.size := Nat.le_trans hsz6 hB6.size
          have hB6' : Below w5.heap.size w5 w6 := (Below.refl _ _).drew.trans hB6
          have Hown6 := Lib.hid (ownsRow_below Hown5.out hB6')
          have Hbe6 := Lib.hid (Hbe5.out.trans (hB6'.mono hsz6))
          have hne10 : ∀ g, v10.ownBlock = some g → u7.ownBlock ≠ some g := fun g hg hu => by
            have h1 := (hown10.lt g hg).1
            have h2 := (Hown5.out.lt g hu).2
            have h3 : w5.heap.size ≤ g := h1
            omega
          obtain ⟨kes, hkes⟩ : ∃ kes, kes = kd.ents l (first + K) := ⟨_, rfl⟩
          obtain ⟨E0, hE0⟩ : ∃ E0, E0 = inEnts l N first k := ⟨_, rfl⟩
          have hlen := Hlen.out
          have hsucc3 := Hsucc2.out
          rw [← hkes, ← hE0] at hlen hsucc3
          rw [← hkes] at hown10
          have hown6 := Hown6.out
          rw [← hE0] at hown6
          obtain ⟨M, hM⟩ : ∃ M, M = kes.length := ⟨_, rfl⟩
          obtain ⟨p, cp, rfl⟩ : ∃ p cp, v10 = .slice p M cp := by
            rcases hown10.2 with ⟨h1, h0⟩ | ⟨g, cap, cur, h1, _⟩
            · exact ⟨none, 0, by rw [hM, h0]; exact h1⟩
            · exact ⟨_, _, by rw [hM]; exact h1⟩
          rw [← hM] at hown10 hlen
          have Hv10 := Lib.hid (show w6.ownsRow w5.heap.size 83 3 (.slice p M cp) M (enCells kes) from hown10)
          have Hn10 := Lib.hid hne10
          have HM := Lib.hid hM
          have Hs3 := Lib.hid hsucc3
          have hM30 : M ≤ 1073741824 := by omega
          have Ho6 := Lib.hid (show w6.ownsRow (W.heap.size + 1) 83 3 u7 (E0.length + 0) (enCells (E0 ++ kes.take 0)) by rw [List.take_zero, List.append_nil]; exact hown6)
          clear hown10 hB6 hB6' hne10 hkes hE0 hsucc3 hown6 hM k0 k1 k2 k3 k4 k5 k6 k7 k8 k9 k10 hc10
          go_wp2_with fail
          go_loopw [7, 11] (fun ov jv wx => ∃ j : Nat, j ≤ M ∧ jv = .int .i64 j ∧ Hid (wx.ownsRow (W.heap.size + 1) 83 3 ov (E0.length + j) (enCells (E0 ++ kes.take j))) ∧ Hid (wx.ownsRow w5.heap.size 83 3 (.slice p M cp) M (enCells kes)) ∧ Hid (∀ g, (Value.slice p M cp).ownBlock = some g → ov.ownBlock ≠ some g) ∧ Hid (Below (W.heap.size + 1) W1 wx)) (fun _ jv _ => M - (intOf jv).toNat)
          case atStart => exact ⟨0, by omega, rfl, Ho6, Hv10, Hn10, Hbe6⟩
          case round =>
            rename World => wx
            obtain ⟨j, hj, rfl, Ho, Hv, Hn, Hb⟩ := hrel
            by_cases hjl : j < M
            · obtain ⟨g, rfl⟩ : ∃ g, p = some ⟨g, 0, none⟩ := by
                rcases Hv.out.2 with ⟨_, h0⟩ | ⟨g, cap, cur, h1, _⟩
                · omega
                · simp only [Value.slice.injEq] at h1
                  exact ⟨g, h1.1⟩
              have hjk : j < kes.length := by rw [← HM.out]; exact hjl
              have hvv := Hv.out
              rw [HM.out] at hvv
              obtain ⟨c0, c1, c2⟩ := own_cell hvv j hjk
              obtain ⟨ej, hej⟩ : ∃ ej, ej = kes[j] := ⟨_, rfl⟩
              rw [← hej] at c0 c1 c2
              obtain ⟨ei, ev, et⟩ := ej
              simp only at c0 c1 c2
              have hsx : W.heap.size + 1 ≤ wx.heap.size := by have := Hb.out.size; have := Hz1.out; omega
              have HoA := Lib.hid (Ho.out.alloc (.cells #[.int .i64 (ei : Int), .int .i64 ev, .int .i64 et] 83))
              have Hz2 := Lib.hid (show W.heap.size + 1 ≤ (wx.alloc (.cells #[.int .i64 (ei : Int), .int .i64 ev, .int .i64 et] 83)).heap.size by simp; omega)
              have Hm := Lib.hid (show E0.length + j + 1 ≤ maxLen by unfold maxLen; omega)
              have Hm2 := Lib.hid (show (E0.length + j + 1) * 24 ≤ 140737488355328 by omega)
              have Hsz := Lib.hid (sizeA' wx (.cells #[.int .i64 (ei : Int), .int .i64 ev, .int .i64 et] 83))
              have hjM : (j : Int) < (M : Int) := by omega
              have Hej := Lib.hid hej
              clear hvv hej
              go_wp2_with (first
                | (refine wpList_append_lies _ (by rfl) (.tmp 79) (.tmp 84) 79 (by rfl) (W.heap.size + 1) 83 i0 _ 3 24 Try.underlying79 hi0 hz0 hzs hzb (by rfl) (by omega) u7 _ _ (by rfl) (by with_reducible exact HoA.out)
                    ⟨wx.heap.size, 0, none⟩ 1 1 [.int .i64 (ei : Int), .int .i64 ev, .int .i64 et] (by rfl) (by rfl) (World.news_of_block (heap_alloc_new wx _)) (by simp [Value.oneCell']) (by omega) (by with_reducible exact Hm.out) (by with_reducible exact Hm2.out) (by with_reducible exact Hz2.out) (wx.heap.size + 1) (by with_reducible exact Hsz.out) ?_
                   intro g' cap' w' hown' hgrow hat hlt'))
              have hgw := (Hv.out.lt g rfl).2
              have hgne : g' ≠ g := fun e => by
                rcases hat with q | q
                · exact Hn.out g rfl (by rw [q, e])
                · omega
              have hnext : w'.ownsRow (W.heap.size + 1) 83 3 (.slice (some ⟨g', 0, none⟩) (E0.length + j + 1) cap') (E0.length + (j + 1)) (enCells (E0 ++ kes.take (j + 1))) := by
                have e : enCells (E0 ++ kes.take (j + 1)) = enCells (E0 ++ kes.take j) ++ [.int .i64 (ei : Int), .int .i64 ev, .int .i64 et] := by
                  rw [List.take_succ_eq_append_getElem hjk, ← Hej.out, ← List.append_assoc, enCells_append]
                  rfl
                rw [e]
                exact hown'
              have hv2 : w'.ownsRow w5.heap.size 83 3 (.slice (some ⟨g, 0, none⟩) M cp) M (enCells kes) := (Hv.out.alloc _).kept hgrow (.inr (fun q => Hn.out g rfl q.symm))
              have hb2 : Below (W.heap.size + 1) W1 w' := (Hb.out.alloc hsx _).grown hgrow (by simp; omega) (fun q hq => (Ho.out.lt q hq).1)
              have Hnext := Lib.hid hnext
              have Hv2 := Lib.hid hv2
              have Hb2 := Lib.hid hb2
              have Hn2 : Hid (∀ q, (Value.slice (some ⟨g, 0, none⟩) M cp).ownBlock = some q → (Value.slice (some ⟨g', 0, none⟩) (E0.length + j + 1) cap').ownBlock ≠ some q) := Lib.hid (fun q hq hq2 => by
                simp only [Value.ownBlock, Option.some.injEq] at hq hq2
                exact hgne (hq2.trans hq.symm))
              clear hnext hv2 hb2 hown' hgrow hat hlt' hgw hgne c0 c1 c2
              go_wp2_with fail
              go_roundw
              case rel => exact ⟨j + 1, by omega, by go_num, Hnext, Hv2, Hn2, Hb2⟩
              case measure => simp [intOf]; omega
            · obtain rfl : j = M := by omega
              have Hdone : Hid (wx.ownsRow (W.heap.size + 1) 83 3 u7 (inEnts l N first (k + 1)).length (enCells (inEnts l N first (k + 1)))) := Lib.hid (by
                have := Ho.out
                rw [Hs3.out, List.length_append, ← HM.out]
                rw [HM.out, List.take_length, ← HM.out] at this
                exact this)
              go_wp2_with fail
              go_roundw
              case rel => exact ⟨k + 1, by omega, by go_num, Hdone, Hb⟩
              case measure => simp [intOf]; omega
      · obtain rfl : k = 8 := by omega
        have Hfin := Lib.hid (HP.out (.returned u7) wo ⟨u7, rfl, ownsRow_mono Hown.out (Nat.le_succ _), HB1.out.trans (Hbe.out.mono (Nat.le_succ _))⟩)
        rw [show ((8 : Nat) : Int) = 8 from rfl]
        clear hc10 hkeep hkeep1
        go_wp2_with fail
        exact Hfin.out
end Go.Proofs.Ytmdmbnpgdkmklaa
