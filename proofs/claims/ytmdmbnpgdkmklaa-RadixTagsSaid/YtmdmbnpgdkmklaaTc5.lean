/- The reference's Set: it answers as the tree's own. -/
import Derived.Test.YtmdmbnpgdkmklaaTc4
import Derived.Test.YtmdmbnpgdkmklaaTa2
import Derived.Test.YtmdmbnpgdkmklaaRm2
import Derived.Test.YtmdmbnpgdkmklaaRm9
namespace Go.Proofs.Ytmdmbnpgdkmklaa
open Go.RowKit
set_option linter.unusedVariables false
set_option linter.unusedSimpArgs false

theorem ents_val {w : World} : ∀ (l : Nat) (n : Nd) (c : Array Value) (first : Nat), IsN w n c → ∀ e ∈ n.ents l first, inI64 e.v
  | 0, n, c, first, h, e, he => by
    cases h with
    | mk v t0 t1 ks a b o cap f hv hvb h0 h1 ha hl hcp hf hk =>
      simp only [Nd.ents, List.mem_flatMap, List.mem_range] at he
      obtain ⟨d, hd, he⟩ := he
      split at he
      · simp at he
      · rw [List.mem_singleton] at he
        subst he
        show inI64 (v.getD d 0)
        rw [List.getD_eq_getElem?_getD, List.getElem?_eq_getElem (by omega)]
        exact hvb _ (List.getElem_mem _)
  | l + 1, n, c, first, h, e, he => by
    cases h with
    | mk v t0 t1 ks a b o cap f hv hvb h0 h1 ha hl hcp hf hk =>
      simp only [Nd.ents, List.mem_flatMap, List.mem_range] at he
      obtain ⟨d, hd, he⟩ := he
      split at he
      · simp at he
      · rename_i hna
        by_cases hdl : d < ks.length
        · have hkd : (Nd.mk v t0 t1 ks).kid d = ks[d] := by simp [Nd.kid, Nd.ks, hdl]
          rw [hkd] at he
          exact ents_val l _ _ _ (hk d hdl) e he
        · have hkd : (Nd.mk v t0 t1 ks).kid d = Nd.zero := by
            unfold Nd.kid
            rw [List.getD_eq_getElem?_getD, List.getElem?_eq_none (by show ks.length ≤ d; omega)]; rfl
          rw [hkd] at hna
          exact absurd rfl hna

theorem all_val {w : World} {r : Rx} {c : Array Value} (h : IsR w r c) : ∀ e ∈ r.all, inI64 e.v := by
  obtain ⟨_, nc, _, hn⟩ := h
  intro e he
  unfold Rx.all at he
  split at he
  · simp at he
  · exact ents_val _ _ _ _ hn e he

theorem tagsOf_bd (e : Ent) : 0 ≤ tagsOf e ∧ tagsOf e ≤ 3 := by
  unfold tagsOf
  split <;> split <;> omega

theorem Lst.ok {r : Rx} {l : List En} (hl : Lst r l) (hlen : l.length ≤ 1073741824) (hv : ∀ e ∈ l, inI64 e.v) : EnOk l 0 := by
  refine ⟨hlen, fun e he => ?_⟩
  obtain ⟨h1, h2, h3, h4⟩ := (hl.mem e).1 he
  have := tagsOf_bd (r.look e.i)
  rw [← h4] at this
  exact ⟨Nat.zero_le _, h1, hv e he, this⟩

theorem setE_ok {w : World} {r : Rx} {c : Array Value} (h : IsR w r c) (hr : r.fine) {i : Nat} (hi : i < 1073741824) {v : Int} (hv : inI64 v) : EnOk (setE r.all i v) 0 := by
  have hs := setE_lst hr hi v (all_lst hr)
  have hf := (set_fine hr hi v).2.1
  refine hs.ok (by rw [hs.eq (all_lst hf)]; exact all_length _) (fun e he => ?_)
  have ha := all_val h
  unfold setE at he
  rw [List.mem_append, List.mem_append] at he
  rcases he with (q | q) | q
  · exact ha e (List.mem_of_mem_take q)
  · split at q
    · simp at q
    · rw [List.mem_singleton] at q; subst q; exact hv
  · exact ha e (List.mem_of_mem_drop q)

theorem markE_ok {w : World} {r : Rx} {c : Array Value} (h : IsR w r c) (hr : r.fine) {i : Nat} (hi : i < 1073741824) (tag : Nat) (on : Bool) (ht : tag < 2) (hg : r.get i ≠ 0) : EnOk (markE r.all i tag on) 0 := by
  have hs := markE_lst hr hi tag on ht hg (all_lst hr)
  have hf := (mark_fine hr hi tag on ht hg).2.1
  refine hs.ok (by rw [hs.eq (all_lst hf)]; exact all_length _) (fun e he => ?_)
  have ha := all_val h
  unfold markE at he
  obtain ⟨j, hj, rfl⟩ := List.mem_iff_getElem.1 he
  have hj2 : j < r.all.length := by rw [List.length_modify] at hj; exact hj
  have hv : inI64 (r.all[j]'hj2).v := ha _ (List.getElem_mem _)
  rw [List.getElem_modify]
  split
  · exact hv
  · exact hv

/-- The value of a slice that a call made. -/
theorem own_form {w : World} {base : Nat} {e : TypeId} {size : Nat} {v : Value} {n M : Nat} {xs : List Value} (hM : M = n) (h : w.ownsRow base e size v n xs) : ∃ p cp, v = .slice p M cp ∧ (0 < M → ∃ g, p = some ⟨g, 0, none⟩) := by
  rcases h.2 with ⟨h1, h0⟩ | ⟨g, cap, cur, h1, _⟩
  · exact ⟨none, 0, by rw [hM, h0]; exact h1, fun q => by omega⟩
  · exact ⟨_, _, by rw [hM]; exact h1, fun _ => ⟨g, rfl⟩⟩

/-- What the walk of Set needs of the tree. -/
theorem rset_err {r : Rx} {i v : Int} (h : r.check ≠ 0 ∨ i < 0 ∨ 1073741824 ≤ i) : r.set i v = (Rx.empty, if r.check ≠ 0 then r.check else 2) := by
  unfold Rx.set
  by_cases q : r.check ≠ 0
  · rw [if_pos q, if_pos q]
  · rw [if_neg q, if_neg q, if_pos (by rcases h with p | p; exact absurd p q; exact p)]

set_option maxRecDepth 100000 in
set_option maxHeartbeats 16000000 in
theorem RSet_spec {w : World} {r : Rx} {c : Array Value} {i v : Int} (h : IsR w r c) (hi : inI64 i) (hv : inI64 v) :
    Calls Try.prog 25 #[.agg c, .int .i64 i, .int .i64 v] w (RPost w (r.set i v)) := by
  obtain ⟨post, hpost⟩ : ∃ post, post = RPost w (r.set i v) := ⟨_, rfl⟩
  have HP : Hid (∀ e W', RPost w (r.set i v) e W' → post e W') := Lib.hid (by rw [hpost]; exact fun e W' a => a)
  rw [← hpost]
  have hR := h
  have hix := fun (W : World) (k : Keeps w W) => index_spec (h.keeps k) hi
  have hen := fun (W : World) (k : Keeps w W) => Entries_spec (h.keeps k)
  have hlen := all_length r
  obtain ⟨er, her⟩ : ∃ er, er = if r.check ≠ 0 then r.check else if i < 0 ∨ 1073741824 ≤ i then 2 else 0 := ⟨_, rfl⟩
  rw [← her] at hix
  obtain ⟨hh, nc, rfl, hn0⟩ := h
  obtain ⟨x0, x1, x2, x3, x4, x5, x6, x7, xp, xl, xc, rfl⟩ := hn0.lit
  simp only [List.append_toArray, List.cons_append, List.nil_append] at hix hen hR ⊢
  have hb2 := boxes2 w (.cells #[.int .i64 r.h, .int .i64 x0, .int .i64 x1, .int .i64 x2, .int .i64 x3, .int .i64 x4, .int .i64 x5, .int .i64 x6, .int .i64 x7, .int .i64 r.root.t0, .int .i64 r.root.t1, .slice xp xl xc] 28) (.cells emptyCells 28)
  have hgA := heap_alloc2_old w (.cells #[.int .i64 r.h, .int .i64 x0, .int .i64 x1, .int .i64 x2, .int .i64 x3, .int .i64 x4, .int .i64 x5, .int .i64 x6, .int .i64 x7, .int .i64 r.root.t0, .int .i64 r.root.t1, .slice xp xl xc] 28) (.cells emptyCells 28)
  have hone : emptyCells.all (·.oneCell') = true := by simp [emptyCells, Value.oneCell']
  have hsz28 : (Try.prog.info? 28).map (·.size) = some emptyCells.size := size28
  obtain ⟨l, hl⟩ : ∃ l, l = r.all := ⟨_, rfl⟩
  rw [← hl] at hen hlen
  have Hix := Lib.hid hix
  have Hen := Lib.hid hen
  have Her := Lib.hid her
  have Hl := Lib.hid hl
  have HR := Lib.hid hR
  have Hi := Lib.hid hi
  have Hv := Lib.hid hv
  have Hlen := Lib.hid hlen
  unfold inI64 at hi hv
  obtain ⟨hi1, hi2⟩ := hi
  obtain ⟨hv1, hv2⟩ := hv
  obtain ⟨hbA, hszA, hgB⟩ := hb2
  clear hix hen hR hn0 hh hpost her hl hlen
  go_enter Try.func25, Try.ntmps25
  go_wp2_with fail
  obtain ⟨B, hB⟩ : ∃ B, B = w.heap.size := ⟨_, rfl⟩
  obtain ⟨wa, hwa⟩ : ∃ wa, wa = (w.alloc (.cells #[.int .i64 r.h, .int .i64 x0, .int .i64 x1, .int .i64 x2, .int .i64 x3, .int .i64 x4, .int .i64 x5, .int .i64 x6, .int .i64 x7, .int .i64 r.root.t0, .int .i64 r.root.t1, .slice xp xl xc] 28)).alloc (.cells emptyCells 28) := ⟨_, rfl⟩
  change _ at hgB
  rw [← hwa] at hbA hszA hgB hgA
  rw [← hB] at hszA hgB hgA ⊢
  have hkA : Keeps w wa := Keeps.of_below hbA
  have Hk := Lib.hid hkA
  have Hb := Lib.hid hbA
  have HgA := Lib.hid hgA
  have HgB := Lib.hid hgB
  have HB := Lib.hid hB
  change Calls Try.prog 77 _ ((w.alloc (.cells #[.int .i64 r.h, .int .i64 x0, .int .i64 x1, .int .i64 x2, .int .i64 x3, .int .i64 x4, .int .i64 x5, .int .i64 x6, .int .i64 x7, .int .i64 r.root.t0, .int .i64 r.root.t1, .slice xp xl xc] 28)).alloc (.cells emptyCells 28)) _
  rw [← hwa]
  clear hkA hbA hgA hgB hB hwa
  (with_reducible refine (Hix.out wa Hk.out).mono ?_)
  rintro e wb ⟨rfl, hBb⟩
  have hszb : B + 2 ≤ wb.heap.size := by have := hBb.size; omega
  have hgA := (hBb.block B (by omega)).trans HgA.out
  have hgB := (hBb.block (B + 1) (by omega)).trans HgB.out
  have hb := Hb.out.trans (hBb.mono Hb.out.size)
  have hk := Hk.out.trans (Keeps.of_below hBb)
  clear hBb HgA HgB Hb Hk hszA
  have hca := fun q => cell_of_row wb B q _ _ _ hgA
  have hd0 : wb.cell? ⟨B, 0, none⟩ = some (.int .i64 r.h) := hca 0
  have hd1 : wb.cell? ⟨B, 1, none⟩ = some (.int .i64 x0) := hca 1
  have hd2 : wb.cell? ⟨B, 2, none⟩ = some (.int .i64 x1) := hca 2
  have hd3 : wb.cell? ⟨B, 3, none⟩ = some (.int .i64 x2) := hca 3
  have hd4 : wb.cell? ⟨B, 4, none⟩ = some (.int .i64 x3) := hca 4
  have hd5 : wb.cell? ⟨B, 5, none⟩ = some (.int .i64 x4) := hca 5
  have hd6 : wb.cell? ⟨B, 6, none⟩ = some (.int .i64 x5) := hca 6
  have hd7 : wb.cell? ⟨B, 7, none⟩ = some (.int .i64 x6) := hca 7
  have hd8 : wb.cell? ⟨B, 8, none⟩ = some (.int .i64 x7) := hca 8
  have hd9 : wb.cell? ⟨B, 9, none⟩ = some (.int .i64 r.root.t0) := hca 9
  have hd10 : wb.cell? ⟨B, 10, none⟩ = some (.int .i64 r.root.t1) := hca 10
  have hd11 : wb.cell? ⟨B, 11, none⟩ = some (.slice xp xl xc) := hca 11
  have Hb := Lib.hid hb
  have Hk := Lib.hid hk
  have HgB := Lib.hid hgB
  clear hca hgA hb hk hgB
  by_cases he0 : er = 0
  · subst he0
    have hck : r.check = 0 := Classical.byContradiction fun q => by have := Her.out; rw [if_pos q] at this; exact q this.symm
    have hir : 0 ≤ i ∧ i < 1073741824 := by
      have := Her.out
      rw [if_neg (by rw [hck]; simp)] at this
      by_cases q : i < 0 ∨ 1073741824 ≤ i
      · rw [if_pos q] at this; simp at this
      · omega
    obtain ⟨ix, rfl⟩ := Int.eq_ofNat_of_zero_le hir.1
    have hix30 : ix < 1073741824 := by omega
    have hfine := HR.out.fine hck
    have hok := setE_ok HR.out hfine hix30 Hv.out
    have hbs := build_set hfine hix30 v
    have hs0 := (set_fine hfine hix30 v).1
    rw [← Hl.out] at hok hbs
    obtain ⟨x, hx⟩ : ∃ x, x = r.set (ix : Int) v := ⟨_, rfl⟩
    rw [← hx] at hbs hs0 HP
    have Hok := Lib.hid hok
    have Hbs := Lib.hid hbs
    have Hs0 := Lib.hid hs0
    clear hx hok hbs hs0 hfine hck hir
    go_wp2_with fail
    (with_reducible refine (Hen.out wb Hk.out).mono ?_)
    rintro e wc ⟨lv, rfl, hlv, hBc⟩
    have hszc : B + 2 ≤ wc.heap.size := Nat.le_trans hszb hBc.size
    have hgB := (hBc.block (B + 1) (by omega)).trans HgB.out
    have hb := Hb.out.trans (hBc.mono Hb.out.size)
    have hat := at_spec hlv Hlen.out (ix : Int) Hi.out
    obtain ⟨M, hM⟩ : ∃ M, M = l.length := ⟨_, rfl⟩
    obtain ⟨p, cp, rfl, hp⟩ := own_form hM hlv
    have hlv2 := ownsRow_mono hlv hszb
    have Hlv := Lib.hid hlv2
    have Hat := Lib.hid hat
    have HgB2 := Lib.hid hgB
    have Hb2 := Lib.hid hb
    have Hp := Lib.hid hp
    have HM := Lib.hid hM
    obtain ⟨k, hk⟩ : ∃ k, k = atE l ix := ⟨_, rfl⟩
    have hkM : k ≤ M := by rw [hM, hk]; exact atE_le l ix
    have hM30 : M ≤ 1073741824 := by rw [hM]; exact Hlen.out
    rw [← hk] at Hat
    have Hk2 := Lib.hid hk
    clear hlv hlv2 hBc hgB hb hat hp hM hk HgB Hb Hk hd0 hd1 hd2 hd3 hd4 hd5 hd6 hd7 hd8 hd9 hd10 hd11
    go_wp2_with fail
    (with_reducible refine Hat.out.mono ?_)
    rintro e wd ⟨rfl, rfl⟩
    obtain ⟨i0, hi0, hz0, hzs, hzb⟩ := info_parts info83
    go_wp2_with fail
    go_loopw [11, 12] (fun ov jv wx => ∃ j : Nat, j ≤ k ∧ jv = .int .i64 j ∧ Hid (wx.ownsRow wc.heap.size 83 3 ov j (enCells (l.take j))) ∧ Hid (Below wc.heap.size wc wx)) (fun _ jv _ => k - (intOf jv).toNat)
    case atStart => exact ⟨0, by omega, rfl, Lib.hid (World.ownsRow_nil _ _ _ _), Lib.hid (Below.refl _ _)⟩
    case round =>
      rename World => we
      obtain ⟨j, hjk, rfl, Ho, Hbe⟩ := hrel
      by_cases hlt : j < k
      · have hjl : j < l.length := by rw [← HM.out]; omega
        obtain ⟨g, rfl⟩ := Hp.out (by omega)
        have hlv2 := ownsRow_below Hlv.out Hbe.out
        rw [show M = l.length from HM.out] at hlv2
        obtain ⟨c0, c1, c2⟩ := own_cell hlv2 j hjl
        obtain ⟨ej, hej⟩ : ∃ ej, ej = l[j] := ⟨_, rfl⟩
        rw [← hej] at c0 c1 c2
        obtain ⟨ei, ev, et⟩ := ej
        simp only at c0 c1 c2
        have hsze : wc.heap.size ≤ we.heap.size := Hbe.out.size
        have HoA := Lib.hid (Ho.out.alloc (.cells #[.int .i64 (ei : Int), .int .i64 ev, .int .i64 et] 83))
        have Hz2 := Lib.hid (show wc.heap.size ≤ (we.alloc (.cells #[.int .i64 (ei : Int), .int .i64 ev, .int .i64 et] 83)).heap.size by simp; omega)
        have Hm := Lib.hid (show j + 1 ≤ maxLen by unfold maxLen; omega)
        have Hm2 := Lib.hid (show (j + 1) * 24 ≤ 140737488355328 by omega)
        have hjM : (j : Int) < (M : Int) := by omega
        have hjk' : (j : Int) < (k : Int) := by omega
        have Hej := Lib.hid hej
        clear hlv2 hej
        go_wp2_with (first
            | (refine wpList_append_own _ (by rfl) (.tmp 32) (.tmp 37) 79 (by rfl) wc.heap.size 83 i0 _ 3 24 Try.underlying79 hi0 hz0 hzs hzb (by rfl) (by omega) u11 _ _ (by rfl) (by with_reducible exact HoA.out)
                ⟨we.heap.size, 0, none⟩ 1 1 [.int .i64 (ei : Int), .int .i64 ev, .int .i64 et] (by rfl) (by rfl) (World.news_of_block (heap_alloc_new we _)) (by simp [Value.oneCell']) (by with_reducible exact Hm.out) (by with_reducible exact Hm2.out) (by with_reducible exact Hz2.out) ?_
               intro v' w' hown' hgrow hnil'))
        have hlt8 := fun q hq => Ho.out.lt q hq
        have hown2 : w'.ownsRow wc.heap.size 83 3 v' (j + 1) (enCells (l.take (j + 1))) := by
          have e : enCells (l.take (j + 1)) = enCells (l.take j) ++ [.int .i64 (ei : Int), .int .i64 ev, .int .i64 et] := by
            rw [List.take_succ_eq_append_getElem hjl, ← Hej.out, enCells_append]; rfl
          rw [e]; exact hown'
        have hbx : Below wc.heap.size wc w' := (Hbe.out.alloc hsze _).grown hgrow (by simp; omega) (fun q hq => (hlt8 q hq).1)
        have Hown2 := Lib.hid hown2
        have Hbx := Lib.hid hbx
        clear hown2 hbx hown' hgrow hnil' hlt8 c0 c1 c2
        go_wp2_with fail
        go_roundw
        case rel => exact ⟨j + 1, by omega, by go_num, Hown2, Hbx⟩
        case measure => simp [intOf]; omega
      · obtain rfl : k = j := by omega
        obtain ⟨hit, hhit⟩ : ∃ hit, hit = hitE l ix := ⟨_, rfl⟩
        obtain ⟨tg, htg⟩ : ∃ tg, tg = tagE l ix := ⟨_, rfl⟩
        obtain ⟨k2, hk2⟩ : ∃ k2 : Nat, k2 = if hit = true then k + 1 else k := ⟨_, rfl⟩
        have hset : setE l ix v = l.take k ++ (if v = 0 then [] else [⟨ix, v, tg⟩]) ++ l.drop k2 := by
          unfold setE; rw [← Hk2.out, ← hhit, ← htg, ← hk2]
        have hkf : ¬ (k : Int) < (k : Int) := by omega
        have Hhit := Lib.hid hhit
        have Htg := Lib.hid htg
        have HK2 := Lib.hid hk2
        have Hset := Lib.hid hset
        have hk2M : k2 ≤ M := by
          rw [hk2]
          cases hit with
          | false => simpa using hkM
          | true =>
            unfold hitE at hhit
            rw [← Hk2.out] at hhit
            have : k < l.length := Classical.byContradiction fun q => by rw [List.getElem?_eq_none (by omega)] at hhit; simp at hhit
            rw [if_pos rfl, HM.out]; omega
        clear hhit htg hk2 hset
        go_upto_region 12 with fail
        go_cut [51] from 39 to 51 (fun s51 wx => s51 = .bool hit ∧ wx = we)
        case first =>
          by_cases hlt : k < M
          · have hjl : k < l.length := by rw [← HM.out]; omega
            obtain ⟨g, rfl⟩ := Hp.out (by omega)
            have hlv2 := ownsRow_below Hlv.out Hbe.out
            rw [show M = l.length from HM.out] at hlv2
            obtain ⟨c0, -, -⟩ := own_cell hlv2 k hjl
            have hh := Hhit.out
            unfold hitE at hh
            rw [← Hk2.out, List.getElem?_eq_getElem hjl] at hh
            simp only at hh
            obtain ⟨ei, hei⟩ : ∃ ei, ei = l[k].i := ⟨_, rfl⟩
            rw [← hei] at c0 hh
            have hkM' : (k : Int) < (M : Int) := by omega
            have hd : decide ((k : Int) < (M : Int)) = true := by simpa using hlt
            have hd' : decide (k < M) = true := by simpa using hlt
            by_cases hq : (ei : Int) = (ix : Int)
            · rw [decide_eq_true hq] at hh
              obtain rfl : ei = ix := by omega
              have Hh := Lib.hid hh
              clear hlv2 hei hq hh
              go_wp2_with fail
              go_meet
              case rel => exact ⟨by rw [Hh.out], rfl⟩
            · have hb : ((ei : Int) == (ix : Int)) = false := by simpa using hq
              have hbn : (ei == ix) = false := by simp; omega
              have hbm : ¬ ei = ix := by omega
              rw [decide_eq_false hq] at hh
              have Hh := Lib.hid hh
              clear hlv2 hei hq hh
              go_wp2_with fail
              go_meet
              case rel => exact ⟨by rw [Hh.out], rfl⟩
          · have hd : decide ((k : Int) < (M : Int)) = false := by simp; omega
            have hd' : decide (k < M) = false := by simp; omega
            have hh := Hhit.out
            unfold hitE at hh
            rw [← Hk2.out, List.getElem?_eq_none (by rw [← HM.out]; omega)] at hh
            simp only at hh
            have Hh := Lib.hid hh
            clear hh
            go_wp2_with fail
            go_meet
            case rel => exact ⟨by rw [Hh.out], rfl⟩
        case rest =>
        obtain ⟨rfl, rfl⟩ := hcut
        rename World => we
        go_upto_if 51 with fail
        go_cut [10, 13] from 52 to 58 (fun s10 s13 wx => s10 = .int .i64 (k2 : Int) ∧ s13 = .int .i64 tg ∧ wx = we)
        case first =>
          cases hit with
          | true =>
            have e2 := HK2.out
            rw [if_pos rfl] at e2
            subst e2
            have hlt : k < M := by omega
            have hjl : k < l.length := by rw [← HM.out]; omega
            obtain ⟨g, rfl⟩ := Hp.out (by omega)
            have hlv2 := ownsRow_below Hlv.out Hbe.out
            rw [show M = l.length from HM.out] at hlv2
            obtain ⟨-, -, c2⟩ := own_cell hlv2 k hjl
            have hh := Hhit.out
            have ht := Htg.out
            unfold hitE at hh
            unfold tagE at ht
            rw [← Hk2.out, List.getElem?_eq_getElem hjl] at hh ht
            simp only at hh ht
            rw [if_pos (by simpa using hh.symm)] at ht
            rw [← ht] at c2
            have hkM' : (k : Int) < (M : Int) := by omega
            clear hlv2 hh ht
            go_wp2_with fail
            go_meet
            case rel => exact ⟨by go_num, rfl, rfl⟩
          | false =>
            have e2 := HK2.out
            rw [if_neg (by simp)] at e2
            replace e2 := e2.symm
            subst e2
            have ht := Htg.out
            have hh := Hhit.out
            have h0 : tagE l ix = 0 := by
              unfold tagE
              unfold hitE at hh
              rw [← Hk2.out] at hh ⊢
              cases hx : l[k]? with
              | none => rfl
              | some e =>
                rw [hx] at hh
                simp only at hh ⊢
                rw [if_neg (by simpa using hh.symm)]
            rw [h0] at ht
            have Ht := Lib.hid ht
            clear ht hh h0
            go_wp2_with fail
            go_meet
            case rel => exact ⟨rfl, by rw [Ht.out], rfl⟩
        case rest =>
          obtain ⟨rfl, rfl, rfl⟩ := hcut
          rename World => we
          obtain ⟨mid, hmid⟩ : ∃ mid : List En, mid = if v = 0 then [] else [⟨ix, v, tg⟩] := ⟨_, rfl⟩
          have hset := Hset.out
          rw [← hmid] at hset
          have Hset2 := Lib.hid hset
          have hml : mid.length ≤ 1 := by rw [hmid]; split <;> simp
          have Hmid := Lib.hid hmid
          clear hset hmid
          obtain ⟨vb, hvb⟩ : ∃ vb, (v != 0) = vb := ⟨_, rfl⟩
          go_upto_if 60 with fail
          go_cut [11] from 61 to 67 (fun s11 wx => Hid (wx.ownsRow wc.heap.size 83 3 s11 (k + mid.length) (enCells (l.take k ++ mid))) ∧ Hid (Below wc.heap.size wc wx))
          case first =>
            cases vb with
            | false =>
              have hv0 : v = 0 := by simpa using hvb
              have hm0 := Hmid.out
              rw [if_pos hv0] at hm0
              subst hm0
              have Ho3 := Lib.hid (show we.ownsRow wc.heap.size 83 3 u11 (k + ([] : List En).length) (enCells (l.take k ++ [])) by rw [List.append_nil]; exact Ho.out)
              clear hv0
              go_wp2_with fail
              go_meet
              case rel => exact ⟨Ho3, Hbe⟩
            | true =>
              have hv0 : ¬ v = 0 := by simpa using hvb
              have hm0 := Hmid.out
              rw [if_neg hv0] at hm0
              subst hm0
              have hsze : wc.heap.size ≤ we.heap.size := Hbe.out.size
              have HoA := Lib.hid (Ho.out.alloc (.cells #[.int .i64 (ix : Int), .int .i64 v, .int .i64 tg] 83))
              have Hz2 := Lib.hid (show wc.heap.size ≤ (we.alloc (.cells #[.int .i64 (ix : Int), .int .i64 v, .int .i64 tg] 83)).heap.size by simp; omega)
              have Hm := Lib.hid (show k + 1 ≤ maxLen by unfold maxLen; omega)
              have Hm2 := Lib.hid (show (k + 1) * 24 ≤ 140737488355328 by omega)
              clear hv0
              go_wp2_with (first
            | (refine wpList_append_own _ (by rfl) (.tmp 61) (.tmp 66) 79 (by rfl) wc.heap.size 83 i0 _ 3 24 Try.underlying79 hi0 hz0 hzs hzb (by rfl) (by omega) u11 _ _ (by rfl) (by with_reducible exact HoA.out)
                ⟨we.heap.size, 0, none⟩ 1 1 [.int .i64 (ix : Int), .int .i64 v, .int .i64 tg] (by rfl) (by rfl) (World.news_of_block (heap_alloc_new we _)) (by simp [Value.oneCell']) (by with_reducible exact Hm.out) (by with_reducible exact Hm2.out) (by with_reducible exact Hz2.out) ?_
               intro v' w' hown' hgrow hnil'))
              have hlt8 := fun q hq => Ho.out.lt q hq
              have hown2 : w'.ownsRow wc.heap.size 83 3 v' (k + [(⟨ix, v, tg⟩ : En)].length) (enCells (l.take k ++ [⟨ix, v, tg⟩])) := by
                have e : enCells (l.take k ++ [⟨ix, v, tg⟩]) = enCells (l.take k) ++ [.int .i64 (ix : Int), .int .i64 v, .int .i64 tg] := by
                  rw [enCells_append]; rfl
                rw [e]; exact hown'
              have hbx : Below wc.heap.size wc w' := (Hbe.out.alloc hsze _).grown hgrow (by simp; omega) (fun q hq => (hlt8 q hq).1)
              have Hown2 := Lib.hid hown2
              have Hbx := Lib.hid hbx
              clear hown2 hbx hown' hgrow hnil' hlt8
              go_wp2_with fail
              go_meet
              case rel => exact ⟨Hown2, Hbx⟩
          case rest =>
            obtain ⟨Ho3, Hb3⟩ := hcut
            rename World => wf
            clear Ho Hbe
            go_wp2_with fail
            have Ho4 := Lib.hid (show wf.ownsRow wc.heap.size 83 3 u11 (k + mid.length + 0) (enCells (l.take k ++ mid ++ (l.drop k2).take 0)) by rw [List.take_zero, List.append_nil]; exact Ho3.out)
            go_loopw [11, 14] (fun ov jv wx => ∃ q : Nat, k2 + q ≤ M ∧ jv = .int .i64 ((k2 + q : Nat) : Int) ∧ Hid (wx.ownsRow wc.heap.size 83 3 ov (k + mid.length + q) (enCells (l.take k ++ mid ++ (l.drop k2).take q))) ∧ Hid (Below wc.heap.size wc wx)) (fun _ jv _ => M - (intOf jv).toNat)
            case atStart => exact ⟨0, by omega, rfl, Ho4, Hb3⟩
            case round =>
              clear Ho3 Hb3 Ho4
              rename World => wh
              obtain ⟨q, hqM, rfl, Ho, Hbe⟩ := hrel
              obtain ⟨j, hj⟩ : ∃ j, j = k2 + q := ⟨_, rfl⟩
              rw [← hj]
              by_cases hlt : j < M
              · have hjl : j < l.length := by rw [← HM.out]; omega
                obtain ⟨g, rfl⟩ := Hp.out (by omega)
                have hlv2 := ownsRow_below Hlv.out Hbe.out
                rw [show M = l.length from HM.out] at hlv2
                obtain ⟨c0, c1, c2⟩ := own_cell hlv2 j hjl
                obtain ⟨ej, hej⟩ : ∃ ej, ej = l[j] := ⟨_, rfl⟩
                have htk : (l.drop k2).take (q + 1) = (l.drop k2).take q ++ [ej] := by
                  have hq2 : q < (l.drop k2).length := by rw [List.length_drop]; omega
                  rw [List.take_succ_eq_append_getElem hq2, List.getElem_drop, hej]
                  congr 3
                  exact hj.symm
                rw [← hej] at c0 c1 c2
                obtain ⟨ei, ev, et⟩ := ej
                simp only at c0 c1 c2
                have hsze : wc.heap.size ≤ wh.heap.size := Hbe.out.size
                have HoA := Lib.hid (Ho.out.alloc (.cells #[.int .i64 (ei : Int), .int .i64 ev, .int .i64 et] 83))
                have Hz2 := Lib.hid (show wc.heap.size ≤ (wh.alloc (.cells #[.int .i64 (ei : Int), .int .i64 ev, .int .i64 et] 83)).heap.size by simp; omega)
                have Hm := Lib.hid (show k + mid.length + q + 1 ≤ maxLen by unfold maxLen; omega)
                have Hm2 := Lib.hid (show (k + mid.length + q + 1) * 24 ≤ 140737488355328 by omega)
                have hjM : (j : Int) < (M : Int) := by omega
                have hjb : (j : Int) ≤ 1073741824 := by omega
                have Htk := Lib.hid htk
                have Hj := Lib.hid hj
                clear hlv2 hej htk hj
                go_wp2_with (first
            | (refine wpList_append_own _ (by rfl) (.tmp 75) (.tmp 80) 79 (by rfl) wc.heap.size 83 i0 _ 3 24 Try.underlying79 hi0 hz0 hzs hzb (by rfl) (by omega) u11 _ _ (by rfl) (by with_reducible exact HoA.out)
                ⟨wh.heap.size, 0, none⟩ 1 1 [.int .i64 (ei : Int), .int .i64 ev, .int .i64 et] (by rfl) (by rfl) (World.news_of_block (heap_alloc_new wh _)) (by simp [Value.oneCell']) (by with_reducible exact Hm.out) (by with_reducible exact Hm2.out) (by with_reducible exact Hz2.out) ?_
               intro v' w' hown' hgrow hnil'))
                have hlt8 := fun q hq => Ho.out.lt q hq
                have hown2 : w'.ownsRow wc.heap.size 83 3 v' (k + mid.length + (q + 1)) (enCells (l.take k ++ mid ++ (l.drop k2).take (q + 1))) := by
                  have e : enCells (l.take k ++ mid ++ (l.drop k2).take (q + 1)) = enCells (l.take k ++ mid ++ (l.drop k2).take q) ++ [.int .i64 (ei : Int), .int .i64 ev, .int .i64 et] := by
                    rw [Htk.out, ← List.append_assoc, enCells_append]; rfl
                  rw [e]; exact hown'
                have hbx : Below wc.heap.size wc w' := (Hbe.out.alloc hsze _).grown hgrow (by simp; omega) (fun q hq => (hlt8 q hq).1)
                have Hown2 := Lib.hid hown2
                have Hbx := Lib.hid hbx
                clear hown2 hbx hown' hgrow hnil' hlt8 c0 c1 c2
                go_wp2_with fail
                go_roundw
                case rel => exact ⟨q + 1, by have := Hj.out; omega, by have := Hj.out; simp; omega, Hown2, Hbx⟩
                case measure => have := Hj.out; simp [intOf]; omega
              · have hjM : j = M := by omega
                subst hjM
                have hdone : wh.ownsRow wc.heap.size 83 3 u11 (setE l ix v).length (enCells (setE l ix v)) := by
                  have e : l.take k ++ mid ++ (l.drop k2).take q = setE l ix v := by
                    rw [Hset2.out]
                    congr 1
                    rw [List.take_of_length_le]
                    rw [List.length_drop, ← HM.out]; omega
                  have e2 : (setE l ix v).length = k + mid.length + q := by
                    rw [← e, List.length_append, List.length_append, List.length_take, List.length_take, List.length_drop, ← HM.out]; omega
                  rw [e2, ← e]; exact Ho.out
                have hbd := Build_spec hdone Hok.out
                rw [Hbs.out] at hbd
                have Hbd := Lib.hid hbd
                have hgB := (Hbe.out.block (B + 1) (by omega)).trans HgB2.out
                have HgB3 := Lib.hid hgB
                have hbw := Hb2.out.trans (Hbe.out.mono Hb2.out.size)
                have Hbw := Lib.hid hbw
                have hszh : B + 2 ≤ wh.heap.size := Nat.le_trans hszc Hbe.out.size
                clear hdone hbd hgB hbw Ho
                have hjf : ¬ (j : Int) < (j : Int) := by omega
                go_wp2_with fail
                (with_reducible refine Hbd.out.mono ?_)
                rintro e wi ⟨⟨c', rfl, hO⟩, hBi⟩
                have hg : wi.heap[B + 1]? = some (.cells emptyCells 28 (0, 0)) := (hBi.block (B + 1) (by omega)).trans HgB3.out
                have hbf : Below w.heap.size w (wi.setRow (B + 1) c') := Below.putRow (Hbw.out.trans (hBi.mono Hbw.out.size)) (by have := HB.out; omega) _
                have hsz := hO.size
                have hpo := HP.out (.returned (.tuple #[.agg c', .int .i64 0])) _ ⟨⟨c', by rw [Hs0.out], (hO.put (b := B + 1) (by omega) c').mono (by have := HB.out; omega)⟩, hbf⟩
                have Hpo := Lib.hid hpo
                have Hg := Lib.hid hg
                have Hone := Lib.hid hO.one
                have Hs12 := Lib.hid hsz
                have Hsz : Hid ((Try.prog.info? 28).map (·.size) = some c'.size) := Lib.hid (by rw [hsz]; exact size28)
                have Hes : Hid (emptyCells.size = c'.size) := Lib.hid (by rw [hsz]; rfl)
                clear hpo hg hbf hsz hO hBi
                go_wp2_with (first
                  | (refine wpList_store_row (by rfl) 28 (.tmp 6) (.tmp 83) (by rfl) (B + 1) c' (by rfl) (by rfl) 28 _ (by with_reducible exact Hg.out) (by with_reducible exact Hsz.out) (by with_reducible exact Hes.out) (by with_reducible exact Hone.out) ?_))
                exact bodyPost_ret (results_cell_tmp (p := 6) (q := 7) rfl _ _ (B + 1) _ rfl (load28 (setRow_heap _ _ _ _ _ _ Hg.out) Hs12.out)) rfl Hpo.out
  · have hbad : r.check ≠ 0 ∨ i < 0 ∨ 1073741824 ≤ i := by
      have := Her.out
      by_cases q : r.check ≠ 0
      · exact .inl q
      · rw [if_neg q] at this
        by_cases p : i < 0 ∨ 1073741824 ≤ i
        · exact .inr p
        · rw [if_neg p] at this; exact absurd this he0
    have hse := rset_err (v := v) hbad
    have her2 : (if r.check ≠ 0 then r.check else 2) = er := by
      rw [Her.out]
      by_cases q : r.check ≠ 0
      · rw [if_pos q, if_pos q]
      · rw [if_neg q, if_neg q, if_pos (hbad.resolve_left q)]
    rw [her2] at hse
    rw [hse] at HP
    have heb : (er != 0) = true := by simpa using he0
    clear hbad hse her2 he0
    go_wp2_with (first | (refine wpList_store_row (by rfl) 28 (.tmp 6) (.tmp 20) (by rfl) (B + 1) emptyCells (by rfl) (by rfl) 28 _ (by with_reducible exact HgB.out) hsz28 (by rfl) hone ?_))
    exact bodyPost_ret (results_cell_tmp rfl _ _ (B + 1) _ rfl (load28 (setRow_heap _ _ _ _ _ _ HgB.out) rfl)) rfl (HP.out _ _ ⟨⟨_, rfl, ownR_empty _ _⟩, Below.putRow Hb.out (by have := HB.out; omega) _⟩)
end Go.Proofs.Ytmdmbnpgdkmklaa
