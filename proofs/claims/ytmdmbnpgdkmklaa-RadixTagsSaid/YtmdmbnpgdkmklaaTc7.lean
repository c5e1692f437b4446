/- The reference's mark: it answers as the tree's own. -/
import Derived.Test.YtmdmbnpgdkmklaaTc5
namespace Go.Proofs.Ytmdmbnpgdkmklaa
open Go.RowKit
set_option linter.unusedVariables false
set_option linter.unusedSimpArgs false

theorem enCells_mark : ∀ (l : List En) (k : Nat) (f : Int → Int) (hk : k < l.length), (enCells l).set (k * 3 + 2) (.int .i64 (f l[k].t)) = enCells (l.modify k fun e => ⟨e.i, e.v, f e.t⟩)
  | [], k, f, hk => by simp at hk
  | e :: l, 0, f, hk => rfl
  | e :: l, k + 1, f, hk => by
    have ih := enCells_mark l k f (by simpa using hk)
    have e1 : enCells (e :: l) = .int .i64 (e.i : Int) :: .int .i64 e.v :: .int .i64 e.t :: enCells l := rfl
    rw [e1, show (k + 1) * 3 + 2 = (k * 3 + 2) + 3 by omega]
    simp only [List.set_cons_succ, List.getElem_cons_succ, List.modify_succ_cons]
    rw [ih]
    rfl

theorem rmark_err {r : Rx} {i tag : Int} {on : Bool} (h : r.check ≠ 0 ∨ i < 0 ∨ 1073741824 ≤ i) : r.mark i tag on = (Rx.empty, if r.check ≠ 0 then r.check else 2) := by
  unfold Rx.mark
  by_cases q : r.check ≠ 0
  · rw [if_pos q, if_pos q]
  · rw [if_neg q, if_neg q, if_pos (by rcases h with p | p; exact absurd p q; exact p)]

set_option maxRecDepth 100000 in
set_option maxHeartbeats 16000000 in
theorem RMark_spec {w : World} {r : Rx} {c : Array Value} {i tag : Int} {on : Bool} (h : IsR w r c) (hi : inI64 i) (hv : inI64 tag) :
    Calls Try.prog 88 #[.agg c, .int .i64 i, .int .i64 tag, .bool on] w (RPost w (r.mark i tag on)) := by
  obtain ⟨post, hpost⟩ : ∃ post, post = RPost w (r.mark i tag on) := ⟨_, rfl⟩
  have HP : Hid (∀ e W', RPost w (r.mark i tag on) e W' → post e W') := Lib.hid (by rw [hpost]; exact fun e W' a => a)
  rw [← hpost]
  have hR := h
  have hix := fun (W : World) (k : Keeps w W) => index_spec (h.keeps k) hi
  have hen := fun (W : World) (k : Keeps w W) => Entries_spec (h.keeps k)
  have hlen := all_length r
  obtain ⟨er, her⟩ : ∃ er, er = if r.check ≠ 0 then r.check else if i < 0 ∨ 1073741824 ≤ i then 2 else 0 := ⟨_, rfl⟩
  rw [← her] at hix
  obtain ⟨hh, nc, rfl, hn0⟩ := h
  obtain ⟨x0, x1, x2, x3, x4, x5, x6, x7, xp, xl, xc, rfl⟩ := hn0.lit
  simp only [List.append_toArray, List.cons_append, List.nil_append] at hix hen hR ⊢
  have hb2 := boxes2 w (.cells #[.int .i64 r.h, .int .i64 x0, .int .i64 x1, .int .i64 x2, .int .i64 x3, .int .i64 x4, .int .i64 x5, .int .i64 x6, .int .i64 x7, .int .i64 r.root.t0, .int .i64 r.root.t1, .slice xp xl xc] 28) (.cells emptyCells 28)
  have hgA := heap_alloc2_old w (.cells #[.int .i64 r.h, .int .i64 x0, .int .i64 x1, .int .i64 x2, .int .i64 x3, .int .i64 x4, .int .i64 x5, .int .i64 x6, .int .i64 x7, .int .i64 r.root.t0, .int .i64 r.root.t1, .slice xp xl xc] 28) (.cells emptyCells 28)
  have hone : emptyCells.all (·.oneCell') = true := by simp [emptyCells, Value.oneCell']
  have hsz28 : (Try.prog.info? 28).map (·.size) = some emptyCells.size := size28
  obtain ⟨l, hl⟩ : ∃ l, l = r.all := ⟨_, rfl⟩
  rw [← hl] at hen hlen
  have Hix := Lib.hid hix
  have Hen := Lib.hid hen
  have Her := Lib.hid her
  have Hl := Lib.hid hl
  have HR := Lib.hid hR
  have Hi := Lib.hid hi
  have Hv := Lib.hid hv
  have Hlen := Lib.hid hlen
  unfold inI64 at hi hv
  obtain ⟨hi1, hi2⟩ := hi
  obtain ⟨hv1, hv2⟩ := hv
  obtain ⟨hbA, hszA, hgB⟩ := hb2
  clear hix hen hR hn0 hh hpost her hl hlen
  go_enter Try.func88, Try.ntmps88
  go_wp2_with fail
  obtain ⟨B, hB⟩ : ∃ B, B = w.heap.size := ⟨_, rfl⟩
  obtain ⟨wa, hwa⟩ : ∃ wa, wa = (w.alloc (.cells #[.int .i64 r.h, .int .i64 x0, .int .i64 x1, .int .i64 x2, .int .i64 x3, .int .i64 x4, .int .i64 x5, .int .i64 x6, .int .i64 x7, .int .i64 r.root.t0, .int .i64 r.root.t1, .slice xp xl xc] 28)).alloc (.cells emptyCells 28) := ⟨_, rfl⟩
  change _ at hgB
  rw [← hwa] at hbA hszA hgB hgA
  rw [← hB] at hszA hgB hgA ⊢
  have hkA : Keeps w wa := Keeps.of_below hbA
  have Hk := Lib.hid hkA
  have Hb := Lib.hid hbA
  have HgA := Lib.hid hgA
  have HgB := Lib.hid hgB
  have HB := Lib.hid hB
  change Calls Try.prog 77 _ ((w.alloc (.cells #[.int .i64 r.h, .int .i64 x0, .int .i64 x1, .int .i64 x2, .int .i64 x3, .int .i64 x4, .int .i64 x5, .int .i64 x6, .int .i64 x7, .int .i64 r.root.t0, .int .i64 r.root.t1, .slice xp xl xc] 28)).alloc (.cells emptyCells 28)) _
  rw [← hwa]
  clear hkA hbA hgA hgB hB hwa
  (with_reducible refine (Hix.out wa Hk.out).mono ?_)
  rintro e wb ⟨rfl, hBb⟩
  have hszb : B + 2 ≤ wb.heap.size := by have := hBb.size; omega
  have hgA := (hBb.block B (by omega)).trans HgA.out
  have hgB := (hBb.block (B + 1) (by omega)).trans HgB.out
  have hb := Hb.out.trans (hBb.mono Hb.out.size)
  have hk := Hk.out.trans (Keeps.of_below hBb)
  clear hBb HgA HgB Hb Hk hszA
  have hca := fun q => cell_of_row wb B q _ _ _ hgA
  have hd0 : wb.cell? ⟨B, 0, none⟩ = some (.int .i64 r.h) := hca 0
  have hd1 : wb.cell? ⟨B, 1, none⟩ = some (.int .i64 x0) := hca 1
  have hd2 : wb.cell? ⟨B, 2, none⟩ = some (.int .i64 x1) := hca 2
  have hd3 : wb.cell? ⟨B, 3, none⟩ = some (.int .i64 x2) := hca 3
  have hd4 : wb.cell? ⟨B, 4, none⟩ = some (.int .i64 x3) := hca 4
  have hd5 : wb.cell? ⟨B, 5, none⟩ = some (.int .i64 x4) := hca 5
  have hd6 : wb.cell? ⟨B, 6, none⟩ = some (.int .i64 x5) := hca 6
  have hd7 : wb.cell? ⟨B, 7, none⟩ = some (.int .i64 x6) := hca 7
  have hd8 : wb.cell? ⟨B, 8, none⟩ = some (.int .i64 x7) := hca 8
  have hd9 : wb.cell? ⟨B, 9, none⟩ = some (.int .i64 r.root.t0) := hca 9
  have hd10 : wb.cell? ⟨B, 10, none⟩ = some (.int .i64 r.root.t1) := hca 10
  have hd11 : wb.cell? ⟨B, 11, none⟩ = some (.slice xp xl xc) := hca 11
  have Hb := Lib.hid hb
  have Hk := Lib.hid hk
  have HgB := Lib.hid hgB
  clear hca hgA hb hk hgB
  by_cases he0 : er = 0
  · subst he0
    have hck : r.check = 0 := Classical.byContradiction fun q => by have := Her.out; rw [if_pos q] at this; exact q this.symm
    have hir : 0 ≤ i ∧ i < 1073741824 := by
      have := Her.out
      rw [if_neg (by rw [hck]; simp)] at this
      by_cases q : i < 0 ∨ 1073741824 ≤ i
      · rw [if_pos q] at this; simp at this
      · omega
    obtain ⟨ix, rfl⟩ := Int.eq_ofNat_of_zero_le hir.1
    have hix30 : ix < 1073741824 := by omega
    have hfine := HR.out.fine hck
    clear hck hir
    by_cases htag : tag = 0 ∨ tag = 1
    · have hLst := all_lst hfine
      rw [← Hl.out] at hLst
      obtain ⟨M, hM⟩ : ∃ M, M = l.length := ⟨_, rfl⟩
      obtain ⟨k, hk⟩ : ∃ k, k = atE l ix := ⟨_, rfl⟩
      have hgs := (hLst.at hfine hix30)
      rw [← get_look hfine hix30] at hgs
      have Hgs := Lib.hid hgs
      have Hok0 := Lib.hid (fun (tg : Nat) (q : tg < 2) (p : r.get ix ≠ 0) => markE_ok HR.out hfine hix30 tg on q p)
      have Hbs0 := Lib.hid (fun (tg : Nat) (q : tg < 2) (p : r.get ix ≠ 0) => build_mark hfine hix30 tg on q p)
      have Hs0 := Lib.hid (fun (tg : Nat) (q : tg < 2) (p : r.get ix ≠ 0) => (mark_fine hfine hix30 tg on q p).1)
      have Hfine := Lib.hid hfine
      have hen0 : (l[atE l (ix : Int)]? = none ∨ ∃ e, l[atE l (ix : Int)]? = some e ∧ ¬ (e.i : Int) = ix) → r.get ix = 0 := fun q => by
        rw [← hgs.1]
        unfold getE
        rcases q with q | ⟨e, q, p⟩
        · rw [q]
        · rw [q]; simp only; rw [if_neg p]
      have hen1 : ∀ e, l[atE l (ix : Int)]? = some e → (e.i : Int) = ix → r.get ix ≠ 0 := fun e q p => by
        rw [← hgs.1]
        unfold getE
        rw [q]; simp only; rw [if_pos p]
        exact ((hLst.mem e).1 (List.mem_of_getElem? q)).2.2.1
      have Hen0 := Lib.hid hen0
      have Hen1 := Lib.hid hen1
      have Hl2 := Lib.hid Hl.out
      clear hLst hgs hen0 hen1 hfine
      rcases htag with rfl | rfl
      · go_wp2_with fail
        (with_reducible refine (Hen.out wb Hk.out).mono ?_)
        rintro e wc ⟨lv, rfl, hlv, hBc⟩
        have hszc : B + 2 ≤ wc.heap.size := Nat.le_trans hszb hBc.size
        have hgB := (hBc.block (B + 1) (by omega)).trans HgB.out
        have hb := Hb.out.trans (hBc.mono Hb.out.size)
        have hat := at_spec hlv Hlen.out (ix : Int) Hi.out
        obtain ⟨p, cp, rfl, hp⟩ := own_form hM hlv
        have hlv2 := ownsRow_mono hlv hszb
        have Hlv := Lib.hid hlv2
        have Hat := Lib.hid hat
        have HgB2 := Lib.hid hgB
        have Hb2 := Lib.hid hb
        have Hp := Lib.hid hp
        have HM := Lib.hid hM
        have hkM : k ≤ M := by rw [hM, hk]; exact atE_le l ix
        have hM30 : M ≤ 1073741824 := by rw [hM]; exact Hlen.out
        rw [← hk] at Hat
        have Hk2 := Lib.hid hk
        clear hlv hlv2 hBc hgB hb hat hp hM hk HgB Hb Hk hd0 hd1 hd2 hd3 hd4 hd5 hd6 hd7 hd8 hd9 hd10 hd11
        go_wp2_with fail
        (with_reducible refine Hat.out.mono ?_)
        rintro e wd ⟨rfl, rfl⟩
        by_cases hlt : k < M
        · have hjl : k < l.length := by rw [← HM.out]; omega
          obtain ⟨g, rfl⟩ := Hp.out (by omega)
          have hlvM := Hlv.out
          rw [show M = l.length from HM.out] at hlvM
          obtain ⟨c0, -, c2⟩ := own_cell hlvM k hjl
          obtain ⟨ei, hei⟩ : ∃ ei, ei = l[k].i := ⟨_, rfl⟩
          obtain ⟨et, hejt⟩ : ∃ et, et = l[k].t := ⟨_, rfl⟩
          rw [← hei] at c0
          rw [← hejt] at c2
          have hkM' : (k : Int) < (M : Int) := by omega
          have hkb : ((k : Int) == (M : Int)) = false := by simp; omega
          by_cases hq : (ei : Int) = (ix : Int)
          · have hqb : ((ei : Int) != (ix : Int)) = false := by simpa using hq
            have hqi : (l[k].i : Int) = ix := by rw [← hei]; exact hq
            clear hei hq
            cases on with
            | true =>
              have hgn := Hen1.out _ (by rw [← Hk2.out, List.getElem?_eq_getElem hjl]) hqi
              have hok := Hok0.out 0 (by omega) hgn
              have hbs := Hbs0.out 0 (by omega) hgn
              have hs0 := Hs0.out 0 (by omega) hgn
              rw [← Hl2.out] at hok hbs
              have hmk : markE l ix 0 true = l.modify k fun e => ⟨e.i, e.v, markT e.t 0 true⟩ := by unfold markE; rw [← Hk2.out]
              rw [hmk] at hok hbs
              have hst := (hlvM.stored (k * 3 + 2) (.int .i64 (markT et 0 true))).1
              have hset := enCells_mark l k (fun t => markT t 0 true) hjl
              rw [← hejt] at hset
              rw [hset] at hst
              have hlm : l.length = (l.modify k fun e => (⟨e.i, e.v, markT e.t 0 true⟩ : En)).length := by rw [List.length_modify]
              rw [hlm] at hst
              have hbd := Build_spec hst hok
              rw [hbs] at hbd
              have hfz : wc.frozen? ⟨g, k * 3 + 2, none⟩ = false := hlvM.frozenAt _
              have hglt := (hlvM.lt g rfl).1
              have hgB3 : (wc.setCell ⟨g, k * 3 + 2, none⟩ (.int .i64 (markT et 0 true))).heap[B + 1]? = some (.cells emptyCells 28 (0, 0)) := (Below.heap_setCell _ _ _ _ (show B + 1 ≠ g by omega)).trans HgB2.out
              have hb3 : Below w.heap.size w (wc.setCell ⟨g, k * 3 + 2, none⟩ (.int .i64 (markT et 0 true))) := Hb2.out.setCell (p := ⟨g, k * 3 + 2, none⟩) (by show w.heap.size ≤ g; have := HB.out; omega) _
              have hs3 : B + 2 ≤ (wc.setCell ⟨g, k * 3 + 2, none⟩ (.int .i64 (markT et 0 true))).heap.size := by simp only [World.setCell, Array.size_modify]; exact hszc
              have hmt : markT et 0 true = bits .or .i64 et 1 := by rfl
              rw [hmt] at hbd hgB3 hb3 hs3
              rw [← hlm, ← HM.out] at hbd
              have Hbd := Lib.hid hbd
              have HgB3 := Lib.hid hgB3
              have Hb3 := Lib.hid hb3
              have Hs3 := Lib.hid hs3
              have Hs0' := Lib.hid hs0
              have hlvM' := Lib.hid hlvM
              clear hgn hok hbs hs0 hmk hst hset hlm hbd hgB3 hb3 hs3 hmt hlvM hejt hglt
              go_wp2_with fail
              (with_reducible refine Hbd.out.mono ?_)
              rintro e wi ⟨⟨c', rfl, hO⟩, hBi⟩
              have hg : wi.heap[B + 1]? = some (.cells emptyCells 28 (0, 0)) := (hBi.block (B + 1) (by have := Hs3.out; omega)).trans HgB3.out
              have hbf : Below w.heap.size w (wi.setRow (B + 1) c') := Below.putRow (Hb3.out.trans (hBi.mono Hb3.out.size)) (by have := HB.out; omega) _
              have hsz := hO.size
              have hpo := HP.out (.returned (.tuple #[.agg c', .int .i64 0])) _ ⟨⟨c', by rw [show (r.mark (ix : Int) 0 true).2 = 0 from Hs0'.out], (hO.put (b := B + 1) (by have := Hs3.out; omega) c').mono (by have := HB.out; have := Hs3.out; omega)⟩, hbf⟩
              have Hpo := Lib.hid hpo
              have Hg := Lib.hid hg
              have Hone := Lib.hid hO.one
              have Hs12 := Lib.hid hsz
              have Hsz : Hid ((Try.prog.info? 28).map (·.size) = some c'.size) := Lib.hid (by rw [hsz]; exact size28)
              have Hes : Hid (emptyCells.size = c'.size) := Lib.hid (by rw [hsz]; rfl)
              clear hpo hg hbf hsz hO hBi
              go_wp2_with (first
                | (refine wpList_store_row (by rfl) 28 (.tmp 8) (.tmp 74) (by rfl) (B + 1) c' (by rfl) (by rfl) 28 _ (by with_reducible exact Hg.out) (by with_reducible exact Hsz.out) (by with_reducible exact Hes.out) (by with_reducible exact Hone.out) ?_))
              exact bodyPost_ret (results_cell_tmp (p := 8) (q := 9) rfl _ _ (B + 1) _ rfl (load28 (setRow_heap _ _ _ _ _ _ Hg.out) Hs12.out)) rfl Hpo.out
            | false =>
              have hgn := Hen1.out _ (by rw [← Hk2.out, List.getElem?_eq_getElem hjl]) hqi
              have hok := Hok0.out 0 (by omega) hgn
              have hbs := Hbs0.out 0 (by omega) hgn
              have hs0 := Hs0.out 0 (by omega) hgn
              rw [← Hl2.out] at hok hbs
              have hmk : markE l ix 0 false = l.modify k fun e => ⟨e.i, e.v, markT e.t 0 false⟩ := by unfold markE; rw [← Hk2.out]
              rw [hmk] at hok hbs
              have hst := (hlvM.stored (k * 3 + 2) (.int .i64 (markT et 0 false))).1
              have hset := enCells_mark l k (fun t => markT t 0 false) hjl
              rw [← hejt] at hset
              rw [hset] at hst
              have hlm : l.length = (l.modify k fun e => (⟨e.i, e.v, markT e.t 0 false⟩ : En)).length := by rw [List.length_modify]
              rw [hlm] at hst
              have hbd := Build_spec hst hok
              rw [hbs] at hbd
              have hfz : wc.frozen? ⟨g, k * 3 + 2, none⟩ = false := hlvM.frozenAt _
              have hglt := (hlvM.lt g rfl).1
              have hgB3 : (wc.setCell ⟨g, k * 3 + 2, none⟩ (.int .i64 (markT et 0 false))).heap[B + 1]? = some (.cells emptyCells 28 (0, 0)) := (Below.heap_setCell _ _ _ _ (show B + 1 ≠ g by omega)).trans HgB2.out
              have hb3 : Below w.heap.size w (wc.setCell ⟨g, k * 3 + 2, none⟩ (.int .i64 (markT et 0 false))) := Hb2.out.setCell (p := ⟨g, k * 3 + 2, none⟩) (by show w.heap.size ≤ g; have := HB.out; omega) _
              have hs3 : B + 2 ≤ (wc.setCell ⟨g, k * 3 + 2, none⟩ (.int .i64 (markT et 0 false))).heap.size := by simp only [World.setCell, Array.size_modify]; exact hszc
              have hmt : markT et 0 false = bits .andNot .i64 et 1 := by rfl
              rw [hmt] at hbd hgB3 hb3 hs3
              rw [← hlm, ← HM.out] at hbd
              have Hbd := Lib.hid hbd
              have HgB3 := Lib.hid hgB3
              have Hb3 := Lib.hid hb3
              have Hs3 := Lib.hid hs3
              have Hs0' := Lib.hid hs0
              have hlvM' := Lib.hid hlvM
              clear hgn hok hbs hs0 hmk hst hset hlm hbd hgB3 hb3 hs3 hmt hlvM hejt hglt
              go_wp2_with fail
              (with_reducible refine Hbd.out.mono ?_)
              rintro e wi ⟨⟨c', rfl, hO⟩, hBi⟩
              have hg : wi.heap[B + 1]? = some (.cells emptyCells 28 (0, 0)) := (hBi.block (B + 1) (by have := Hs3.out; omega)).trans HgB3.out
              have hbf : Below w.heap.size w (wi.setRow (B + 1) c') := Below.putRow (Hb3.out.trans (hBi.mono Hb3.out.size)) (by have := HB.out; omega) _
              have hsz := hO.size
              have hpo := HP.out (.returned (.tuple #[.agg c', .int .i64 0])) _ ⟨⟨c', by rw [show (r.mark (ix : Int) 0 false).2 = 0 from Hs0'.out], (hO.put (b := B + 1) (by have := Hs3.out; omega) c').mono (by have := HB.out; have := Hs3.out; omega)⟩, hbf⟩
              have Hpo := Lib.hid hpo
              have Hg := Lib.hid hg
              have Hone := Lib.hid hO.one
              have Hs12 := Lib.hid hsz
              have Hsz : Hid ((Try.prog.info? 28).map (·.size) = some c'.size) := Lib.hid (by rw [hsz]; exact size28)
              have Hes : Hid (emptyCells.size = c'.size) := Lib.hid (by rw [hsz]; rfl)
              clear hpo hg hbf hsz hO hBi
              go_wp2_with (first
                | (refine wpList_store_row (by rfl) 28 (.tmp 8) (.tmp 74) (by rfl) (B + 1) c' (by rfl) (by rfl) 28 _ (by with_reducible exact Hg.out) (by with_reducible exact Hsz.out) (by with_reducible exact Hes.out) (by with_reducible exact Hone.out) ?_))
              exact bodyPost_ret (results_cell_tmp (p := 8) (q := 9) rfl _ _ (B + 1) _ rfl (load28 (setRow_heap _ _ _ _ _ _ Hg.out) Hs12.out)) rfl Hpo.out
          · have hqb : ((ei : Int) != (ix : Int)) = true := by simpa using hq
            have hqi : ¬ (l[k].i : Int) = ix := by rw [← hei]; exact hq
            have hg0 := Hen0.out (.inr ⟨l[k], by rw [← Hk2.out, List.getElem?_eq_getElem hjl], hqi⟩)
            have hme : r.mark (ix : Int) 0 on = (Rx.empty, 6) := by
              unfold Rx.mark
              rw [if_neg (by simp [Hfine.out.2]), if_neg (by omega), if_neg (by omega), if_pos hg0]
            rw [hme] at HP
            clear hme hg0 hei hejt hlvM hqi hq
            go_wp2_with (first | (refine wpList_store_row (by rfl) 28 (.tmp 8) (.tmp 45) (by rfl) (B + 1) emptyCells (by rfl) (by rfl) 28 _ (by with_reducible exact HgB2.out) hsz28 (by rfl) hone ?_))
            exact bodyPost_ret (results_cell_tmp rfl _ _ (B + 1) _ rfl (load28 (setRow_heap _ _ _ _ _ _ HgB2.out) rfl)) rfl (HP.out _ _ ⟨⟨_, rfl, ownR_empty _ _⟩, Below.putRow Hb2.out (by have := HB.out; omega) _⟩)
        · have hkb : ((k : Int) == (M : Int)) = true := by simp; omega
          have hg0 := Hen0.out (.inl (by rw [← Hk2.out, List.getElem?_eq_none (by rw [← HM.out]; omega)]))
          have hme : r.mark (ix : Int) 0 on = (Rx.empty, 6) := by
            unfold Rx.mark
            rw [if_neg (by simp [Hfine.out.2]), if_neg (by omega), if_neg (by omega), if_pos hg0]
          rw [hme] at HP
          clear hme hg0
          go_wp2_with (first | (refine wpList_store_row (by rfl) 28 (.tmp 8) (.tmp 45) (by rfl) (B + 1) emptyCells (by rfl) (by rfl) 28 _ (by with_reducible exact HgB2.out) hsz28 (by rfl) hone ?_))
          exact bodyPost_ret (results_cell_tmp rfl _ _ (B + 1) _ rfl (load28 (setRow_heap _ _ _ _ _ _ HgB2.out) rfl)) rfl (HP.out _ _ ⟨⟨_, rfl, ownR_empty _ _⟩, Below.putRow Hb2.out (by have := HB.out; omega) _⟩)
      · go_wp2_with fail
        (with_reducible refine (Hen.out wb Hk.out).mono ?_)
        rintro e wc ⟨lv, rfl, hlv, hBc⟩
        have hszc : B + 2 ≤ wc.heap.size := Nat.le_trans hszb hBc.size
        have hgB := (hBc.block (B + 1) (by omega)).trans HgB.out
        have hb := Hb.out.trans (hBc.mono Hb.out.size)
        have hat := at_spec hlv Hlen.out (ix : Int) Hi.out
        obtain ⟨p, cp, rfl, hp⟩ := own_form hM hlv
        have hlv2 := ownsRow_mono hlv hszb
        have Hlv := Lib.hid hlv2
        have Hat := Lib.hid hat
        have HgB2 := Lib.hid hgB
        have Hb2 := Lib.hid hb
        have Hp := Lib.hid hp
        have HM := Lib.hid hM
        have hkM : k ≤ M := by rw [hM, hk]; exact atE_le l ix
        have hM30 : M ≤ 1073741824 := by rw [hM]; exact Hlen.out
        rw [← hk] at Hat
        have Hk2 := Lib.hid hk
        clear hlv hlv2 hBc hgB hb hat hp hM hk HgB Hb Hk hd0 hd1 hd2 hd3 hd4 hd5 hd6 hd7 hd8 hd9 hd10 hd11
        go_wp2_with fail
        (with_reducible refine Hat.out.mono ?_)
        rintro e wd ⟨rfl, rfl⟩
        by_cases hlt : k < M
        · have hjl : k < l.length := by rw [← HM.out]; omega
          obtain ⟨g, rfl⟩ := Hp.out (by omega)
          have hlvM := Hlv.out
          rw [show M = l.length from HM.out] at hlvM
          obtain ⟨c0, -, c2⟩ := own_cell hlvM k hjl
          obtain ⟨ei, hei⟩ : ∃ ei, ei = l[k].i := ⟨_, rfl⟩
          obtain ⟨et, hejt⟩ : ∃ et, et = l[k].t := ⟨_, rfl⟩
          rw [← hei] at c0
          rw [← hejt] at c2
          have hkM' : (k : Int) < (M : Int) := by omega
          have hkb : ((k : Int) == (M : Int)) = false := by simp; omega
          by_cases hq : (ei : Int) = (ix : Int)
          · have hqb : ((ei : Int) != (ix : Int)) = false := by simpa using hq
            have hqi : (l[k].i : Int) = ix := by rw [← hei]; exact hq
            clear hei hq
            cases on with
            | true =>
              have hgn := Hen1.out _ (by rw [← Hk2.out, List.getElem?_eq_getElem hjl]) hqi
              have hok := Hok0.out 1 (by omega) hgn
              have hbs := Hbs0.out 1 (by omega) hgn
              have hs0 := Hs0.out 1 (by omega) hgn
              rw [← Hl2.out] at hok hbs
              have hmk : markE l ix 1 true = l.modify k fun e => ⟨e.i, e.v, markT e.t 1 true⟩ := by unfold markE; rw [← Hk2.out]
              rw [hmk] at hok hbs
              have hst := (hlvM.stored (k * 3 + 2) (.int .i64 (markT et 1 true))).1
              have hset := enCells_mark l k (fun t => markT t 1 true) hjl
              rw [← hejt] at hset
              rw [hset] at hst
              have hlm : l.length = (l.modify k fun e => (⟨e.i, e.v, markT e.t 1 true⟩ : En)).length := by rw [List.length_modify]
              rw [hlm] at hst
              have hbd := Build_spec hst hok
              rw [hbs] at hbd
              have hfz : wc.frozen? ⟨g, k * 3 + 2, none⟩ = false := hlvM.frozenAt _
              have hglt := (hlvM.lt g rfl).1
              have hgB3 : (wc.setCell ⟨g, k * 3 + 2, none⟩ (.int .i64 (markT et 1 true))).heap[B + 1]? = some (.cells emptyCells 28 (0, 0)) := (Below.heap_setCell _ _ _ _ (show B + 1 ≠ g by omega)).trans HgB2.out
              have hb3 : Below w.heap.size w (wc.setCell ⟨g, k * 3 + 2, none⟩ (.int .i64 (markT et 1 true))) := Hb2.out.setCell (p := ⟨g, k * 3 + 2, none⟩) (by show w.heap.size ≤ g; have := HB.out; omega) _
              have hs3 : B + 2 ≤ (wc.setCell ⟨g, k * 3 + 2, none⟩ (.int .i64 (markT et 1 true))).heap.size := by simp only [World.setCell, Array.size_modify]; exact hszc
              have hmt : markT et 1 true = bits .or .i64 et 2 := by rfl
              rw [hmt] at hbd hgB3 hb3 hs3
              rw [← hlm, ← HM.out] at hbd
              have Hbd := Lib.hid hbd
              have HgB3 := Lib.hid hgB3
              have Hb3 := Lib.hid hb3
              have Hs3 := Lib.hid hs3
              have Hs0' := Lib.hid hs0
              have hlvM' := Lib.hid hlvM
              clear hgn hok hbs hs0 hmk hst hset hlm hbd hgB3 hb3 hs3 hmt hlvM hejt hglt
              go_wp2_with fail
              (with_reducible refine Hbd.out.mono ?_)
              rintro e wi ⟨⟨c', rfl, hO⟩, hBi⟩
              have hg : wi.heap[B + 1]? = some (.cells emptyCells 28 (0, 0)) := (hBi.block (B + 1) (by have := Hs3.out; omega)).trans HgB3.out
              have hbf : Below w.heap.size w (wi.setRow (B + 1) c') := Below.putRow (Hb3.out.trans (hBi.mono Hb3.out.size)) (by have := HB.out; omega) _
              have hsz := hO.size
              have hpo := HP.out (.returned (.tuple #[.agg c', .int .i64 0])) _ ⟨⟨c', by rw [show (r.mark (ix : Int) 1 true).2 = 0 from Hs0'.out], (hO.put (b := B + 1) (by have := Hs3.out; omega) c').mono (by have := HB.out; have := Hs3.out; omega)⟩, hbf⟩
              have Hpo := Lib.hid hpo
              have Hg := Lib.hid hg
              have Hone := Lib.hid hO.one
              have Hs12 := Lib.hid hsz
              have Hsz : Hid ((Try.prog.info? 28).map (·.size) = some c'.size) := Lib.hid (by rw [hsz]; exact size28)
              have Hes : Hid (emptyCells.size = c'.size) := Lib.hid (by rw [hsz]; rfl)
              clear hpo hg hbf hsz hO hBi
              go_wp2_with (first
                | (refine wpList_store_row (by rfl) 28 (.tmp 8) (.tmp 74) (by rfl) (B + 1) c' (by rfl) (by rfl) 28 _ (by with_reducible exact Hg.out) (by with_reducible exact Hsz.out) (by with_reducible exact Hes.out) (by with_reducible exact Hone.out) ?_))
              exact bodyPost_ret (results_cell_tmp (p := 8) (q := 9) rfl _ _ (B + 1) _ rfl (load28 (setRow_heap _ _ _ _ _ _ Hg.out) Hs12.out)) rfl Hpo.out
            | false =>
              have hgn := Hen1.out _ (by rw [← Hk2.out, List.getElem?_eq_getElem hjl]) hqi
              have hok := Hok0.out 1 (by omega) hgn
              have hbs := Hbs0.out 1 (by omega) hgn
              have hs0 := Hs0.out 1 (by omega) hgn
              rw [← Hl2.out] at hok hbs
              have hmk : markE l ix 1 false = l.modify k fun e => ⟨e.i, e.v, markT e.t 1 false⟩ := by unfold markE; rw [← Hk2.out]
              rw [hmk] at hok hbs
              have hst := (hlvM.stored (k * 3 + 2) (.int .i64 (markT et 1 false))).1
              have hset := enCells_mark l k (fun t => markT t 1 false) hjl
              rw [← hejt] at hset
              rw [hset] at hst
              have hlm : l.length = (l.modify k fun e => (⟨e.i, e.v, markT e.t 1 false⟩ : En)).length := by rw [List.length_modify]
              rw [hlm] at hst
              have hbd := Build_spec hst hok
              rw [hbs] at hbd
              have hfz : wc.frozen? ⟨g, k * 3 + 2, none⟩ = false := hlvM.frozenAt _
              have hglt := (hlvM.lt g rfl).1
              have hgB3 : (wc.setCell ⟨g, k * 3 + 2, none⟩ (.int .i64 (markT et 1 false))).heap[B + 1]? = some (.cells emptyCells 28 (0, 0)) := (Below.heap_setCell _ _ _ _ (show B + 1 ≠ g by omega)).trans HgB2.out
              have hb3 : Below w.heap.size w (wc.setCell ⟨g, k * 3 + 2, none⟩ (.int .i64 (markT et 1 false))) := Hb2.out.setCell (p := ⟨g, k * 3 + 2, none⟩) (by show w.heap.size ≤ g; have := HB.out; omega) _
              have hs3 : B + 2 ≤ (wc.setCell ⟨g, k * 3 + 2, none⟩ (.int .i64 (markT et 1 false))).heap.size := by simp only [World.setCell, Array.size_modify]; exact hszc
              have hmt : markT et 1 false = bits .andNot .i64 et 2 := by rfl
              rw [hmt] at hbd hgB3 hb3 hs3
              rw [← hlm, ← HM.out] at hbd
              have Hbd := Lib.hid hbd
              have HgB3 := Lib.hid hgB3
              have Hb3 := Lib.hid hb3
              have Hs3 := Lib.hid hs3
              have Hs0' := Lib.hid hs0
              have hlvM' := Lib.hid hlvM
              clear hgn hok hbs hs0 hmk hst hset hlm hbd hgB3 hb3 hs3 hmt hlvM hejt hglt
              go_wp2_with fail
              (with_reducible refine Hbd.out.mono ?_)
              rintro e wi ⟨⟨c', rfl, hO⟩, hBi⟩
              have hg : wi.heap[B + 1]? = some (.cells emptyCells 28 (0, 0)) := (hBi.block (B + 1) (by have := Hs3.out; omega)).trans HgB3.out
              have hbf : Below w.heap.size w (wi.setRow (B + 1) c') := Below.putRow (Hb3.out.trans (hBi.mono Hb3.out.size)) (by have := HB.out; omega) _
              have hsz := hO.size
              have hpo := HP.out (.returned (.tuple #[.agg c', .int .i64 0])) _ ⟨⟨c', by rw [show (r.mark (ix : Int) 1 false).2 = 0 from Hs0'.out], (hO.put (b := B + 1) (by have := Hs3.out; omega) c').mono (by have := HB.out; have := Hs3.out; omega)⟩, hbf⟩
              have Hpo := Lib.hid hpo
              have Hg := Lib.hid hg
              have Hone := Lib.hid hO.one
              have Hs12 := Lib.hid hsz
              have Hsz : Hid ((Try.prog.info? 28).map (·.size) = some c'.size) := Lib.hid (by rw [hsz]; exact size28)
              have Hes : Hid (emptyCells.size = c'.size) := Lib.hid (by rw [hsz]; rfl)
              clear hpo hg hbf hsz hO hBi
              go_wp2_with (first
                | (refine wpList_store_row (by rfl) 28 (.tmp 8) (.tmp 74) (by rfl) (B + 1) c' (by rfl) (by rfl) 28 _ (by with_reducible exact Hg.out) (by with_reducible exact Hsz.out) (by with_reducible exact Hes.out) (by with_reducible exact Hone.out) ?_))
              exact bodyPost_ret (results_cell_tmp (p := 8) (q := 9) rfl _ _ (B + 1) _ rfl (load28 (setRow_heap _ _ _ _ _ _ Hg.out) Hs12.out)) rfl Hpo.out
          · have hqb : ((ei : Int) != (ix : Int)) = true := by simpa using hq
            have hqi : ¬ (l[k].i : Int) = ix := by rw [← hei]; exact hq
            have hg0 := Hen0.out (.inr ⟨l[k], by rw [← Hk2.out, List.getElem?_eq_getElem hjl], hqi⟩)
            have hme : r.mark (ix : Int) 1 on = (Rx.empty, 6) := by
              unfold Rx.mark
              rw [if_neg (by simp [Hfine.out.2]), if_neg (by omega), if_neg (by omega), if_pos hg0]
            rw [hme] at HP
            clear hme hg0 hei hejt hlvM hqi hq
            go_wp2_with (first | (refine wpList_store_row (by rfl) 28 (.tmp 8) (.tmp 45) (by rfl) (B + 1) emptyCells (by rfl) (by rfl) 28 _ (by with_reducible exact HgB2.out) hsz28 (by rfl) hone ?_))
            exact bodyPost_ret (results_cell_tmp rfl _ _ (B + 1) _ rfl (load28 (setRow_heap _ _ _ _ _ _ HgB2.out) rfl)) rfl (HP.out _ _ ⟨⟨_, rfl, ownR_empty _ _⟩, Below.putRow Hb2.out (by have := HB.out; omega) _⟩)
        · have hkb : ((k : Int) == (M : Int)) = true := by simp; omega
          have hg0 := Hen0.out (.inl (by rw [← Hk2.out, List.getElem?_eq_none (by rw [← HM.out]; omega)]))
          have hme : r.mark (ix : Int) 1 on = (Rx.empty, 6) := by
            unfold Rx.mark
            rw [if_neg (by simp [Hfine.out.2]), if_neg (by omega), if_neg (by omega), if_pos hg0]
          rw [hme] at HP
          clear hme hg0
          go_wp2_with (first | (refine wpList_store_row (by rfl) 28 (.tmp 8) (.tmp 45) (by rfl) (B + 1) emptyCells (by rfl) (by rfl) 28 _ (by with_reducible exact HgB2.out) hsz28 (by rfl) hone ?_))
          exact bodyPost_ret (results_cell_tmp rfl _ _ (B + 1) _ rfl (load28 (setRow_heap _ _ _ _ _ _ HgB2.out) rfl)) rfl (HP.out _ _ ⟨⟨_, rfl, ownR_empty _ _⟩, Below.putRow Hb2.out (by have := HB.out; omega) _⟩)
    · have h0 : (tag != 0) = true := by simp; exact fun q => htag (.inl q)
      have h1 : (tag != 1) = true := by simp; exact fun q => htag (.inr q)
      have hme : r.mark (ix : Int) tag on = (Rx.empty, 1) := by
        unfold Rx.mark
        rw [if_neg (by simp [hfine.2]), if_neg (by omega), if_pos (by omega)]
      rw [hme] at HP
      clear hme htag hfine
      go_wp2_with (first | (refine wpList_store_row (by rfl) 28 (.tmp 8) (.tmp 26) (by rfl) (B + 1) emptyCells (by rfl) (by rfl) 28 _ (by with_reducible exact HgB.out) hsz28 (by rfl) hone ?_))
      exact bodyPost_ret (results_cell_tmp rfl _ _ (B + 1) _ rfl (load28 (setRow_heap _ _ _ _ _ _ HgB.out) rfl)) rfl (HP.out _ _ ⟨⟨_, rfl, ownR_empty _ _⟩, Below.putRow Hb.out (by have := HB.out; omega) _⟩)
  · have hbad : r.check ≠ 0 ∨ i < 0 ∨ 1073741824 ≤ i := by
      have := Her.out
      by_cases q : r.check ≠ 0
      · exact .inl q
      · rw [if_neg q] at this
        by_cases p : i < 0 ∨ 1073741824 ≤ i
        · exact .inr p
        · rw [if_neg p] at this; exact absurd this he0
    have hse := rmark_err (tag := tag) (on := on) hbad
    have her2 : (if r.check ≠ 0 then r.check else 2) = er := by
      rw [Her.out]
      by_cases q : r.check ≠ 0
      · rw [if_pos q, if_pos q]
      · rw [if_neg q, if_neg q, if_pos (hbad.resolve_left q)]
    rw [her2] at hse
    rw [hse] at HP
    have heb : (er != 0) = true := by simpa using he0
    clear hbad hse her2 he0
    go_wp2_with (first | (refine wpList_store_row (by rfl) 28 (.tmp 8) (.tmp 18) (by rfl) (B + 1) emptyCells (by rfl) (by rfl) 28 _ (by with_reducible exact HgB.out) hsz28 (by rfl) hone ?_))
    exact bodyPost_ret (results_cell_tmp rfl _ _ (B + 1) _ rfl (load28 (setRow_heap _ _ _ _ _ _ HgB.out) rfl)) rfl (HP.out _ _ ⟨⟨_, rfl, ownR_empty _ _⟩, Below.putRow Hb.out (by have := HB.out; omega) _⟩)
end Go.Proofs.Ytmdmbnpgdkmklaa

/-! The reference's Tag and Untag: they answer as the tree's own. -/
namespace Go.Proofs.Ytmdmbnpgdkmklaa
open Go.RowKit
set_option linter.unusedVariables false
set_option linter.unusedSimpArgs false
set_option maxRecDepth 100000 in
set_option maxHeartbeats 4000000 in
theorem RTag_spec {w : World} {r : Rx} {c : Array Value} {i tag : Int} (h : IsR w r c) (hi : inI64 i) (ht : inI64 tag) :
    Calls Try.prog 37 #[.agg c, .int .i64 i, .int .i64 tag] w (RPost w (r.mark i tag true)) := by
  obtain ⟨post, hpost⟩ : ∃ post, post = RPost w (r.mark i tag true) := ⟨_, rfl⟩
  have HP : Hid (∀ e W', RPost w (r.mark i tag true) e W' → post e W') := Lib.hid (by rw [hpost]; exact fun e W' a => a)
  rw [← hpost]
  have hm := fun (W : World) (k : Keeps w W) => RMark_spec (on := true) (h.keeps k) hi ht
  obtain ⟨hh, nc, rfl, hn0⟩ := h
  obtain ⟨x0, x1, x2, x3, x4, x5, x6, x7, xp, xl, xc, rfl⟩ := hn0.lit
  simp only [List.append_toArray, List.cons_append, List.nil_append] at hm ⊢
  have Hm := Lib.hid hm
  have Hb := Lib.hid (boxes2 w (.cells #[.int .i64 r.h, .int .i64 x0, .int .i64 x1, .int .i64 x2, .int .i64 x3, .int .i64 x4, .int .i64 x5, .int .i64 x6, .int .i64 x7, .int .i64 r.root.t0, .int .i64 r.root.t1, .slice xp xl xc] 28) (.cells emptyCells 28))
  obtain ⟨res, hres⟩ : ∃ res, res = r.mark i tag true := ⟨_, rfl⟩
  rw [← hres] at Hm HP
  clear hm hn0 hh hi ht hpost hres
  go_enter Try.func37, Try.ntmps37
  go_wp2_with fail
  (with_reducible refine (Hm.out _ ((Keeps.alloc _ _).trans (Keeps.alloc _ _))).mono ?_)
  rintro e w2 ⟨⟨c', rfl, hO⟩, hB2⟩
  have hz := Hb.out.2.1
  have hg : w2.heap[w.heap.size + 1]? = some (.cells emptyCells 28 (0, 0)) := (hB2.block (w.heap.size + 1) (by simp)).trans Hb.out.2.2
  have hbf : Below w.heap.size w (w2.setRow (w.heap.size + 1) c') := Below.putRow (Hb.out.1.trans (hB2.mono (by simp; omega))) (by omega) _
  have hsz := hO.size
  have hpost := HP.out (.returned (.tuple #[.agg c', .int .i64 res.2])) _ ⟨⟨c', rfl, (hO.put (b := w.heap.size + 1) (by simp) c').mono (by simp; omega)⟩, hbf⟩
  have Hpost := Lib.hid hpost
  have Hg := Lib.hid hg
  have Hone := Lib.hid hO.one
  have Hs12 := Lib.hid hsz
  have Hsz : Hid ((Try.prog.info? 28).map (·.size) = some c'.size) := Lib.hid (by rw [hsz]; exact size28)
  have Hes : Hid (emptyCells.size = c'.size) := Lib.hid (by rw [hsz]; rfl)
  clear hpost hg hbf hsz hO hB2
  go_wp2_with (first
    | (refine wpList_store_row (by rfl) 28 (.tmp 6) (.tmp 12) (by rfl) (w.heap.size + 1) c' (by rfl) (by rfl) 28 _ (by with_reducible exact Hg.out) (by with_reducible exact Hsz.out) (by with_reducible exact Hes.out) (by with_reducible exact Hone.out) ?_))
  exact bodyPost_ret (results_cell_tmp (p := 6) (q := 7) rfl _ _ (w.heap.size + 1) _ rfl (load28 (setRow_heap _ _ _ _ _ _ Hg.out) Hs12.out)) rfl Hpost.out
set_option maxRecDepth 100000 in
set_option maxHeartbeats 4000000 in
theorem RUntag_spec {w : World} {r : Rx} {c : Array Value} {i tag : Int} (h : IsR w r c) (hi : inI64 i) (ht : inI64 tag) :
    Calls Try.prog 39 #[.agg c, .int .i64 i, .int .i64 tag] w (RPost w (r.mark i tag false)) := by
  obtain ⟨post, hpost⟩ : ∃ post, post = RPost w (r.mark i tag false) := ⟨_, rfl⟩
  have HP : Hid (∀ e W', RPost w (r.mark i tag false) e W' → post e W') := Lib.hid (by rw [hpost]; exact fun e W' a => a)
  rw [← hpost]
  have hm := fun (W : World) (k : Keeps w W) => RMark_spec (on := false) (h.keeps k) hi ht
  obtain ⟨hh, nc, rfl, hn0⟩ := h
  obtain ⟨x0, x1, x2, x3, x4, x5, x6, x7, xp, xl, xc, rfl⟩ := hn0.lit
  simp only [List.append_toArray, List.cons_append, List.nil_append] at hm ⊢
  have Hm := Lib.hid hm
  have Hb := Lib.hid (boxes2 w (.cells #[.int .i64 r.h, .int .i64 x0, .int .i64 x1, .int .i64 x2, .int .i64 x3, .int .i64 x4, .int .i64 x5, .int .i64 x6, .int .i64 x7, .int .i64 r.root.t0, .int .i64 r.root.t1, .slice xp xl xc] 28) (.cells emptyCells 28))
  obtain ⟨res, hres⟩ : ∃ res, res = r.mark i tag false := ⟨_, rfl⟩
  rw [← hres] at Hm HP
  clear hm hn0 hh hi ht hpost hres
  go_enter Try.func39, Try.ntmps39
  go_wp2_with fail
  (with_reducible refine (Hm.out _ ((Keeps.alloc _ _).trans (Keeps.alloc _ _))).mono ?_)
  rintro e w2 ⟨⟨c', rfl, hO⟩, hB2⟩
  have hz := Hb.out.2.1
  have hg : w2.heap[w.heap.size + 1]? = some (.cells emptyCells 28 (0, 0)) := (hB2.block (w.heap.size + 1) (by simp)).trans Hb.out.2.2
  have hbf : Below w.heap.size w (w2.setRow (w.heap.size + 1) c') := Below.putRow (Hb.out.1.trans (hB2.mono (by simp; omega))) (by omega) _
  have hsz := hO.size
  have hpost := HP.out (.returned (.tuple #[.agg c', .int .i64 res.2])) _ ⟨⟨c', rfl, (hO.put (b := w.heap.size + 1) (by simp) c').mono (by simp; omega)⟩, hbf⟩
  have Hpost := Lib.hid hpost
  have Hg := Lib.hid hg
  have Hone := Lib.hid hO.one
  have Hs12 := Lib.hid hsz
  have Hsz : Hid ((Try.prog.info? 28).map (·.size) = some c'.size) := Lib.hid (by rw [hsz]; exact size28)
  have Hes : Hid (emptyCells.size = c'.size) := Lib.hid (by rw [hsz]; rfl)
  clear hpost hg hbf hsz hO hB2
  go_wp2_with (first
    | (refine wpList_store_row (by rfl) 28 (.tmp 6) (.tmp 12) (by rfl) (w.heap.size + 1) c' (by rfl) (by rfl) 28 _ (by with_reducible exact Hg.out) (by with_reducible exact Hsz.out) (by with_reducible exact Hes.out) (by with_reducible exact Hone.out) ?_))
  exact bodyPost_ret (results_cell_tmp (p := 6) (q := 7) rfl _ _ (w.heap.size + 1) _ rfl (load28 (setRow_heap _ _ _ _ _ _ Hg.out) Hs12.out)) rfl Hpost.out
end Go.Proofs.Ytmdmbnpgdkmklaa
