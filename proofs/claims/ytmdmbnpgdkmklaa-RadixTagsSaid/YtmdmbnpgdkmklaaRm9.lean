/- RadixWalk, the law's own walk. -/
import Derived.Test.YtmdmbnpgdkmklaaRm8
import Derived.Test.YtmdmbnpgdkmklaaRm4
namespace Go.Proofs.Ytmdmbnpgdkmklaa
open Go.RowKit
set_option linter.unusedVariables false
set_option linter.unusedSimpArgs false

theorem IsR.fine {w : World} {r : Rx} {c : Array Value} (h : IsR w r c) : r.check = 0 → r.fine := fun hc => by
  obtain ⟨_, nc, _, hn⟩ := h
  exact ⟨hn.wf, hc⟩

theorem tagged_ent {r : Rx} {tag : Int} {e : En} (hr : r.check = 0 → r.fine) (he : e ∈ r.entsT tag) (ht : 0 ≤ tag) : r.tagged e.i tag = true := by
  obtain ⟨hf, hi, hg, hv, htg, _, ht1, hsel⟩ := entsT_fine tag e hr he
  have hlk := get_look hf hi
  rw [hg] at hlk
  obtain ⟨H, hH, hH10, _, hok, _⟩ := fine_parts hf
  -- the leaf of the entry
  have hget : r.get e.i ≠ 0 := by rw [hg]; exact hv
  unfold Rx.get at hget
  unfold Rx.tagged
  cases hq : r.leafOf (e.i : Int) with
  | none => rw [hq] at hget; exact absurd rfl hget
  | some n =>
    rw [hq] at hget
    simp only [Int.toNat_natCast] at hget ⊢
    have hl : r.look e.i = leafEnt n (dig e.i 0) := by
      have h2 := hq
      unfold Rx.leafOf at h2
      split at h2
      · cases h2
      · rename_i hno
        rw [hH, Int.toNat_natCast, Int.toNat_natCast] at h2
        have hpos : H ≠ 0 := fun z => hno (.inr (.inr (.inr (.inr (by omega)))))
        have hlt : ¬ 8 ^ H ≤ e.i := fun z => hno (.inr (.inr (.inr (.inl (by
          rw [hH, Int.toNat_natCast]
          have e2 : (2 : Int) ^ (3 * H) = ((8 ^ H : Nat) : Int) := by
            rw [show (8 : Nat) = 2 ^ 3 by rfl, ← Nat.pow_mul]; simp
          rw [e2, ← Int.natCast_ediv, Int.natCast_pos]
          exact Nat.div_pos z (Nat.pow_pos (by omega)))))))
        unfold Rx.look lookH
        rw [hH, Int.toNat_natCast, if_neg (by omega)]
        clear hno hget hH hok htg hlk hq
        generalize H - 1 = l at h2 ⊢
        generalize r.root = nd at h2 ⊢
        induction l generalizing nd with
        | zero => simp only [Nd.leafAt, Option.some.injEq] at h2; subst h2; rfl
        | succ l ih =>
          simp only [Nd.leafAt] at h2
          split at h2
          · cases h2
          · rw [Nd.look]; exact ih _ h2
    have h01 : tag = 0 ∨ tag = 1 := by omega
    unfold selT at hsel
    rw [htg, hl] at hsel
    unfold tagsOf leafEnt at hsel
    have hd : decide (tag < 0) = false := by simp; omega
    rw [hd, Bool.false_or, and1] at hsel
    have hvv : (n.vs.getD (dig e.i 0) 0 != 0) = true := by rw [bne_iff_ne]; exact hget
    rw [hvv]
    rcases h01 with rfl | rfl
    · simp only [Int.toNat_zero, Int.pow_zero, Int.ediv_one] at hsel
      rw [if_pos rfl]
      cases h0 : tb n.t0 (dig e.i 0) <;> cases h1 : tb n.t1 (dig e.i 0) <;> simp [h0, h1] at hsel ⊢
    · rw [if_neg (by omega)]
      cases h0 : tb n.t0 (dig e.i 0) <;> cases h1 : tb n.t1 (dig e.i 0) <;> simp [h0, h1] at hsel ⊢

set_option maxRecDepth 100000 in
set_option maxHeartbeats 8000000 in
theorem law9_spec {w : World} {r : Rx} {c : Array Value} {tag : Int} (h : IsR w r c) (ht : inI64 tag) :
    Calls Try.prog 9 #[.agg c, .int .i64 tag] w fun e w' => e = .returned (.bool true) ∧ Below w.heap.size w w' := by
  obtain ⟨post, hpost⟩ : ∃ post : Ending → World → Prop, post = fun e w' => e = .returned (.bool true) ∧ Below w.heap.size w w' := ⟨_, rfl⟩
  have HP : Hid (∀ W', Below w.heap.size w W' → post (.returned (.bool true)) W') := Lib.hid (by rw [hpost]; exact fun W' a => ⟨rfl, a⟩)
  rw [← hpost]
  have hfine := h.fine
  have hfw := fun (W : World) (k : Keeps w W) => Few_spec (h.keeps k)
  have hnx := fun (W : World) (k : Keeps w W) (f : Int) (hf : inI64 f) => Next_spec (h.keeps k) f tag hf ht
  have hgt := fun (W : World) (k : Keeps w W) (i : Int) (hi : inI64 i) => Get_spec (h.keeps k) hi
  have htd := fun (W : World) (k : Keeps w W) (i : Int) (hi : inI64 i) => Tagged_spec (h.keeps k) hi ht
  have hct := fun (W : World) (k : Keeps w W) => Count_spec (h.keeps k) tag ht
  obtain ⟨hh, nc, rfl, hn0⟩ := h
  obtain ⟨x0, x1, x2, x3, x4, x5, x6, x7, xp, xl, xc, rfl⟩ := hn0.lit
  simp only [List.append_toArray, List.cons_append, List.nil_append] at hfw hnx hgt htd hct ⊢
  obtain ⟨E, hE⟩ : ∃ E, E = r.entsT tag := ⟨_, rfl⟩
  have hct' : r.count tag = (E.length : Int) := by unfold Rx.count; rw [hE]
  have h3200 : r.root.few = true → E.length ≤ 3200 := fun q => by rw [hE]; exact entsT_few tag hfine q
  have hn1 : r.next 0 tag = ptE E 0 := by rw [hE]; exact next_first tag hfine
  have hn2 : ∀ k (hk : k < E.length), r.next ((E[k].i : Int) + 1) tag = ptE E (k + 1) := by rw [hE]; exact fun k hk => next_after tag hfine k hk
  have hel : ∀ k (hk : k < E.length), E[k].i < 1073741824 ∧ r.get E[k].i ≠ 0 ∧ (0 ≤ tag → r.tagged E[k].i tag = true) := fun k hk => by
    have hm : E[k] ∈ r.entsT tag := by rw [← hE]; exact List.getElem_mem _
    obtain ⟨_, q1, q2, q3, _⟩ := entsT_fine tag _ hfine hm
    exact ⟨q1, by rw [q2]; exact q3, fun q => tagged_ent hfine hm q⟩
  have hso : E.Pairwise (fun a b => a.i < b.i) := by rw [hE]; exact entsT_sorted tag hfine
  rw [hct'] at hct
  obtain ⟨fw, hfe⟩ : ∃ fw, fw = r.root.few := ⟨_, rfl⟩
  rw [← hfe] at hfw h3200
  have Hfw := Lib.hid hfw
  have Hnx := Lib.hid hnx
  have Hgt := Lib.hid hgt
  have Htd := Lib.hid htd
  have Hct := Lib.hid hct
  have H32 := Lib.hid h3200
  have Hn1 := Lib.hid hn1
  have Hn2 := Lib.hid hn2
  have Hel := Lib.hid hel
  have Hso := Lib.hid hso
  have Ht := Lib.hid ht
  unfold inI64 at ht
  obtain ⟨ht1, ht2⟩ := ht
  clear hfw hnx hgt htd hct h3200 hn1 hn2 hel hso hfe hct' hn0 hh hpost hE hfine
  have hg := heap_alloc_new w (.cells #[.int .i64 r.h, .int .i64 x0, .int .i64 x1, .int .i64 x2, .int .i64 x3, .int .i64 x4, .int .i64 x5, .int .i64 x6, .int .i64 x7, .int .i64 r.root.t0, .int .i64 r.root.t1, .slice xp xl xc] 28)
  have hk : Keeps w (w.alloc (.cells #[.int .i64 r.h, .int .i64 x0, .int .i64 x1, .int .i64 x2, .int .i64 x3, .int .i64 x4, .int .i64 x5, .int .i64 x6, .int .i64 x7, .int .i64 r.root.t0, .int .i64 r.root.t1, .slice xp xl xc] 28)) := Keeps.alloc _ _
  have hb : Below w.heap.size w (w.alloc (.cells #[.int .i64 r.h, .int .i64 x0, .int .i64 x1, .int .i64 x2, .int .i64 x3, .int .i64 x4, .int .i64 x5, .int .i64 x6, .int .i64 x7, .int .i64 r.root.t0, .int .i64 r.root.t1, .slice xp xl xc] 28)) := (Below.refl _ _).alloc (Nat.le_refl _) _
  go_enter Try.func9, Try.ntmps9
  go_wp2_with fail
  obtain ⟨B, hB⟩ : ∃ B, B = w.heap.size := ⟨_, rfl⟩
  rw [← hB] at hg ⊢
  have Hb := Lib.hid hb
  have Hk := Lib.hid hk
  clear hb hk hB
  generalize w.alloc (.cells #[.int .i64 r.h, .int .i64 x0, .int .i64 x1, .int .i64 x2, .int .i64 x3, .int .i64 x4, .int .i64 x5, .int .i64 x6, .int .i64 x7, .int .i64 r.root.t0, .int .i64 r.root.t1, .slice xp xl xc] 28) = wa at hg Hb Hk ⊢
  have hca := fun q => cell_of_row wa B q _ _ _ hg
  have hd0 : wa.cell? ⟨B, 0, none⟩ = some (.int .i64 r.h) := hca 0
  have hd1 : wa.cell? ⟨B, 1, none⟩ = some (.int .i64 x0) := hca 1
  have hd2 : wa.cell? ⟨B, 2, none⟩ = some (.int .i64 x1) := hca 2
  have hd3 : wa.cell? ⟨B, 3, none⟩ = some (.int .i64 x2) := hca 3
  have hd4 : wa.cell? ⟨B, 4, none⟩ = some (.int .i64 x3) := hca 4
  have hd5 : wa.cell? ⟨B, 5, none⟩ = some (.int .i64 x4) := hca 5
  have hd6 : wa.cell? ⟨B, 6, none⟩ = some (.int .i64 x5) := hca 6
  have hd7 : wa.cell? ⟨B, 7, none⟩ = some (.int .i64 x6) := hca 7
  have hd8 : wa.cell? ⟨B, 8, none⟩ = some (.int .i64 x7) := hca 8
  have hd9 : wa.cell? ⟨B, 9, none⟩ = some (.int .i64 r.root.t0) := hca 9
  have hd10 : wa.cell? ⟨B, 10, none⟩ = some (.int .i64 r.root.t1) := hca 10
  have hd11 : wa.cell? ⟨B, 11, none⟩ = some (.slice xp xl xc) := hca 11
  have Hg := Lib.hid hg
  clear hca hg
  (with_reducible refine (awake_spec wa).mono ?_)
  rintro e wb ⟨rfl, hBb⟩
  have hg := (hBb.block B (Array.getElem?_eq_some_iff.1 Hg.out).1).trans Hg.out
  have hk := Hk.out.trans (Keeps.of_below hBb)
  have hb := Hb.out.trans (hBb.mono Hb.out.size)
  clear hBb Hg Hk Hb hd0 hd1 hd2 hd3 hd4 hd5 hd6 hd7 hd8 hd9 hd10 hd11
  have hca := fun q => cell_of_row wb B q _ _ _ hg
  have hd0 : wb.cell? ⟨B, 0, none⟩ = some (.int .i64 r.h) := hca 0
  have hd1 : wb.cell? ⟨B, 1, none⟩ = some (.int .i64 x0) := hca 1
  have hd2 : wb.cell? ⟨B, 2, none⟩ = some (.int .i64 x1) := hca 2
  have hd3 : wb.cell? ⟨B, 3, none⟩ = some (.int .i64 x2) := hca 3
  have hd4 : wb.cell? ⟨B, 4, none⟩ = some (.int .i64 x3) := hca 4
  have hd5 : wb.cell? ⟨B, 5, none⟩ = some (.int .i64 x4) := hca 5
  have hd6 : wb.cell? ⟨B, 6, none⟩ = some (.int .i64 x5) := hca 6
  have hd7 : wb.cell? ⟨B, 7, none⟩ = some (.int .i64 x6) := hca 7
  have hd8 : wb.cell? ⟨B, 8, none⟩ = some (.int .i64 x7) := hca 8
  have hd9 : wb.cell? ⟨B, 9, none⟩ = some (.int .i64 r.root.t0) := hca 9
  have hd10 : wb.cell? ⟨B, 10, none⟩ = some (.int .i64 r.root.t1) := hca 10
  have hd11 : wb.cell? ⟨B, 11, none⟩ = some (.slice xp xl xc) := hca 11
  have Hg := Lib.hid hg
  have Hk := Lib.hid hk
  have Hb := Lib.hid hb
  clear hca hg hk hb
  go_wp2_with fail
  (with_reducible refine (Hfw.out wb Hk.out).mono ?_)
  rintro e wc ⟨rfl, hBb⟩
  have hg := (hBb.block B (Array.getElem?_eq_some_iff.1 Hg.out).1).trans Hg.out
  have hk := Hk.out.trans (Keeps.of_below hBb)
  have hb := Hb.out.trans (hBb.mono Hb.out.size)
  clear hBb Hg Hk Hb hd0 hd1 hd2 hd3 hd4 hd5 hd6 hd7 hd8 hd9 hd10 hd11
  have hca := fun q => cell_of_row wc B q _ _ _ hg
  have hd0 : wc.cell? ⟨B, 0, none⟩ = some (.int .i64 r.h) := hca 0
  have hd1 : wc.cell? ⟨B, 1, none⟩ = some (.int .i64 x0) := hca 1
  have hd2 : wc.cell? ⟨B, 2, none⟩ = some (.int .i64 x1) := hca 2
  have hd3 : wc.cell? ⟨B, 3, none⟩ = some (.int .i64 x2) := hca 3
  have hd4 : wc.cell? ⟨B, 4, none⟩ = some (.int .i64 x3) := hca 4
  have hd5 : wc.cell? ⟨B, 5, none⟩ = some (.int .i64 x4) := hca 5
  have hd6 : wc.cell? ⟨B, 6, none⟩ = some (.int .i64 x5) := hca 6
  have hd7 : wc.cell? ⟨B, 7, none⟩ = some (.int .i64 x6) := hca 7
  have hd8 : wc.cell? ⟨B, 8, none⟩ = some (.int .i64 x7) := hca 8
  have hd9 : wc.cell? ⟨B, 9, none⟩ = some (.int .i64 r.root.t0) := hca 9
  have hd10 : wc.cell? ⟨B, 10, none⟩ = some (.int .i64 r.root.t1) := hca 10
  have hd11 : wc.cell? ⟨B, 11, none⟩ = some (.slice xp xl xc) := hca 11
  have Hg := Lib.hid hg
  have Hk := Lib.hid hk
  have Hb := Lib.hid hb
  clear hca hg hk hb
  cases fw with
  | false =>
    go_wp2_with fail
    (with_reducible refine (awake_spec wc).mono ?_)
    rintro e wd ⟨rfl, hBd⟩
    have Hfin := Lib.hid (HP.out wd (Hb.out.trans (hBd.mono Hb.out.size)))
    clear hBd
    go_wp2_with fail
    exact Hfin.out
  | true =>
    have hl32 := H32.out rfl
    go_wp2_with fail
    (with_reducible refine (Hnx.out wc Hk.out 0 (i64_small (x := 0) (by omega) (by omega))).mono ?_)
    rintro e wd ⟨rfl, hBb⟩
    have hg := (hBb.block B (Array.getElem?_eq_some_iff.1 Hg.out).1).trans Hg.out
    have hk := Hk.out.trans (Keeps.of_below hBb)
    have hb := Hb.out.trans (hBb.mono Hb.out.size)
    clear hBb Hg Hk Hb hd0 hd1 hd2 hd3 hd4 hd5 hd6 hd7 hd8 hd9 hd10 hd11
    have hca := fun q => cell_of_row wd B q _ _ _ hg
    have hd0 : wd.cell? ⟨B, 0, none⟩ = some (.int .i64 r.h) := hca 0
    have hd1 : wd.cell? ⟨B, 1, none⟩ = some (.int .i64 x0) := hca 1
    have hd2 : wd.cell? ⟨B, 2, none⟩ = some (.int .i64 x1) := hca 2
    have hd3 : wd.cell? ⟨B, 3, none⟩ = some (.int .i64 x2) := hca 3
    have hd4 : wd.cell? ⟨B, 4, none⟩ = some (.int .i64 x3) := hca 4
    have hd5 : wd.cell? ⟨B, 5, none⟩ = some (.int .i64 x4) := hca 5
    have hd6 : wd.cell? ⟨B, 6, none⟩ = some (.int .i64 x5) := hca 6
    have hd7 : wd.cell? ⟨B, 7, none⟩ = some (.int .i64 x6) := hca 7
    have hd8 : wd.cell? ⟨B, 8, none⟩ = some (.int .i64 x7) := hca 8
    have hd9 : wd.cell? ⟨B, 9, none⟩ = some (.int .i64 r.root.t0) := hca 9
    have hd10 : wd.cell? ⟨B, 10, none⟩ = some (.int .i64 r.root.t1) := hca 10
    have hd11 : wd.cell? ⟨B, 11, none⟩ = some (.slice xp xl xc) := hca 11
    have Hg := Lib.hid hg
    have Hk := Lib.hid hk
    have Hb := Lib.hid hb
    clear hca hg hk hb
    rw [Hn1.out]
    clear hd0 hd1 hd2 hd3 hd4 hd5 hd6 hd7 hd8 hd9 hd10 hd11
    go_wp2_with fail
    go_loopw [5, 6] (fun n p wr => ∃ k : Nat, k ≤ E.length ∧ n = .int .i64 k ∧ p = .int .i64 (ptE E k) ∧ Hid (wr.heap[B]? = some (.cells #[.int .i64 r.h, .int .i64 x0, .int .i64 x1, .int .i64 x2, .int .i64 x3, .int .i64 x4, .int .i64 x5, .int .i64 x6, .int .i64 x7, .int .i64 r.root.t0, .int .i64 r.root.t1, .slice xp xl xc] 28 (0, 0))) ∧ Hid (Keeps w wr) ∧ Hid (Below w.heap.size w wr)) (fun n _ _ => E.length - (intOf n).toNat)
    case atStart => exact ⟨0, by omega, rfl, rfl, Hg, Hk, Hb⟩
    case round =>
      clear Hg Hk Hb
      obtain ⟨k, hk32, rfl, rfl, Hg, Hk, Hb⟩ := hrel
      have hca := fun q => cell_of_row wr B q _ _ _ Hg.out
      have hd0 : wr.cell? ⟨B, 0, none⟩ = some (.int .i64 r.h) := hca 0
      have hd1 : wr.cell? ⟨B, 1, none⟩ = some (.int .i64 x0) := hca 1
      have hd2 : wr.cell? ⟨B, 2, none⟩ = some (.int .i64 x1) := hca 2
      have hd3 : wr.cell? ⟨B, 3, none⟩ = some (.int .i64 x2) := hca 3
      have hd4 : wr.cell? ⟨B, 4, none⟩ = some (.int .i64 x3) := hca 4
      have hd5 : wr.cell? ⟨B, 5, none⟩ = some (.int .i64 x4) := hca 5
      have hd6 : wr.cell? ⟨B, 6, none⟩ = some (.int .i64 x5) := hca 6
      have hd7 : wr.cell? ⟨B, 7, none⟩ = some (.int .i64 x6) := hca 7
      have hd8 : wr.cell? ⟨B, 8, none⟩ = some (.int .i64 x7) := hca 8
      have hd9 : wr.cell? ⟨B, 9, none⟩ = some (.int .i64 r.root.t0) := hca 9
      have hd10 : wr.cell? ⟨B, 10, none⟩ = some (.int .i64 r.root.t1) := hca 10
      have hd11 : wr.cell? ⟨B, 11, none⟩ = some (.slice xp xl xc) := hca 11
      clear hca
      by_cases hlt : k < E.length
      · obtain ⟨q1, q2, q3⟩ := Hel.out k hlt
        obtain ⟨pe, hpe⟩ : ∃ pe : Nat, pe = E[k].i := ⟨_, rfl⟩
        have hpt : ptE E k = (pe : Int) := by unfold ptE; rw [List.getElem?_eq_getElem hlt, hpe]
        have hn := Hn2.out k hlt
        rw [← hpe] at q1 q2 q3 hn
        have hpi : inI64 (pe : Int) := ⟨by omega, by omega⟩
        have hpi2 : inI64 ((pe : Int) + 1) := ⟨by omega, by omega⟩
        obtain ⟨gv, hgv⟩ : ∃ gv, gv = r.get (pe : Int) := ⟨_, rfl⟩
        have hg1 := fun (W : World) (k : Keeps w W) => Hgt.out W k pe hpi
        have hn1 := fun (W : World) (k : Keeps w W) => Hnx.out W k ((pe : Int) + 1) hpi2
        have ht1' := fun (W : World) (k : Keeps w W) => Htd.out W k pe hpi
        rw [← hgv] at q2 hg1
        obtain ⟨Q, hQ⟩ : ∃ Q, Q = ptE E (k + 1) := ⟨_, rfl⟩
        rw [hn, ← hQ] at hn1
        have hQ1 : Q = -1 ∨ (pe : Int) < Q := by
          rw [hQ]
          unfold ptE
          by_cases z : k + 1 < E.length
          · right
            have := List.pairwise_iff_getElem.1 Hso.out k (k + 1) hlt z (by omega)
            rw [List.getElem?_eq_getElem z, hpe]
            show (E[k].i : Int) < (E[k + 1].i : Int)
            omega
          · left; rw [List.getElem?_eq_none (by omega)]
        have hQ2 : 1073741823 ≤ (pe : Int) → Q = -1 := fun z => by
          rcases hQ1 with y | y
          · exact y
          · exfalso
            rw [hQ] at y
            unfold ptE at y
            by_cases z2 : k + 1 < E.length
            · have := (Hel.out (k + 1) z2).1
              rw [List.getElem?_eq_getElem z2] at y
              simp only at y
              omega
            · rw [List.getElem?_eq_none (by omega)] at y
              simp only at y
              omega
        have hgz : (gv == 0) = false := by simpa using q2
        have hk3 : (k : Int) ≤ 3200 := by omega
        have hp1 : (pe : Int) < 1073741824 := by omega
        have hQlo : -1 ≤ Q := by omega
        have hQhi : Q ≤ 1073741824 := by
          rw [hQ]; unfold ptE
          by_cases z : k + 1 < E.length
          · rw [List.getElem?_eq_getElem z]; have := (Hel.out (k + 1) z).1; simp only; omega
          · rw [List.getElem?_eq_none (by omega)]; simp only; omega
        have Hg1 := Lib.hid hg1
        have Hnq := Lib.hid hn1
        have Ht1 := Lib.hid ht1'
        have Hq3 := Lib.hid q3
        have HQ := Lib.hid hQ
        have HQ1 := Lib.hid hQ1
        have HQ2 := Lib.hid hQ2
        rw [hpt]
        clear q1 q2 q3 hn hg1 hn1 ht1' hgv hQ hQ1 hQ2 hpe hpt hpi hpi2
        go_wp2_with fail
        (with_reducible refine (Hg1.out wr Hk.out).mono ?_)
        rintro e we ⟨rfl, hBb⟩
        have hg := (hBb.block B (Array.getElem?_eq_some_iff.1 Hg.out).1).trans Hg.out
        have hk := Hk.out.trans (Keeps.of_below hBb)
        have hb := Hb.out.trans (hBb.mono Hb.out.size)
        clear hBb Hg Hk Hb hd0 hd1 hd2 hd3 hd4 hd5 hd6 hd7 hd8 hd9 hd10 hd11
        have hca := fun q => cell_of_row we B q _ _ _ hg
        have hd0 : we.cell? ⟨B, 0, none⟩ = some (.int .i64 r.h) := hca 0
        have hd1 : we.cell? ⟨B, 1, none⟩ = some (.int .i64 x0) := hca 1
        have hd2 : we.cell? ⟨B, 2, none⟩ = some (.int .i64 x1) := hca 2
        have hd3 : we.cell? ⟨B, 3, none⟩ = some (.int .i64 x2) := hca 3
        have hd4 : we.cell? ⟨B, 4, none⟩ = some (.int .i64 x3) := hca 4
        have hd5 : we.cell? ⟨B, 5, none⟩ = some (.int .i64 x4) := hca 5
        have hd6 : we.cell? ⟨B, 6, none⟩ = some (.int .i64 x5) := hca 6
        have hd7 : we.cell? ⟨B, 7, none⟩ = some (.int .i64 x6) := hca 7
        have hd8 : we.cell? ⟨B, 8, none⟩ = some (.int .i64 x7) := hca 8
        have hd9 : we.cell? ⟨B, 9, none⟩ = some (.int .i64 r.root.t0) := hca 9
        have hd10 : we.cell? ⟨B, 10, none⟩ = some (.int .i64 r.root.t1) := hca 10
        have hd11 : we.cell? ⟨B, 11, none⟩ = some (.slice xp xl xc) := hca 11
        have Hg := Lib.hid hg
        have Hk := Lib.hid hk
        have Hb := Lib.hid hb
        clear hca hg hk hb
        by_cases htn : 0 ≤ tag
        · go_wp2_with fail
          (with_reducible refine (Ht1.out we Hk.out).mono ?_)
          rintro e wf ⟨rfl, hBb⟩
          rw [Hq3.out htn]
          have hg := (hBb.block B (Array.getElem?_eq_some_iff.1 Hg.out).1).trans Hg.out
          have hk := Hk.out.trans (Keeps.of_below hBb)
          have hb := Hb.out.trans (hBb.mono Hb.out.size)
          clear hBb Hg Hk Hb hd0 hd1 hd2 hd3 hd4 hd5 hd6 hd7 hd8 hd9 hd10 hd11
          have hca := fun q => cell_of_row wf B q _ _ _ hg
          have hd0 : wf.cell? ⟨B, 0, none⟩ = some (.int .i64 r.h) := hca 0
          have hd1 : wf.cell? ⟨B, 1, none⟩ = some (.int .i64 x0) := hca 1
          have hd2 : wf.cell? ⟨B, 2, none⟩ = some (.int .i64 x1) := hca 2
          have hd3 : wf.cell? ⟨B, 3, none⟩ = some (.int .i64 x2) := hca 3
          have hd4 : wf.cell? ⟨B, 4, none⟩ = some (.int .i64 x3) := hca 4
          have hd5 : wf.cell? ⟨B, 5, none⟩ = some (.int .i64 x4) := hca 5
          have hd6 : wf.cell? ⟨B, 6, none⟩ = some (.int .i64 x5) := hca 6
          have hd7 : wf.cell? ⟨B, 7, none⟩ = some (.int .i64 x6) := hca 7
          have hd8 : wf.cell? ⟨B, 8, none⟩ = some (.int .i64 x7) := hca 8
          have hd9 : wf.cell? ⟨B, 9, none⟩ = some (.int .i64 r.root.t0) := hca 9
          have hd10 : wf.cell? ⟨B, 10, none⟩ = some (.int .i64 r.root.t1) := hca 10
          have hd11 : wf.cell? ⟨B, 11, none⟩ = some (.slice xp xl xc) := hca 11
          have Hg := Lib.hid hg
          have Hk := Lib.hid hk
          have Hb := Lib.hid hb
          clear hca hg hk hb
          by_cases hp : (pe : Int) < 1073741823
          · go_wp2_with fail
            (with_reducible refine (Hnq.out wf Hk.out).mono ?_)
            rintro e wg ⟨rfl, hBb⟩
            have hg := (hBb.block B (Array.getElem?_eq_some_iff.1 Hg.out).1).trans Hg.out
            have hk := Hk.out.trans (Keeps.of_below hBb)
            have hb := Hb.out.trans (hBb.mono Hb.out.size)
            clear hBb Hg Hk Hb hd0 hd1 hd2 hd3 hd4 hd5 hd6 hd7 hd8 hd9 hd10 hd11
            have hca := fun q => cell_of_row wg B q _ _ _ hg
            have hd0 : wg.cell? ⟨B, 0, none⟩ = some (.int .i64 r.h) := hca 0
            have hd1 : wg.cell? ⟨B, 1, none⟩ = some (.int .i64 x0) := hca 1
            have hd2 : wg.cell? ⟨B, 2, none⟩ = some (.int .i64 x1) := hca 2
            have hd3 : wg.cell? ⟨B, 3, none⟩ = some (.int .i64 x2) := hca 3
            have hd4 : wg.cell? ⟨B, 4, none⟩ = some (.int .i64 x3) := hca 4
            have hd5 : wg.cell? ⟨B, 5, none⟩ = some (.int .i64 x4) := hca 5
            have hd6 : wg.cell? ⟨B, 6, none⟩ = some (.int .i64 x5) := hca 6
            have hd7 : wg.cell? ⟨B, 7, none⟩ = some (.int .i64 x6) := hca 7
            have hd8 : wg.cell? ⟨B, 8, none⟩ = some (.int .i64 x7) := hca 8
            have hd9 : wg.cell? ⟨B, 9, none⟩ = some (.int .i64 r.root.t0) := hca 9
            have hd10 : wg.cell? ⟨B, 10, none⟩ = some (.int .i64 r.root.t1) := hca 10
            have hd11 : wg.cell? ⟨B, 11, none⟩ = some (.slice xp xl xc) := hca 11
            have Hg := Lib.hid hg
            have Hk := Lib.hid hk
            have Hb := Lib.hid hb
            clear hca hg hk hb
            rcases HQ1.out with rfl | hQl
            · go_wp2_with fail
              go_roundw
              case rel => exact ⟨k + 1, by omega, by go_num, by rw [← HQ.out], Hg, Hk, Hb⟩
              case measure => simp [intOf]; omega
            · have hQg : decide (0 ≤ Q) = true := by simp; omega
              have hQn : decide (Q ≤ (pe : Int)) = false := by simp; omega
              go_wp2_with fail
              go_roundw
              case rel => exact ⟨k + 1, by omega, by go_num, by rw [← HQ.out], Hg, Hk, Hb⟩
              case measure => simp [intOf]; omega
          · have hpf : decide ((pe : Int) < 1073741823) = false := by simp; omega
            obtain rfl := HQ2.out (Int.not_lt.1 hp)
            go_wp2_with fail
            go_roundw
            case rel => exact ⟨k + 1, by omega, by go_num, by rw [← HQ.out], Hg, Hk, Hb⟩
            case measure => simp [intOf]; omega
        · have htf : decide (0 ≤ tag) = false := by simp; omega
          by_cases hp : (pe : Int) < 1073741823
          · go_wp2_with fail
            (with_reducible refine (Hnq.out we Hk.out).mono ?_)
            rintro e wg ⟨rfl, hBb⟩
            have hg := (hBb.block B (Array.getElem?_eq_some_iff.1 Hg.out).1).trans Hg.out
            have hk := Hk.out.trans (Keeps.of_below hBb)
            have hb := Hb.out.trans (hBb.mono Hb.out.size)
            clear hBb Hg Hk Hb hd0 hd1 hd2 hd3 hd4 hd5 hd6 hd7 hd8 hd9 hd10 hd11
            have hca := fun q => cell_of_row wg B q _ _ _ hg
            have hd0 : wg.cell? ⟨B, 0, none⟩ = some (.int .i64 r.h) := hca 0
            have hd1 : wg.cell? ⟨B, 1, none⟩ = some (.int .i64 x0) := hca 1
            have hd2 : wg.cell? ⟨B, 2, none⟩ = some (.int .i64 x1) := hca 2
            have hd3 : wg.cell? ⟨B, 3, none⟩ = some (.int .i64 x2) := hca 3
            have hd4 : wg.cell? ⟨B, 4, none⟩ = some (.int .i64 x3) := hca 4
            have hd5 : wg.cell? ⟨B, 5, none⟩ = some (.int .i64 x4) := hca 5
            have hd6 : wg.cell? ⟨B, 6, none⟩ = some (.int .i64 x5) := hca 6
            have hd7 : wg.cell? ⟨B, 7, none⟩ = some (.int .i64 x6) := hca 7
            have hd8 : wg.cell? ⟨B, 8, none⟩ = some (.int .i64 x7) := hca 8
            have hd9 : wg.cell? ⟨B, 9, none⟩ = some (.int .i64 r.root.t0) := hca 9
            have hd10 : wg.cell? ⟨B, 10, none⟩ = some (.int .i64 r.root.t1) := hca 10
            have hd11 : wg.cell? ⟨B, 11, none⟩ = some (.slice xp xl xc) := hca 11
            have Hg := Lib.hid hg
            have Hk := Lib.hid hk
            have Hb := Lib.hid hb
            clear hca hg hk hb
            rcases HQ1.out with rfl | hQl
            · go_wp2_with fail
              go_roundw
              case rel => exact ⟨k + 1, by omega, by go_num, by rw [← HQ.out], Hg, Hk, Hb⟩
              case measure => simp [intOf]; omega
            · have hQg : decide (0 ≤ Q) = true := by simp; omega
              have hQn : decide (Q ≤ (pe : Int)) = false := by simp; omega
              go_wp2_with fail
              go_roundw
              case rel => exact ⟨k + 1, by omega, by go_num, by rw [← HQ.out], Hg, Hk, Hb⟩
              case measure => simp [intOf]; omega
          · have hpf : decide ((pe : Int) < 1073741823) = false := by simp; omega
            obtain rfl := HQ2.out (Int.not_lt.1 hp)
            go_wp2_with fail
            go_roundw
            case rel => exact ⟨k + 1, by omega, by go_num, by rw [← HQ.out], Hg, Hk, Hb⟩
            case measure => simp [intOf]; omega
      · obtain rfl : k = E.length := by omega
        have hpt : ptE E E.length = -1 := by unfold ptE; rw [List.getElem?_eq_none (by omega)]
        rw [hpt]
        clear hpt
        go_wp2_with fail
        (with_reducible refine (Hct.out wr Hk.out).mono ?_)
        rintro e we ⟨rfl, hBe⟩
        have Hfin := Lib.hid (HP.out we (Hb.out.trans (hBe.mono Hb.out.size)))
        clear hBe
        go_wp2_with fail
        exact Hfin.out
end Go.Proofs.Ytmdmbnpgdkmklaa
