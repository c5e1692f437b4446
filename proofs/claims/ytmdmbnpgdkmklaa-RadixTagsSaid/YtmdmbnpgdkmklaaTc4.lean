/- The reference's node: the statement that appends one child. -/
import Derived.Test.YtmdmbnpgdkmklaaTc2
import Derived.BigQuiet
namespace Go.Proofs.Ytmdmbnpgdkmklaa
open Go.RowKit
set_option linter.unusedVariables false
set_option linter.unusedSimpArgs false
/-- A region of a code, by its number. -/
def regionOf (k : Nat) : Code → Option Code
  | .region j ops d => if j = k then some (.region j ops d) else none
  | .loop c => regionOf k c
  | .seq a b => match regionOf k a with
    | some c => some c
    | none => regionOf k b
  | .block _ c => regionOf k c
  | .scope c => regionOf k c
  | .cond _ a b => match regionOf k a with
    | some c => some c
    | none => regionOf k b
  | _ => none
noncomputable def nodeReg : Code := (Try.f103.body.bind (regionOf 22)).getD .skip

theorem wp_last2 {P : Program} {c : Code} {Q : Exit → Act → World → Prop} {a : Act} {w : World} (h : ∀ K : Act → World → Prop, (∀ a' w', Q .normal a' w' → K a' w') → c.wp P (Exit.then K fun _ _ _ => False) a w) : c.wp P Q a w := by
  refine Code.wp_mono ?_ (h (fun a' w' => Q .normal a' w') (fun _ _ h => h))
  intro e a' w' hq
  cases e
  all_goals first
    | exact hq
    | exact hq.elim
theorem below_undrew {W w : World} (h : Below W.drew.heap.size W.drew w) : Below W.heap.size W w :=
  ((Below.refl W.heap.size W).drew).trans h

set_option maxRecDepth 100000 in
set_option maxHeartbeats 16000000 in
theorem node_append {W wt : World} {B i N P Kn a pc : Nat} {Lv : Int} {pp : Option Addr} {sv : Value} {xs : List Value} {ks : List Nd} {kd : Nd} {T0 T1 : Int} {s0 s3 s4 s5 s6 s11 s12 s13 s14 s15 s16 s17 s18 s19 s20 s21 s22 s23 s24 s25 s26 s27 s28 s29 s30 s31 s32 s33 s34 s35 s36 s37 s38 s39 s40 s41 s42 s43 s44 s45 s46 s47 s48 s49 s50 s51 s52 s53 s54 s55 s56 s57 s58 s59 s60 s61 s62 s63 s64 s65 s66 s67 s68 s69 s70 s71 s72 s73 s74 s75 s76 s77 s78 s79 s80 s81 s82 s83 s84 s85 s86 s87 s88 s89 s90 s91 s92 s93 s94 s95 s96 s97 s98 s99 s100 s101 s102 s103 s104 s105 s106 s107 s108 s109 s110 s111 : Value} {K : Act → World → Prop}
    (HB : Hid (B = W.heap.size)) (hlt : i < 8) (Hk8 : Hid (ks.length = 8)) (HBe : Hid (Below W.heap.size W wt)) (Hszt : Hid (B + 2 ≤ wt.heap.size))
    (Hg2t : Hid (wt.heap[B]? = some (.cells #[.int .i64 0, .int .i64 0, .int .i64 0, .int .i64 0, .int .i64 0, .int .i64 0, .int .i64 0, .int .i64 0, .int .i64 0, .int .i64 0, .slice none 0 0] 26 (0, 0))))
    (Hg1t : Hid (wt.heap[B + 1]? = some (.cells #[.int .i64 0, .int .i64 0, .int .i64 0, .int .i64 0, .int .i64 0, .int .i64 0, .int .i64 0, .int .i64 0, .int .i64 T0, .int .i64 T1, sv] 26 (0, 0))))
    (Hown6 : Hid (wt.ownsRow (B + 2) 26 11 sv i xs)) (Hkids6 : Hid (KidsAt (B + 2) wt ks i sv xs))
    (hmul : (i : Int) * (P : Int) = (Kn : Int)) (Hkik : Hid (ks[i]'(by rw [Hk8.out]; exact hlt) = kd))
    (Hcall : Hid (Calls Try.prog 103 #[.slice pp N pc, .int .i64 (Lv - 1), .int .i64 ((a : Int) + (Kn : Int))] wt.drew (Cloned wt.drew kd)))
    (Hw1 : Hid (IntKind.i64.wrap (Lv - 1) = Lv - 1)) (Hw3 : Hid (IntKind.i64.wrap ((a : Int) + (Kn : Int)) = (a : Int) + (Kn : Int))) (Hw4 : Hid (IntKind.i64.wrap (Kn : Int) = (Kn : Int)))
    (hK : ∀ (u87 u88 u89 u90 u91 u92 u93 u94 u95 u96 u97 u98 u99 u100 : Value) (wx : World) (sv' : Value) (xs' : List Value), Hid (wx.heap[B + 1]? = some (.cells #[.int .i64 0, .int .i64 0, .int .i64 0, .int .i64 0, .int .i64 0, .int .i64 0, .int .i64 0, .int .i64 0, .int .i64 T0, .int .i64 T1, sv'] 26 (0, 0))) → Hid (wx.heap[B]? = some (.cells #[.int .i64 0, .int .i64 0, .int .i64 0, .int .i64 0, .int .i64 0, .int .i64 0, .int .i64 0, .int .i64 0, .int .i64 0, .int .i64 0, .slice none 0 0] 26 (0, 0))) →
      Hid (wx.ownsRow (B + 2) 26 11 sv' (i + 1) xs') → Hid (KidsAt (B + 2) wx ks (i + 1) sv' xs') → Hid (Below W.heap.size W wx) → B + 2 ≤ wx.heap.size → K ⟨#[s0, .int .i64 Lv, .int .i64 (a : Int), s3, s4, s5, s6, .pointer (some ⟨B + 1, 0, none⟩), .int .i64 (P : Int), .int .i64 (i : Int), .slice pp N pc, s11, s12, s13, s14, s15, s16, s17, s18, s19, s20, s21, s22, s23, s24, s25, s26, s27, s28, s29, s30, s31, s32, s33, s34, s35, s36, s37, s38, s39, s40, s41, s42, s43, s44, s45, s46, s47, s48, s49, s50, s51, s52, s53, s54, s55, s56, s57, s58, s59, s60, s61, s62, s63, s64, s65, s66, s67, s68, s69, s70, s71, s72, s73, s74, s75, s76, s77, s78, s79, s80, s81, s82, s83, s84, s85, s86, u87, u88, u89, u90, u91, u92, u93, u94, u95, u96, u97, u98, u99, u100, s101, s102, s103, s104, s105, s106, s107, s108, s109, s110, s111], []⟩ wx) :
    Code.wp Try.prog nodeReg (Exit.then K fun _ _ _ => False) ⟨#[s0, .int .i64 Lv, .int .i64 (a : Int), s3, s4, s5, s6, .pointer (some ⟨B + 1, 0, none⟩), .int .i64 (P : Int), .int .i64 (i : Int), .slice pp N pc, s11, s12, s13, s14, s15, s16, s17, s18, s19, s20, s21, s22, s23, s24, s25, s26, s27, s28, s29, s30, s31, s32, s33, s34, s35, s36, s37, s38, s39, s40, s41, s42, s43, s44, s45, s46, s47, s48, s49, s50, s51, s52, s53, s54, s55, s56, s57, s58, s59, s60, s61, s62, s63, s64, s65, s66, s67, s68, s69, s70, s71, s72, s73, s74, s75, s76, s77, s78, s79, s80, s81, s82, s83, s84, s85, s86, s87, s88, s89, s90, s91, s92, s93, s94, s95, s96, s97, s98, s99, s100, s101, s102, s103, s104, s105, s106, s107, s108, s109, s110, s111], []⟩ wt := by
  conv => arg 2; whnf
  obtain ⟨i1, hi1, hz1, hzs1, hzb1⟩ := info_parts info26
  have hcb := fun q => cell_of_row wt (B + 1) q _ _ _ Hg1t.out
  have hc10 : wt.cell? ⟨B + 1, 10, none⟩ = some sv := hcb 10
  have hfz : wt.frozen? ⟨B + 1, 10, none⟩ = false := frozen_of_row _ _ _ _ _ Hg1t.out
  have hsv : sv.oneCell' = true := by
    rcases Hown6.out.2 with ⟨rfl, _⟩ | ⟨_, _, _, rfl, _⟩ <;> rfl
  clear hcb
  have HsvL : Hid (∀ k, sv.ownBlock = some k → B + 2 ≤ k ∧ k < wt.heap.size) := Lib.hid (fun k hk => Hown6.out.lt k hk)
  have HneB : Hid ((some (B + 1) : Option Nat) ≠ sv.ownBlock) := Lib.hid (fun e => by have := HsvL.out _ e.symm; omega)
  have hB1t : B + 1 < wt.heap.size := by have := Hszt.out; omega
  have h011 : 0 < 11 := by omega
  have h01 : 0 < 1 := by omega
  have h63 : i + 1 ≤ maxLen := by unfold maxLen; omega
  have hby : (i + 1) * 104 ≤ 140737488355328 := by omega
  have HK := Lib.hid hK
  clear hK
  go_region_law
    (first
      | (go_simp; go_at_call 103
         rw [Hw1.out, Hw4.out, Hw3.out]
         (with_reducible refine (Hcall.out).mono ?_)
         rintro e w7 ⟨⟨c7, S7, rfl, hO7, hS7⟩, hB7⟩
         have hU7 := below_undrew hB7
         have hs67 : wt.heap.size ≤ w7.heap.size := hU7.size
         have hbs7 : B + 2 ≤ w7.heap.size := Nat.le_trans Hszt.out hs67
         have hz8 : B + 1 < w7.heap.size := by omega
         obtain ⟨y0, y1, y2, y3, y4, y5, y6, y7, yp, yl, yc, rfl⟩ := hO7.isN.lit
         have HO7 := Lib.hid hO7
         have HS7 := Lib.hid hS7
         have HownA := Lib.hid ((ownsRow_below Hown6.out hU7).alloc (.cells #[.int .i64 y0, .int .i64 y1, .int .i64 y2, .int .i64 y3, .int .i64 y4, .int .i64 y5, .int .i64 y6, .int .i64 y7, .int .i64 kd.t0, .int .i64 kd.t1, .slice yp yl yc] 26))
         have HbaseA := Lib.hid (baseA w7 (.cells #[.int .i64 y0, .int .i64 y1, .int .i64 y2, .int .i64 y3, .int .i64 y4, .int .i64 y5, .int .i64 y6, .int .i64 y7, .int .i64 kd.t0, .int .i64 kd.t1, .slice yp yl yc] 26) hbs7)
         obtain ⟨hcB7, hfB7⟩ := bcell hB7
         have hc107 : w7.cell? ⟨B + 1, 10, none⟩ = some sv := Keeps.of_below hU7 _ _ hc10
         have hf107 : w7.frozen? ⟨B + 1, 10, none⟩ = false := frozen_below hU7 hB1t hfz
         clear hO7 hS7 hbs7 hs67 hU7)
      | (refine step_append_lies _ (by rfl) _ _ _ (by rfl) (B + 2) 26 i1 _ 11 104 Try.underlying24 hi1 hz1 hzs1 hzb1 rfl h011 sv i xs (by rfl) HownA.out
          ⟨w7.heap.size, 0, none⟩ 1 1 [.int .i64 y0, .int .i64 y1, .int .i64 y2, .int .i64 y3, .int .i64 y4, .int .i64 y5, .int .i64 y6, .int .i64 y7, .int .i64 kd.t0, .int .i64 kd.t1, .slice yp yl yc] (by rfl) (by rfl) (World.news_of_block (cs := #[.int .i64 y0, .int .i64 y1, .int .i64 y2, .int .i64 y3, .int .i64 y4, .int .i64 y5, .int .i64 y6, .int .i64 y7, .int .i64 kd.t0, .int .i64 kd.t1, .slice yp yl yc]) (t := 26) (fr := (0, 0)) (heap_alloc_new w7 _)) (ones11 _ _ _ _ _ _ _ _ _ _ _ _ _)
          h01 h63 hby HbaseA.out (w7.heap.size + 1) (sizeA w7 _) ?_
         intro gg cap8 w8 hown8 hgrow hat hlt8
         obtain ⟨hc108, hf108⟩ := far8 hgrow hz8 HneB.out hc107 hf107))
  all_goals
    have hjk : i < ks.length := by rw [Hk8.out]; exact hlt
    obtain ⟨q1, q2, q3, q4, q5, q6⟩ := node_round (S7 := S7) (gg := gg) hjk HB.out Hszt.out Hg1t.out Hg2t.out Hown6.out Hkids6.out HBe.out hB7 (by rw [Hkik.out]; exact HO7.out) HS7.out hown8 hgrow hat _ rfl
    go_wp2_with fail
    exact HK.out _ _ _ _ _ _ _ _ _ _ _ _ _ _ _ _ _ (Lib.hid q1) (Lib.hid q2) (Lib.hid q3) (Lib.hid q4) (Lib.hid q5) q6
end Go.Proofs.Ytmdmbnpgdkmklaa

/-! The reference's node at an inner level. -/
namespace Go.Proofs.Ytmdmbnpgdkmklaa
open Go.RowKit
set_option linter.unusedVariables false
set_option linter.unusedSimpArgs false
set_option maxRecDepth 100000 in
set_option maxHeartbeats 16000000 in
theorem node_inner (l : Nat) (hl9 : l ≤ 8)
    (ih : ∀ (W : World) (base : Nat) (v : Value) (L : List En) (a : Nat), W.ownsRow base 83 3 v L.length (enCells L) → EnOk L a → a + 8 ^ (l + 1) ≤ 1073741824 → Calls Try.prog 103 #[v, .int .i64 ((l : Int) + 1), .int .i64 a] W (Cloned W (nodeE l L a)))
    {W : World} {base : Nat} {v : Value} {L : List En} {a : Nat} (hv : W.ownsRow base 83 3 v L.length (enCells L)) (hok : EnOk L a) (ha : a + 8 ^ (l + 2) ≤ 1073741824) (hne : L ≠ []) :
    Calls Try.prog 103 #[v, .int .i64 ((l : Int) + 2), .int .i64 a] W (Cloned W (nodeE (l + 1) L a)) := by
  obtain ⟨P, hP⟩ : ∃ P, P = 8 ^ (l + 1) := ⟨_, rfl⟩
  have hpow : 8 ^ (l + 2) = 8 * 8 ^ (l + 1) := by rw [Nat.pow_succ]; omega
  have hP0 : 0 < P := by rw [hP]; exact Nat.pow_pos (by omega)
  have hP30 : a + 8 * P ≤ 1073741824 := by rw [hpow, ← hP] at ha; exact ha
  have hspan := fun W => span_spec W (l + 1) (by omega)
  obtain ⟨Lv, hLv⟩ : ∃ Lv : Int, Lv = (l : Int) + 2 := ⟨_, rfl⟩
  rw [← hP, show ((l + 1 : Nat) : Int) = Lv - 1 by omega] at hspan
  rw [← hLv]
  have hLv2 : 2 ≤ Lv := by omega
  have hLv10 : Lv ≤ 10 := by omega
  have hLv1 : decide (1 < Lv) = true := by simp; omega
  have hnd : nodeE (l + 1) L a = .mk [0, 0, 0, 0, 0, 0, 0, 0] (tsum (fun i => anyT (partE L a P i) 0) 8) (tsum (fun i => anyT (partE L a P i) 1) 8) ((List.range 8).map fun i => nodeE l (partE L a P i) (a + i * P)) := by
    rw [nodeE, if_neg hne, hP]
  rw [hnd]
  have hih := ih
  rw [← hP, show (l : Int) + 1 = Lv - 1 by omega] at hih
  obtain ⟨ks, hks⟩ : ∃ ks, ks = (List.range 8).map fun i => nodeE l (partE L a P i) (a + i * P) := ⟨_, rfl⟩
  have hk8 : ks.length = 8 := by rw [hks]; simp
  have hkk : ∀ i, (hi : i < ks.length) → ks[i] = nodeE l (partE L a P i) (a + i * P) := fun i hi => by subst hks; simp
  rw [← hks]
  have Hih := Lib.hid hih
  have Hk8 := Lib.hid hk8
  have Hkk := Lib.hid hkk
  clear hih ih hnd hks hpow ha hk8 hkk hl9
  obtain ⟨post, hpost⟩ : ∃ post : Ending → World → Prop, post = Cloned W (Nd.mk [0, 0, 0, 0, 0, 0, 0, 0] (tsum (fun i => anyT (partE L a P i) 0) 8) (tsum (fun i => anyT (partE L a P i) 1) 8) ks) := ⟨_, rfl⟩
  have HP : Hid (∀ e W', Cloned W (Nd.mk [0, 0, 0, 0, 0, 0, 0, 0] (tsum (fun i => anyT (partE L a P i) 0) 8) (tsum (fun i => anyT (partE L a P i) 1) 8) ks) e W' → post e W') := Lib.hid (by rw [hpost]; exact fun e W' a => a)
  rw [← hpost]
  obtain ⟨M, hM⟩ : ∃ M, M = L.length := ⟨_, rfl⟩
  have hM0 : M ≠ 0 := by rw [hM]; intro q; exact hne (List.length_eq_zero_iff.1 q)
  have hM30 : M ≤ 1073741824 := by rw [hM]; exact hok.1
  obtain ⟨g, cp, rfl⟩ : ∃ g cp, v = .slice (some ⟨g, 0, none⟩) M cp := by
    rcases hv.2 with ⟨h1, h0⟩ | ⟨g, cap, cur, h1, _⟩
    · exact absurd (hM.trans h0) hM0
    · exact ⟨g, cap, by rw [hM]; exact h1⟩
  rw [hM] at hv
  have Hv := Lib.hid hv
  have HM := Lib.hid hM
  have Hok := Lib.hid hok
  have HLv := Lib.hid hLv
  have Hspan := Lib.hid hspan
  have HP0 := Lib.hid hP
  have ha30 : (a : Int) ≤ 1073741824 := by omega
  have hP30' : (P : Int) ≤ 1073741824 := by omega
  have hPne : ((P : Int) == 0) = false := by simp; omega
  have hPne2 : ¬ (P : Int) = 0 := by omega
  obtain ⟨i0, hi0, hz0, hzs, hzb⟩ := info_parts info83
  obtain ⟨i1, hi1, hz1, hzs1, hzb1⟩ := info_parts info26
  clear hv hok hLv hspan hP hpost hne hM
  go_enter Try.func103, Try.ntmps103
  go_wp2_with fail
  have hb1 := heap_alloc2_old W (.cells #[.int .i64 0, .int .i64 0, .int .i64 0, .int .i64 0, .int .i64 0, .int .i64 0, .int .i64 0, .int .i64 0, .int .i64 0, .int .i64 0, .slice none 0 0] 26) (.cells #[.int .i64 0, .int .i64 0, .int .i64 0, .int .i64 0, .int .i64 0, .int .i64 0, .int .i64 0, .int .i64 0, .int .i64 0, .int .i64 0, .slice none 0 0] 26)
  have hb2 := heap_alloc2_new W (.cells #[.int .i64 0, .int .i64 0, .int .i64 0, .int .i64 0, .int .i64 0, .int .i64 0, .int .i64 0, .int .i64 0, .int .i64 0, .int .i64 0, .slice none 0 0] 26) (.cells #[.int .i64 0, .int .i64 0, .int .i64 0, .int .i64 0, .int .i64 0, .int .i64 0, .int .i64 0, .int .i64 0, .int .i64 0, .int .i64 0, .slice none 0 0] 26)
  have hbb : Below W.heap.size W ((W.alloc (.cells #[.int .i64 0, .int .i64 0, .int .i64 0, .int .i64 0, .int .i64 0, .int .i64 0, .int .i64 0, .int .i64 0, .int .i64 0, .int .i64 0, .slice none 0 0] 26)).alloc (.cells #[.int .i64 0, .int .i64 0, .int .i64 0, .int .i64 0, .int .i64 0, .int .i64 0, .int .i64 0, .int .i64 0, .int .i64 0, .int .i64 0, .slice none 0 0] 26)) := ((Below.refl _ _).alloc (Nat.le_refl _) _).alloc (by simp) _
  have hsz : ((W.alloc (.cells #[.int .i64 0, .int .i64 0, .int .i64 0, .int .i64 0, .int .i64 0, .int .i64 0, .int .i64 0, .int .i64 0, .int .i64 0, .int .i64 0, .slice none 0 0] 26)).alloc (.cells #[.int .i64 0, .int .i64 0, .int .i64 0, .int .i64 0, .int .i64 0, .int .i64 0, .int .i64 0, .int .i64 0, .int .i64 0, .int .i64 0, .slice none 0 0] 26)).heap.size = W.heap.size + 2 := by simp
  obtain ⟨W2, hW2⟩ : ∃ W2, W2 = ((W.alloc (.cells #[.int .i64 0, .int .i64 0, .int .i64 0, .int .i64 0, .int .i64 0, .int .i64 0, .int .i64 0, .int .i64 0, .int .i64 0, .int .i64 0, .slice none 0 0] 26)).alloc (.cells #[.int .i64 0, .int .i64 0, .int .i64 0, .int .i64 0, .int .i64 0, .int .i64 0, .int .i64 0, .int .i64 0, .int .i64 0, .int .i64 0, .slice none 0 0] 26)) := ⟨_, rfl⟩
  rw [← hW2] at hb1 hb2 hbb hsz ⊢
  obtain ⟨B, hB⟩ : ∃ B, B = W.heap.size := ⟨_, rfl⟩
  rw [← hB] at hb1 hb2 hsz ⊢
  have Hb1 := Lib.hid hb1
  have Hb2 := Lib.hid hb2
  have Hbb := Lib.hid hbb
  have Hsz := Lib.hid hsz
  have HB := Lib.hid hB
  clear hb1 hb2 hbb hsz hW2 hB
  (with_reducible refine (Hspan.out W2).mono ?_)
  rintro e w3 ⟨rfl, rfl⟩
  go_wp2_with fail
  go_loopw [9] (fun iv wr => ∃ (i : Nat) (sv : Value) (xs : List Value), i ≤ 8 ∧ iv = .int .i64 i ∧ Hid (wr.heap[B + 1]? = some (.cells #[.int .i64 0, .int .i64 0, .int .i64 0, .int .i64 0, .int .i64 0, .int .i64 0, .int .i64 0, .int .i64 0, .int .i64 (tsum (fun i => anyT (partE L a P i) 0) i), .int .i64 (tsum (fun i => anyT (partE L a P i) 1) i), sv] 26 (0, 0))) ∧ Hid (wr.heap[B]? = some (.cells #[.int .i64 0, .int .i64 0, .int .i64 0, .int .i64 0, .int .i64 0, .int .i64 0, .int .i64 0, .int .i64 0, .int .i64 0, .int .i64 0, .slice none 0 0] 26 (0, 0))) ∧
      Hid (wr.ownsRow (B + 2) 26 11 sv i xs) ∧ Hid (KidsAt (B + 2) wr ks i sv xs) ∧ Hid (i = 0 → sv = .slice none 0 0) ∧ Hid (Below W.heap.size W wr) ∧ B + 2 ≤ wr.heap.size) (fun iv _ => 8 - (intOf iv).toNat)
  case atStart => exact ⟨0, .slice none 0 0, [], by omega, rfl, Hb2, Hb1, Lib.hid (World.ownsRow_nil _ _ _ _), Lib.hid (KidsAt.zero _ _ _ _), Lib.hid (fun _ => rfl), Hbb, by have := Hsz.out; omega⟩
  case round =>
    clear Hb1 Hb2 Hbb Hsz
    obtain ⟨i, sv, xs, hi8, rfl, Hg1, Hg2, Hown, Hkids, Hz, Hbe, hsz⟩ := hrel
    rename World => wi
    by_cases hlt : i < 8
    · have hi8' : (i : Int) < 8 := by omega
      go_wp2_with fail
      have Hp0 : Hid (wi.ownsRow wi.heap.size 83 3 (.slice none 0 0) (partE (L.take 0) a P i).length (enCells (partE (L.take 0) a P i))) := Lib.hid (World.ownsRow_nil _ _ _ _)
      go_loopw [10, 11] (fun ov kv wx => ∃ k : Nat, k ≤ M ∧ kv = .int .i64 k ∧ Hid (wx.ownsRow wi.heap.size 83 3 ov (partE (L.take k) a P i).length (enCells (partE (L.take k) a P i))) ∧ Hid (Below wi.heap.size wi wx)) (fun _ kv _ => M - (intOf kv).toNat)
      case atStart => exact ⟨0, by omega, rfl, Hp0, Lib.hid (Below.refl _ _)⟩
      case round =>
        clear Hp0
        obtain ⟨k, hkM, rfl, Hpart, Hbk⟩ := hrel
        rename World => wk
        by_cases hlk : k < M
        · have hkl : k < L.length := by rw [← HM.out]; exact hlk
          have hv2 := ownsRow_below (ownsRow_below Hv.out Hbe.out) Hbk.out
          have hv3 := hv2
          obtain ⟨c0, c1, c2⟩ := own_cell hv3 k hkl
          obtain ⟨ej, hej⟩ : ∃ ej, ej = L[k] := ⟨_, rfl⟩
          obtain ⟨q1, q2, q3, q4, q5⟩ := Hok.out.2 L[k] (List.getElem_mem _)
          have hsucc := partE_take hkl a P i
          have hpl := partE_length (L.take k) a P i
          rw [List.length_take] at hpl
          rw [← hej] at c0 c1 c2 q1 q2 q3 q4 q5 hsucc
          obtain ⟨ei, ev, et⟩ := ej
          simp only at c0 c1 c2 q1 q2 q3 q4 q5 hsucc
          obtain ⟨D, hD⟩ : ∃ D : Nat, D = ei - a := ⟨_, rfl⟩
          have hsub : (ei : Int) - (a : Int) = (D : Int) := by omega
          obtain ⟨Q, hQ⟩ : ∃ Q : Nat, Q = D / P := ⟨_, rfl⟩
          have hquo : Int.tdiv (D : Int) (P : Int) = (Q : Int) := by rw [hQ, Int.tdiv_eq_ediv_of_nonneg (Int.natCast_nonneg D), ← Int.natCast_ediv]
          rw [← hD, ← hQ] at hsucc
          have hD30 : (D : Int) ≤ 1073741824 := by omega
          have hQD : Q ≤ D := by rw [hQ]; exact Nat.div_le_self _ _
          have hQ30 : (Q : Int) ≤ 1073741824 := by omega
          have hkM' : (k : Int) < (M : Int) := by omega
          have Hsucc := Lib.hid hsucc
          have Hpl := Lib.hid hpl
          have Hej := Lib.hid hej
          clear hv2 hv3 hej hsucc hpl hD hQ q3 hQD
          by_cases hQi : Q = i
          · have hQb : ((Q : Int) == (i : Int)) = true := by simp; omega
            have hszk : wi.heap.size ≤ wk.heap.size := Hbk.out.size
            have HpA := Lib.hid (Hpart.out.alloc (.cells #[.int .i64 (ei : Int), .int .i64 ev, .int .i64 et] 83))
            have Hz2 := Lib.hid (show wi.heap.size ≤ (wk.alloc (.cells #[.int .i64 (ei : Int), .int .i64 ev, .int .i64 et] 83)).heap.size by simp; omega)
            have hl1 := Hpl.out
            have Hm := Lib.hid (show (partE (L.take k) a P i).length + 1 ≤ maxLen by unfold maxLen; omega)
            have Hm2 := Lib.hid (show ((partE (L.take k) a P i).length + 1) * 24 ≤ 140737488355328 by omega)
            clear hl1
            go_wp2_with (first
              | (refine wpList_append_own _ (by rfl) (.tmp 42) (.tmp 47) 79 (by rfl) wi.heap.size 83 i0 _ 3 24 Try.underlying79 hi0 hz0 hzs hzb (by rfl) (by omega) u10 _ _ (by rfl) (by with_reducible exact HpA.out)
                  ⟨wk.heap.size, 0, none⟩ 1 1 [.int .i64 (ei : Int), .int .i64 ev, .int .i64 et] (by rfl) (by rfl) (World.news_of_block (heap_alloc_new wk _)) (by simp [Value.oneCell']) (by with_reducible exact Hm.out) (by with_reducible exact Hm2.out) (by with_reducible exact Hz2.out) ?_
                 intro v' w' hown' hgrow hnil'))
            have hlt8 := fun j hj => Hpart.out.lt j hj
            have hown2 : w'.ownsRow wi.heap.size 83 3 v' (partE (L.take (k + 1)) a P i).length (enCells (partE (L.take (k + 1)) a P i)) := by
              rw [Hsucc.out, if_pos hQi, enCells_append, List.length_append]
              have e : enCells [⟨ei, ev, et⟩] = [.int .i64 (ei : Int), .int .i64 ev, .int .i64 et] := by simp [enCells]
              rw [e]
              exact hown'
            have hb2 : Below wi.heap.size wi w' := (Hbk.out.alloc hszk _).grown hgrow (by simp; omega) (fun j hj => (hlt8 j hj).1)
            have Hown2 := Lib.hid hown2
            have Hb2 := Lib.hid hb2
            clear hown2 hb2 hown' hgrow hnil' hlt8 c0 c1 c2
            go_wp2_with fail
            go_roundw
            case rel => exact ⟨k + 1, by omega, by go_num, Hown2, Hb2⟩
            case measure => simp [intOf]; omega
          · have hQb : ((Q : Int) == (i : Int)) = false := by simp; omega
            have hown2 : wk.ownsRow wi.heap.size 83 3 u10 (partE (L.take (k + 1)) a P i).length (enCells (partE (L.take (k + 1)) a P i)) := by
              rw [Hsucc.out, if_neg hQi, List.append_nil]; exact Hpart.out
            have Hown2 := Lib.hid hown2
            clear hown2 c1 c2
            go_wp2_with fail
            go_roundw
            case rel => exact ⟨k + 1, by omega, by go_num, Hown2, Hbk⟩
            case measure => simp [intOf]; omega
        · obtain rfl : k = M := by omega
          obtain ⟨Lp, hLp⟩ : ∃ Lp, Lp = partE L a P i := ⟨_, rfl⟩
          have hpart : wk.ownsRow wi.heap.size 83 3 u10 Lp.length (enCells Lp) := by
            have := Hpart.out
            rw [HM.out, List.take_length, ← hLp] at this
            exact this
          have hLok : EnOk Lp (a + i * P) := by rw [hLp]; exact Hok.out.part (by omega) i
          obtain ⟨N, hN⟩ : ∃ N, N = Lp.length := ⟨_, rfl⟩
          have hN30 : N ≤ 1073741824 := by rw [hN]; exact hLok.1
          obtain ⟨pp, pc, hpv⟩ : ∃ pp pc, u10 = .slice pp N pc := by
            rcases hpart.2 with ⟨h1, h0⟩ | ⟨g, cap, cur, h1, _⟩
            · exact ⟨none, 0, by rw [hN, h0]; exact h1⟩
            · exact ⟨_, _, by rw [hN]; exact h1⟩
          subst hpv
          have hcellE : ∀ j, (hj : j < Lp.length) → ∃ gg, pp = some ⟨gg, 0, none⟩ ∧ wk.cell? ⟨gg, j * 3 + 1, none⟩ = some (.int .i64 Lp[j].v) ∧ wk.cell? ⟨gg, j * 3 + 2, none⟩ = some (.int .i64 Lp[j].t) := fun j hj => by
            have h2 := hpart
            rcases hpart.2 with ⟨h1, h0⟩ | ⟨gg, cap, cur, h1, _⟩
            · omega
            · simp only [Value.slice.injEq] at h1
              obtain ⟨rfl, -, -⟩ := h1
              rw [hN] at h2
              obtain ⟨_, d1, d2⟩ := own_cell h2 j hj
              exact ⟨gg, rfl, d1, d2⟩
          have hmsk := maskE_spec (fun e he => (hLok.2 e he).2.2.2)
          have HLp := Lib.hid hLp
          have HLok := Lib.hid hLok
          have HN := Lib.hid hN
          have HcE := Lib.hid hcellE
          have Hpart2 := Lib.hid hpart
          have Hmsk := Lib.hid hmsk
          clear hLp hpart hLok hN hcellE Hpart hmsk
          go_wp2_with fail
          go_loopw [12, 13] (fun mv jv wy => ∃ j : Nat, j ≤ N ∧ jv = .int .i64 j ∧ mv = .int .i64 (maskE (Lp.take j)) ∧ wk = wy) (fun _ jv _ => N - (intOf jv).toNat)
          case atStart => exact ⟨0, by omega, rfl, rfl, rfl⟩
          case round =>
            obtain ⟨j, hjN, rfl, rfl, rfl⟩ := hrel
            by_cases hlj : j < N
            · have hjl : j < Lp.length := by rw [← HN.out]; exact hlj
              obtain ⟨gg, rfl, d1, d2⟩ := HcE.out j hjl
              have hst := maskE_take hjl
              obtain ⟨tj, htj⟩ : ∃ tj, tj = Lp[j].t := ⟨_, rfl⟩
              rw [← htj] at d2 hst
              obtain ⟨mj, hmj⟩ : ∃ mj, mj = maskE (Lp.take j) := ⟨_, rfl⟩
              rw [← hmj] at hst ⊢
              have Hst := Lib.hid hst
              clear hst htj hmj d1
              have hjN' : (j : Int) < (N : Int) := by omega
              go_wp2_with fail
              go_roundw
              case rel => exact ⟨j + 1, by omega, by go_num, by rw [Hst.out], by simp⟩
              case measure => simp [intOf]; omega
            · obtain rfl : N = j := by omega
              have hmt : maskE (Lp.take N) = maskE Lp := by rw [HN.out, List.take_length]
              rw [hmt]
              obtain ⟨m, hm⟩ : ∃ m, m = maskE Lp := ⟨_, rfl⟩
              have hmk := Hmsk.out
              rw [← hm] at hmk ⊢
              obtain ⟨hm0, hm3, hma, hmb⟩ := hmk
              obtain ⟨qa, hqa⟩ : ∃ qa : Int, qa = if anyT Lp 0 = true then 1 else 0 := ⟨_, rfl⟩
              obtain ⟨qb, hqb⟩ : ∃ qb : Int, qb = if anyT Lp 1 = true then 1 else 0 := ⟨_, rfl⟩
              rw [← hqa] at hma
              rw [← hqb] at hmb
              have hqa2 : 0 ≤ qa ∧ qa ≤ 1 := by rw [hqa]; split <;> omega
              have hqb2 : 0 ≤ qb ∧ qb ≤ 1 := by rw [hqb]; split <;> omega
              obtain ⟨sa, hsa⟩ : ∃ sa : Int, qa * 2 ^ i = sa := ⟨_, rfl⟩
              obtain ⟨sb, hsb⟩ : ∃ sb : Int, qb * 2 ^ i = sb := ⟨_, rfl⟩
              have hp7 : (0 : Int) ≤ 2 ^ i ∧ (2 : Int) ^ i ≤ 128 := pow7 (by omega)
              have hsa2 : 0 ≤ sa ∧ sa ≤ 128 := by rw [← hsa]; exact small_mul hqa2 hp7
              have hsb2 : 0 ≤ sb ∧ sb ≤ 128 := by rw [← hsb]; exact small_mul hqb2 hp7
              obtain ⟨hsa0, hsa1⟩ := hsa2
              obtain ⟨hsb0, hsb1⟩ := hsb2
              obtain ⟨T0, hT0⟩ : ∃ T0, T0 = tsum (fun i => anyT (partE L a P i) 0) i := ⟨_, rfl⟩
              obtain ⟨T1, hT1⟩ : ∃ T1, T1 = tsum (fun i => anyT (partE L a P i) 1) i := ⟨_, rfl⟩
              have hN0 : tsum (fun i => anyT (partE L a P i) 0) (i + 1) = bits .or .i64 T0 sa := by rw [tsum, ← hT0, ← hsa, hqa, HLp.out]
              have hN1 : tsum (fun i => anyT (partE L a P i) 1) (i + 1) = bits .or .i64 T1 sb := by rw [tsum, ← hT1, ← hsb, hqb, HLp.out]
              have HN0 := Lib.hid hN0
              have HN1 := Lib.hid hN1
              have HT0 := Lib.hid hT0
              have HT1 := Lib.hid hT1
              clear hN0 hN1 hqa hqb hqa2 hqb2 hp7 hm hmt hT0 hT1
              have hg1 := (Hbk.out.block (B + 1) (by omega)).trans Hg1.out
              rw [← HT0.out, ← HT1.out] at hg1
              have hca := fun q => cell_of_row wk (B + 1) q _ _ _ hg1
              have hfz := fun q => frozen_of_row wk (B + 1) q _ _ hg1
              have hc8 : wk.cell? ⟨B + 1, 8, none⟩ = some (.int .i64 T0) := hca 8
              have hc9 : wk.cell? ⟨B + 1, 9, none⟩ = some (.int .i64 T1) := hca 9
              have hoth : ∀ q, q ≠ B + 1 → ((wk.setCell ⟨B + 1, 8, none⟩ (.int .i64 (bits .or .i64 T0 sa))).setCell ⟨B + 1, 9, none⟩ (.int .i64 (bits .or .i64 T1 sb))).heap[q]? = wk.heap[q]? := fun q hq => (Below.heap_setCell _ _ _ _ hq).trans (Below.heap_setCell _ _ _ _ hq)
              have hszt : ((wk.setCell ⟨B + 1, 8, none⟩ (.int .i64 (bits .or .i64 T0 sa))).setCell ⟨B + 1, 9, none⟩ (.int .i64 (bits .or .i64 T1 sb))).heap.size = wk.heap.size := by simp [World.setCell]
              have hszk : wi.heap.size ≤ wk.heap.size := Hbk.out.size
              have hBW : W.heap.size ≤ B := by have := HB.out; omega
              have hbt : Below W.heap.size W ((wk.setCell ⟨B + 1, 8, none⟩ (.int .i64 (bits .or .i64 T0 sa))).setCell ⟨B + 1, 9, none⟩ (.int .i64 (bits .or .i64 T1 sb))) := ((Hbe.out.trans (Hbk.out.mono (by omega))).setCell (p := ⟨B + 1, 8, none⟩) (by show W.heap.size ≤ B + 1; omega) _).setCell (p := ⟨B + 1, 9, none⟩) (by show W.heap.size ≤ B + 1; omega) _
              have hpt := ownsRow_put Hpart2.out (show B + 1 < wi.heap.size by omega) hoth
              have hg2 := (hoth B (by omega)).trans ((Hbk.out.block B (by omega)).trans Hg2.out)
              have HIN0 := Lib.hid (inI64_bits .or T0 sa)
              have HIN1 := Lib.hid (inI64_bits .or T1 sb)
              have hg1t : ((wk.setCell ⟨B + 1, 8, none⟩ (.int .i64 (bits .or .i64 T0 sa))).setCell ⟨B + 1, 9, none⟩ (.int .i64 (bits .or .i64 T1 sb))).heap[B + 1]? = some (.cells #[.int .i64 0, .int .i64 0, .int .i64 0, .int .i64 0, .int .i64 0, .int .i64 0, .int .i64 0, .int .i64 0, .int .i64 (bits .or .i64 T0 sa), .int .i64 (bits .or .i64 T1 sb), sv] 26 (0, 0)) := by
                have e1 := heap_setCell_same wk (B + 1) 8 _ 26 (.int .i64 (bits .or .i64 T0 sa)) hg1
                have e2 := heap_setCell_same _ (B + 1) 9 _ 26 (.int .i64 (bits .or .i64 T1 sb)) e1
                rw [e2]; rfl
              have hown6 := ownsRow_put (ownsRow_below Hown.out Hbk.out) (show B + 1 < B + 2 by omega) hoth
              have hkids6 := (Hkids.out.kept Hbk.out).put (show B + 1 < B + 2 by omega) hszt hoth
              have HBe := Lib.hid hbt
              have Hpt := Lib.hid hpt
              have Hg2t := Lib.hid hg2
              have Hg1t := Lib.hid hg1t
              have Hown6 := Lib.hid hown6
              have Hkids6 := Lib.hid hkids6
              have Hszt := Lib.hid (show B + 2 ≤ ((wk.setCell ⟨B + 1, 8, none⟩ (.int .i64 (bits .or .i64 T0 sa))).setCell ⟨B + 1, 9, none⟩ (.int .i64 (bits .or .i64 T1 sb))).heap.size by rw [hszt]; omega)
              clear hca hoth hszt hbt hpt hg2 hg1t hown6 hkids6 hg1 hszk
              go_upto_region 21 with fail
              generalize (wk.setCell ⟨B + 1, 8, none⟩ (.int .i64 (bits .or .i64 T0 sa))).setCell ⟨B + 1, 9, none⟩ (.int .i64 (bits .or .i64 T1 sb)) = wt at HBe Hpt Hg2t Hg1t Hown6 Hkids6 Hszt ⊢
              clear hc8 hc9 hfz Hown Hkids Hg1 Hg2 Hbe Hbk Hpart2
              have hcb := fun q => cell_of_row wt (B + 1) q _ _ _ Hg1t.out
              have hc10 : wt.cell? ⟨B + 1, 10, none⟩ = some sv := hcb 10
              have hfz : wt.frozen? ⟨B + 1, 10, none⟩ = false := frozen_of_row _ _ _ _ _ Hg1t.out
              have hsv : sv.oneCell' = true := by
                rcases Hown6.out.2 with ⟨rfl, _⟩ | ⟨_, _, _, rfl, _⟩ <;> rfl
              clear hcb
              obtain ⟨Kn, hKn⟩ : ∃ Kn, Kn = i * P := ⟨_, rfl⟩
              have hKP : Kn + P ≤ 8 * P := by rw [hKn, ← Nat.succ_mul]; exact Nat.mul_le_mul_right _ hlt
              have hmul : (i : Int) * (P : Int) = (Kn : Int) := by rw [hKn]; simp
              have hKn30 : (Kn : Int) ≤ 1073741824 := by omega
              have hKn0 : 0 ≤ (Kn : Int) := by omega
              have haK : (a : Int) + (Kn : Int) ≤ 1073741824 := by omega
              have hpt2 := ownsRow_below Hpt.out (Below.refl _ _).drew
              rw [show N = Lp.length from HN.out] at hpt2
              have hLok2 := HLok.out
              rw [← hKn] at hLok2
              have hcall := Hih.out wt.drew wi.heap.size _ Lp (a + Kn) hpt2 hLok2 (by omega)
              rw [show ((a + Kn : Nat) : Int) = (a : Int) + (Kn : Int) by omega, ← HN.out] at hcall
              have hkik : ks[i]'(by rw [Hk8.out]; exact hlt) = nodeE l Lp (a + Kn) := by rw [Hkk.out, hKn, HLp.out]
              obtain ⟨kd, hkd⟩ : ∃ kd, kd = nodeE l Lp (a + Kn) := ⟨_, rfl⟩
              rw [← hkd] at hcall hkik
              have Hkik := Lib.hid hkik
              have Hcall := Lib.hid hcall
              have HsvL : Hid (∀ k, sv.ownBlock = some k → B + 2 ≤ k ∧ k < wt.heap.size) := Lib.hid (fun k hk => Hown6.out.lt k hk)
              have HneB : Hid ((some (B + 1) : Option Nat) ≠ sv.ownBlock) := Lib.hid (fun e => by have := HsvL.out _ e.symm; omega)
              have Hw1 := Lib.hid (show IntKind.i64.wrap (Lv - 1) = Lv - 1 by rw [IntKind.wrap_i64]; omega)
              have Hw2 := Lib.hid (show IntKind.i64.wrap ((i : Int) * (P : Int)) = (Kn : Int) by rw [hmul, IntKind.wrap_i64]; omega)
              have Hw3 := Lib.hid (show IntKind.i64.wrap ((a : Int) + (Kn : Int)) = (a : Int) + (Kn : Int) by rw [IntKind.wrap_i64]; omega)
              have Hw4 := Lib.hid (show IntKind.i64.wrap (Kn : Int) = (Kn : Int) by rw [IntKind.wrap_i64]; omega)
              have hB1t : B + 1 < wt.heap.size := by have := Hszt.out; omega
              have h011 : 0 < 11 := by omega
              have h01 : 0 < 1 := by omega
              have h63 : i + 1 ≤ maxLen := by unfold maxLen; omega
              have hby : (i + 1) * 104 ≤ 140737488355328 := by omega
              clear hcall hkd hkik hpt2 hLok2 hKn Hpt
              go_upto_region 22 with fail
              refine wp_last2 fun Kx hKx => ?_
              refine node_append (W := W) (ks := ks) (kd := kd) HB hlt Hk8 HBe Hszt Hg2t Hg1t Hown6 Hkids6 hmul Hkik Hcall Hw1 Hw3 Hw4 ?_
              intro u87 u88 u89 u90 u91 u92 u93 u94 u95 u96 u97 u98 u99 u100 wx sv' xs' Q1 Q2 Q3 Q4 Q5 q6
              have q1 := Q1.out
              rw [← HN0.out, ← HN1.out] at q1
              have Q1 := Lib.hid q1
              clear q1
              refine hKx _ _ ?_
              go_wp2_with fail
              go_roundw
              case rel => exact ⟨i + 1, _, _, by omega, by go_num, Q1, Q2, Q3, Q4, Lib.hid (fun h => by omega), Q5, q6⟩
              case measure => simp [intOf]; omega
    · obtain rfl : i = 8 := by omega
      rw [show ((8 : Nat) : Int) = 8 from rfl]
      have hz : inI64 0 := by unfold inI64; omega
      obtain ⟨T0, hT0⟩ : ∃ T0, T0 = tsum (fun i => anyT (partE L a P i) 0) 8 := ⟨_, rfl⟩
      obtain ⟨T1, hT1⟩ : ∃ T1, T1 = tsum (fun i => anyT (partE L a P i) 1) 8 := ⟨_, rfl⟩
      have hin0 : inI64 T0 := by rw [hT0]; exact inI64_tsum _ _
      have hin1 : inI64 T1 := by rw [hT1]; exact inI64_tsum _ _
      have hk := Hkids.out
      have hw := Hown.out
      rw [← Hk8.out] at hk hw
      obtain ⟨S, hO, hS⟩ := hk.node (Nat.le_refl _) hw (fun h => by have := Hk8.out; rw [h] at this; simp at this) [0, 0, 0, 0, 0, 0, 0, 0] T0 T1 rfl (fun x hx => by simp at hx; subst hx; exact hz) hin0 hin1
      have hg1 := Hg1.out
      rw [← hT0, ← hT1] at hg1
      rw [← hT0, ← hT1] at HP
      have hO' : Owns wi (.mk [0, 0, 0, 0, 0, 0, 0, 0] T0 T1 ks) #[.int .i64 0, .int .i64 0, .int .i64 0, .int .i64 0, .int .i64 0, .int .i64 0, .int .i64 0, .int .i64 0, .int .i64 T0, .int .i64 T1, sv] S := hO
      have hO2 := hO'.other (w' := (wi.setRow B #[.int .i64 0, .int .i64 0, .int .i64 0, .int .i64 0, .int .i64 0, .int .i64 0, .int .i64 0, .int .i64 0, .int .i64 T0, .int .i64 T1, sv])) (g := B) (fun hk => by have := hS _ hk; omega) (fun k hk => setRow_other _ _ _ _ hk)
      have hfin := HP.out (.returned (.agg #[.int .i64 0, .int .i64 0, .int .i64 0, .int .i64 0, .int .i64 0, .int .i64 0, .int .i64 0, .int .i64 0, .int .i64 T0, .int .i64 T1, sv])) _ ⟨⟨_, S, rfl, hO2, fun k hk => by have := hS k hk; have := HB.out; omega⟩, Below.putRow Hbe.out (by have := HB.out; omega) _⟩
      have Hfin := Lib.hid hfin
      have hone := hO'.isN.one
      have hsize := hO'.isN.size
      have Hgg := Lib.hid hg1
      clear hO hO' hS hO2 hfin hk hw hg1 hT0 hT1
      go_wp2_with (first
        | (refine wpList_load_row rfl 26 (.tmp 7) rfl (B + 1) rfl 26 _ _ _ Hgg.out Try.underlying26 rfl size26 ?_)
        | (refine wpList_store_nd rfl (.tmp 6) _ rfl B _ rfl rfl hsize hone 26 _ Hg2.out rfl ?_))
      exact bodyPost_ret (results_cell rfl _ _ B _ rfl (load26 (setRow_heap _ _ _ _ _ _ Hg2.out) rfl)) rfl Hfin.out
end Go.Proofs.Ytmdmbnpgdkmklaa

/-! The reference's node at every level; Build. -/
namespace Go.Proofs.Ytmdmbnpgdkmklaa
open Go.RowKit
set_option linter.unusedVariables false
set_option linter.unusedSimpArgs false

theorem nodeE_nil (l a : Nat) : nodeE l [] a = Nd.zero := by cases l <;> rfl

theorem node_spec (l : Nat) : l ≤ 9 → ∀ (W : World) (base : Nat) (v : Value) (L : List En) (a : Nat), W.ownsRow base 83 3 v L.length (enCells L) → EnOk L a → a + 8 ^ (l + 1) ≤ 1073741824 →
    Calls Try.prog 103 #[v, .int .i64 ((l : Int) + 1), .int .i64 a] W (Cloned W (nodeE l L a)) := by
  induction l with
  | zero =>
    intro _ W base v L a hv hok ha
    by_cases h : L = []
    · subst h; rw [nodeE_nil]; exact node_nil hv _ _
    · exact node_leaf hv hok (by simpa using ha) h
  | succ l ih =>
    intro hl W base v L a hv hok ha
    by_cases h : L = []
    · subst h; rw [nodeE_nil]; exact node_nil hv _ _
    · rw [show ((l + 1 : Nat) : Int) + 1 = (l : Int) + 2 by omega]
      exact node_inner l (by omega) (ih (by omega)) hv hok ha h

theorem hOf_spec : ∀ (f h i : Nat), i < 8 ^ (h + f) → h ≤ hOf f h i ∧ hOf f h i ≤ h + f ∧ i < 8 ^ hOf f h i ∧ ∀ j, h ≤ j → j < hOf f h i → 8 ^ j ≤ i
  | 0, h, i, hi => ⟨Nat.le_refl _, Nat.le_refl _, hi, fun j a b => by rw [hOf] at b; omega⟩
  | f + 1, h, i, hi => by
    rw [hOf]
    by_cases q : i < 8 ^ h
    · rw [if_pos q]
      exact ⟨Nat.le_refl _, by omega, q, fun j a b => by omega⟩
    · rw [if_neg q]
      obtain ⟨h1, h2, h3, h4⟩ := hOf_spec f (h + 1) i (by rw [show h + 1 + f = h + (f + 1) by omega]; exact hi)
      refine ⟨by omega, by omega, h3, fun j a b => ?_⟩
      by_cases e : j = h
      · subst e; omega
      · exact h4 j (by omega) b

theorem lastI_get {L : List En} {m : Nat} (h : L.length = m + 1) : ∃ hm : m < L.length, lastI L = L[m].i := by
  have hm : m < L.length := by omega
  have e : L.length - 1 = m := by omega
  refine ⟨hm, ?_⟩
  unfold lastI
  rw [List.getLast?_eq_getElem?, e, List.getElem?_eq_getElem hm]

set_option maxRecDepth 100000 in
set_option maxHeartbeats 8000000 in
theorem Build_spec {W : World} {base : Nat} {v : Value} {L : List En} (hv : W.ownsRow base 83 3 v L.length (enCells L)) (hok : EnOk L 0) :
    Calls Try.prog 80 #[v] W fun e W' => (∃ c, e = .returned (.agg c) ∧ OwnR W' W.heap.size (buildE L) c) ∧ Below W.heap.size W W' := by
  obtain ⟨post, hpost⟩ : ∃ post : Ending → World → Prop, post = fun e W' => (∃ c, e = .returned (.agg c) ∧ OwnR W' W.heap.size (buildE L) c) ∧ Below W.heap.size W W' := ⟨_, rfl⟩
  have HP : Hid (∀ c W', OwnR W' W.heap.size (buildE L) c → Below W.heap.size W W' → post (.returned (.agg c)) W') := Lib.hid (by rw [hpost]; exact fun c W' a b => ⟨⟨c, rfl, a⟩, b⟩)
  rw [← hpost]
  have hg := heap_alloc_new W (.cells emptyCells 28)
  have hbb : Below W.heap.size W (W.alloc (.cells emptyCells 28)) := (Below.refl _ _).alloc (Nat.le_refl _) _
  have hone : emptyCells.all (·.oneCell') = true := by simp [emptyCells, Value.oneCell']
  have hsz28 : (Try.prog.info? 28).map (·.size) = some emptyCells.size := size28
  clear hpost
  by_cases hL : L = []
  · subst hL
    obtain ⟨p, cp, rfl⟩ : ∃ p cp, v = .slice p 0 cp := by
      rcases hv.2 with ⟨h1, h0⟩ | ⟨g, cap, cur, h1, _⟩
      · exact ⟨none, 0, h1⟩
      · exact ⟨_, _, h1⟩
    have hbe : buildE [] = Rx.empty := rfl
    rw [hbe] at HP
    have Hg := Lib.hid hg
    have Hbb := Lib.hid hbb
    clear hv hg hbb hok
    go_enter Try.func80, Try.ntmps80
    go_wp2_with (first | (refine wpList_store_row (by rfl) 28 (.tmp 2) (.tmp 7) (by rfl) W.heap.size emptyCells (by rfl) (by rfl) 28 _ (by with_reducible exact Hg.out) hsz28 (by rfl) hone ?_))
    exact bodyPost_ret (results_cell rfl _ _ W.heap.size _ rfl (load28 Hg.out rfl)) rfl (HP.out _ _ (ownR_empty _ _) Hbb.out)
  · obtain ⟨m, hm⟩ : ∃ m, L.length = m + 1 := ⟨L.length - 1, by have : L.length ≠ 0 := fun q => hL (List.length_eq_zero_iff.1 q); omega⟩
    obtain ⟨M, hM⟩ : ∃ M, M = L.length := ⟨_, rfl⟩
    obtain ⟨g, cp, rfl⟩ : ∃ g cp, v = .slice (some ⟨g, 0, none⟩) M cp := by
      rcases hv.2 with ⟨h1, h0⟩ | ⟨g, cap, cur, h1, _⟩
      · omega
      · exact ⟨g, cap, by rw [hM]; exact h1⟩
    obtain ⟨hml, hlast⟩ := lastI_get hm
    have hv2 := hv
    rw [hM] at hv2
    obtain ⟨c0, -, -⟩ := own_cell hv2 m hml
    rw [← hlast] at c0
    have hi30 : lastI L < 1073741824 := by rw [hlast]; exact (hok.2 _ (List.getElem_mem _)).2.1
    obtain ⟨li, hli⟩ : ∃ li, li = lastI L := ⟨_, rfl⟩
    obtain ⟨K, hK⟩ : ∃ K, K = hOf 9 1 li := ⟨_, rfl⟩
    have hsp := hOf_spec 9 1 li (by rw [hli]; exact Nat.lt_of_lt_of_le hi30 (by decide))
    rw [← hK] at hsp
    obtain ⟨hK1, hK10, hKi, hKj⟩ := hsp
    have hbe : buildE L = ⟨(K : Int), nodeE (K - 1) L 0⟩ := by unfold buildE; rw [if_neg hL, hK, hli]
    rw [hbe] at HP
    rw [← hli] at c0 hi30
    have hpow : 8 ^ K ≤ 8 ^ 10 := Nat.pow_le_pow_right (by omega) hK10
    have hcall := fun (W' : World) (hB : Below W.heap.size W W') => node_spec (K - 1) (by omega) W' base _ L 0 (ownsRow_below hv hB) hok (by
      rw [show K - 1 + 1 = K by omega]
      have : (8 : Nat) ^ 10 = 1073741824 := by decide
      omega)
    rw [show ((K - 1 : Nat) : Int) + 1 = (K : Int) by omega, show ((0 : Nat) : Int) = 0 from rfl] at hcall
    have hm30 : m + 1 ≤ 1073741824 := by rw [← hm]; exact hok.1
    have hMm : (m : Int) < (M : Int) := by omega
    have hM1 : (M : Int) ≤ 1073741824 := by omega
    have hM0 : ((M : Int) == 0) = false := by simp; omega
    have hsubM : (M : Int) - 1 = (m : Int) := by omega
    have Hcall := Lib.hid hcall
    have HKj := Lib.hid hKj
    have HKi := Lib.hid hKi
    have Hg := Lib.hid hg
    have Hbb := Lib.hid hbb
    have HbA : Hid (Keeps W (W.alloc (.cells emptyCells 28))) := Lib.hid (Keeps.alloc _ _)
    have Hc0 := Lib.hid c0
    clear hv hv2 hlast hml hli hK hKi hKj hbe hpow hcall hok hL hg hbb c0 hm hM
    have hm1 : (m : Int) ≤ 1073741823 := by omega
    have hli1 : (li : Int) ≤ 1073741823 := by omega
    have hwm : IntKind.i64.wrap (m : Int) = (m : Int) := by rw [IntKind.wrap_i64]; omega
    clear hm30 hi30
    go_enter Try.func80, Try.ntmps80
    go_wp2_with fail
    go_loopw [3] (fun hv wr => ∃ h : Nat, 1 ≤ h ∧ h ≤ K ∧ hv = .int .i64 h ∧ Hid (Below W.heap.size W wr) ∧ Hid (wr.heap[W.heap.size]? = some (.cells emptyCells 28 (0, 0)))) (fun hv _ => 11 - (intOf hv).toNat)
    case atStart => exact ⟨1, by omega, hK1, rfl, Hbb, Hg⟩
    case round =>
      clear Hbb Hg HbA
      obtain ⟨h, hh1, hhK, rfl, Hbw, Hgw⟩ := hrel
      have c0 := Keeps.of_below Hbw.out _ _ Hc0.out
      have hspan := fun W => span_spec W h (by omega)
      obtain ⟨P, hP⟩ : ∃ P, P = 8 ^ h := ⟨_, rfl⟩
      rw [← hP] at hspan
      have Hspan := Lib.hid (fun W => (hspan W).mono (R' := fun e w' => e = .returned (.int .i64 (P : Int)) ∧ w' = W) fun e w' ⟨a, b⟩ => ⟨a, b.symm⟩)
      clear hspan
      by_cases hlt : h < K
      · have hd : decide ((P : Int) ≤ (li : Int)) = true := by
          have := HKj.out h hh1 hlt
          simp; omega
        have hd' : decide (P ≤ li) = true := by
          have := HKj.out h hh1 hlt
          simp; omega
        clear hP
        go_wp2_with fail
        go_quiet (first | (go_at_call 102; exact Calls.quiet_of_same (Hspan.out _)))
        go_wp2_with fail
        go_roundw
        case rel => exact ⟨h + 1, by omega, by omega, by go_num, Lib.hid (below_drewN Hbw.out _), Hgw⟩
        case measure => simp [intOf]; omega
      · obtain rfl : h = K := by omega
        have hd : decide ((P : Int) ≤ (li : Int)) = false := by
          have := HKi.out
          simp; omega
        have hd' : decide (P ≤ li) = false := by
          have := HKi.out
          simp; omega
        clear hP
        have Hcall2 := Hcall.out
        clear Hcall
        go_wp2_with fail
        go_quiet (first | (go_at_call 102; exact Calls.quiet_of_same (Hspan.out _)))
        have hbd := below_drewN Hbw.out nq
        have hcall := Hcall2 _ hbd
        have hgd : (wr.drewN nq).heap[W.heap.size]? = some (.cells emptyCells 28 (0, 0)) := Hgw.out
        have Hcall := Lib.hid hcall
        have Hbd := Lib.hid hbd
        have Hgd := Lib.hid hgd
        clear hcall hbd hgd Hcall2
        go_wp2_with fail
        (with_reducible refine Hcall.out.mono ?_)
        rintro e w5 ⟨⟨c5, S5, rfl, hO, hS⟩, hB5⟩
        have hlt0 : W.heap.size < (wr.drewN nq).heap.size := (Array.getElem?_eq_some_iff.1 Hgd.out).1
        have hg5 := (hB5.block W.heap.size hlt0).trans Hgd.out
        have hown : OwnR w5 (W.heap.size + 1) ⟨(h : Int), nodeE (h - 1) L 0⟩ (#[.int .i64 (h : Int)] ++ c5) := ⟨by unfold inI64; simp only; omega, c5, S5, rfl, hO, fun k hk => by have := hS k hk; omega⟩
        have hbe := Hbd.out.trans (hB5.mono Hbd.out.size)
        obtain ⟨y0, y1, y2, y3, y4, y5, y6, y7, yp, yl, yc, rfl⟩ := hO.isN.lit
        simp only [List.append_toArray, List.cons_append, List.nil_append] at hown
        have hfin := HP.out #[.int .i64 (h : Int), .int .i64 y0, .int .i64 y1, .int .i64 y2, .int .i64 y3, .int .i64 y4, .int .i64 y5, .int .i64 y6, .int .i64 y7, .int .i64 (nodeE (h - 1) L 0).t0, .int .i64 (nodeE (h - 1) L 0).t1, .slice yp yl yc] (w5.setRow W.heap.size #[.int .i64 (h : Int), .int .i64 y0, .int .i64 y1, .int .i64 y2, .int .i64 y3, .int .i64 y4, .int .i64 y5, .int .i64 y6, .int .i64 y7, .int .i64 (nodeE (h - 1) L 0).t0, .int .i64 (nodeE (h - 1) L 0).t1, .slice yp yl yc]) ((hown.put (b := W.heap.size) (by omega) _).mono (Nat.le_succ _)) (Below.putRow hbe (Nat.le_refl _) _)
        have Hfin := Lib.hid hfin
        have Hg5 := Lib.hid hg5
        have Hone5 := Lib.hid hown.one
        clear hO hS hB5 hg5 hown hbe hfin hlt0
        go_wp2_with (first | (refine wpList_store_row (by rfl) 28 (.tmp 2) (.tmp 24) (by rfl) W.heap.size #[.int .i64 (h : Int), .int .i64 y0, .int .i64 y1, .int .i64 y2, .int .i64 y3, .int .i64 y4, .int .i64 y5, .int .i64 y6, .int .i64 y7, .int .i64 (nodeE (h - 1) L 0).t0, .int .i64 (nodeE (h - 1) L 0).t1, .slice yp yl yc] (by rfl) (by rfl) 28 _ (by with_reducible exact Hg5.out) size28 (by rfl) Hone5.out ?_))
        exact bodyPost_ret (results_cell rfl _ _ W.heap.size _ rfl (load28 (setRow_heap _ _ _ _ _ _ Hg5.out) rfl)) rfl Hfin.out
end Go.Proofs.Ytmdmbnpgdkmklaa
