/- each, Next, Count. -/
import Derived.Test.YtmdmbnpgdkmklaaRi4
namespace Go.Proofs.Ytmdmbnpgdkmklaa
open Go.RowKit
set_option linter.unusedVariables false
set_option linter.unusedSimpArgs false

/-- The entries of a tree with a tag (all for -1). -/
def Rx.entsT (r : Rx) (tag : Int) : List En :=
  if r.check ≠ 0 ∨ r.h = 0 ∨ tag < -1 ∨ 1 < tag then [] else (r.root.ents (r.h.toNat - 1) 0).filter fun e => selT tag e.t

def Each {σ : Type} (W : World) (bv : Nat) (J : σ → World → Prop) (istep : σ → Nat → Bool × σ) (s : σ) (l : List En) (e : Ending) (W' : World) : Prop :=
  e = .returned (.tuple #[]) ∧ J (feed (fun s i _ => istep s i) s l).2 W' ∧ Mo bv W W'

theorem heap_alloc_old3 (w : World) (A B C : Obj) : (((w.alloc A).alloc B).alloc C).heap[w.heap.size]? = some A ∧ (((w.alloc A).alloc B).alloc C).heap[w.heap.size + 1]? = some B ∧ (((w.alloc A).alloc B).alloc C).heap[w.heap.size + 2]? = some C :=
  ⟨(Below.heap_alloc _ C _ (by simp; omega)).trans (heap_alloc2_old w A B), (Below.heap_alloc _ C _ (by simp)).trans (heap_alloc2_new w A B), by
    have h := heap_alloc_new ((w.alloc A).alloc B) C
    rwa [show ((w.alloc A).alloc B).heap.size = w.heap.size + 2 by simp] at h⟩

set_option maxRecDepth 100000 in
set_option maxHeartbeats 4000000 in
theorem each_spec {σ : Type} {w0 : World} {bv fy : Nat} {capt : Array Value} {J : σ → World → Prop} {Pre : σ → Nat → Prop} {istep : σ → Nat → Bool × σ} (hI : YieldsI w0 bv fy capt J Pre istep) (hJ : Stays J) (hIn : Inb w0 bv J) (hbv : w0.heap.size ≤ bv)
    (hfy : fy = 85 ∨ fy = 86 ∨ fy = 90) {r : Rx} {c : Array Value} (h : IsR w0 r c) (tag : Int) (htg : inI64 tag) (s : σ) (W : World) (hO : Okf (fun s i _ => Pre s i) (fun s i _ => istep s i) s (r.entsT tag)) (hs : J s W) (hW : Below w0.heap.size w0 W) (hb : bv < W.heap.size) :
    Calls Try.prog 84 #[.agg c, .int .i64 tag, .func (.func fy) #[] capt] W fun e W' => Each W bv J istep s (r.entsT tag) e W' := by
  have hR := h
  obtain ⟨hh, nc, rfl, hn⟩ := h
  have hch := fun (W' : World) (k : Keeps w0 W') => Check_spec (hR.keeps k)
  obtain ⟨x0, x1, x2, x3, x4, x5, x6, x7, xp, xl, xc, rfl⟩ := hn.lit
  obtain ⟨H, root⟩ := r
  simp only [List.append_toArray, List.cons_append, List.nil_append] at hch hn hh ⊢
  obtain ⟨ck, hck⟩ : ∃ ck, Rx.check ⟨H, root⟩ = ck := ⟨_, rfl⟩
  rw [hck] at hch
  obtain ⟨ents, hents⟩ : ∃ ents, Rx.entsT ⟨H, root⟩ tag = ents := ⟨_, rfl⟩
  rw [hents] at hO ⊢
  have HO := Lib.hid hO
  clear hO
  obtain ⟨post, hpost⟩ : ∃ post : Ending → World → Prop, post = Each W bv J istep s ents := ⟨_, rfl⟩
  have HP : Hid (∀ e W', Each W bv J istep s ents e W' → post e W') := Lib.hid (by rw [hpost]; exact fun e W' a => a)
  rw [← hpost]
  have Hch := Lib.hid hch
  have Hck := Lib.hid hck
  have Hents := Lib.hid hents
  have HI := Lib.hid hI
  have HJ := Lib.hid hJ
  have Hbv := Lib.hid hbv
  have HW := Lib.hid hW
  have Hs := Lib.hid hs
  have Hn := Lib.hid hn
  have Hfy := Lib.hid hfy
  have Hin := Lib.hid hIn
  have HrW : Hid (∀ k, rowOf W bv k → k < W.heap.size) := Lib.hid (fun k q => (hIn s W hs k q).2)
  clear hpost hch hck hents hI hJ hIn hbv hW hs hn hfy hR hh htg
  have hkA := ((Keeps.of_below HW.out).trans ((Keeps.alloc W (.cells #[.int .i64 H, .int .i64 x0, .int .i64 x1, .int .i64 x2, .int .i64 x3, .int .i64 x4, .int .i64 x5, .int .i64 x6, .int .i64 x7, .int .i64 root.t0, .int .i64 root.t1, .slice xp xl xc] 28)).trans ((Keeps.alloc _ (.cells #[.int .i64 tag] 3)).trans (Keeps.alloc _ (.cells #[.func (.func fy) #[] capt] 93)))))
  have HkA := Lib.hid hkA
  clear hkA
  have hnil : ck ≠ 0 ∨ H = 0 ∨ tag < -1 ∨ 1 < tag → ents = [] := fun h => by rw [← Hents.out]; unfold Rx.entsT; rw [Hck.out, if_pos h]
  have Hnil := Lib.hid hnil
  clear hnil
  go_enter Try.func84, Try.ntmps84
  go_wp2_with fail
  (with_reducible refine (Hch.out _ HkA.out).mono ?_)
  rintro e w2 ⟨rfl, hB2⟩
  have hg0 := (hB2.block W.heap.size (by simp; omega)).trans ((heap_alloc_old3 _ _ _ _).1)
  have hg1 := (hB2.block (W.heap.size + 1) (by simp)).trans ((heap_alloc_old3 _ _ _ _).2.1)
  have hg2 := (hB2.block (W.heap.size + 2) (by simp)).trans ((heap_alloc_old3 _ _ _ _).2.2)
  have hbb : Below W.heap.size W w2 := ((((Below.refl W.heap.size W).alloc (Nat.le_refl _) _).alloc (by simp) _).alloc (by simp; omega) _).trans (hB2.mono (by simp; omega))
  have hz : W.heap.size + 2 < w2.heap.size := by have := hB2.size; simp at this; omega
  have hc0 := fun j => cell_of_row w2 W.heap.size j _ _ _ hg0
  have hc1 : w2.cell? ⟨W.heap.size + 1, 0, none⟩ = some (.int .i64 tag) := by rw [cell_of_row _ _ _ _ _ _ hg1]; rfl
  have hc2 : w2.cell? ⟨W.heap.size + 2, 0, none⟩ = some (.func (.func fy) #[] capt) := by rw [cell_of_row _ _ _ _ _ _ hg2]; rfl
  have Hrow := Lib.hid (rowAt_tail (b := W.heap.size) (o := 0) (x := .int .i64 H) (nc := #[.int .i64 x0, .int .i64 x1, .int .i64 x2, .int .i64 x3, .int .i64 x4, .int .i64 x5, .int .i64 x6, .int .i64 x7, .int .i64 root.t0, .int .i64 root.t1, .slice xp xl xc]) (fun j hj => by
    rw [hc0]; simp only [Nat.zero_add]; simp))
  have Hbb := Lib.hid hbb
  have Hs2 := Lib.hid (HJ.out _ _ _ Hs.out hbb)
  have Hfin : Hid (ents = [] → post (.returned (.tuple #[])) w2) := Lib.hid (fun h => HP.out _ _ ⟨rfl, by rw [h]; exact Hs2.out, Mo.of_below Hbb.out⟩)
  clear hg0 hg1 hg2 hB2 hbb
  by_cases hk0 : ck = 0
  · obtain ⟨hH0, hH10, _, hokk⟩ := check_zero (r := ⟨H, root⟩) (by rw [Hck.out]; exact hk0)
    replace hokk : 1 ≤ H → root.ok H.toNat = true := hokk
    replace hH10 : H ≤ 10 := hH10
    replace hH0 : 0 ≤ H := hH0
    have Hokk := Lib.hid hokk
    clear hokk
    by_cases hz0 : H = 0
    · have he := Hnil.out (by simp [hz0])
      have He := Lib.hid he
      have hb0 : (H == 0) = true := by simp [hz0]
      clear he hz0
      have hbk : (ck != 0) = false := by simp [hk0]
      have Hk0 := Lib.hid hk0
      clear hk0
      go_wp2_with fail
      exact bodyPost_ret (results_none rfl _ _ _) rfl (Hfin.out He.out)
    · by_cases ht1 : tag < -1
      · have He := Lib.hid (Hnil.out (.inr (.inr (.inl ht1))))
        have hb0 : (H == 0) = false := by simp [hz0]
        have hbk : (ck != 0) = false := by simp [hk0]
        have hd1 : decide (tag < -1) = true := by simpa using ht1
        have Hk0 := Lib.hid hk0
        clear hk0 hz0 ht1
        go_wp2_with fail
        exact bodyPost_ret (results_none rfl _ _ _) rfl (Hfin.out He.out)
      · by_cases ht2 : 1 < tag
        · have He := Lib.hid (Hnil.out (.inr (.inr (.inr ht2))))
          have hb0 : (H == 0) = false := by simp [hz0]
          have hbk : (ck != 0) = false := by simp [hk0]
          have hd1 : decide (tag < -1) = false := by simpa using ht1
          have hd2 : decide (1 < tag) = true := by simpa using ht2
          have Hk0 := Lib.hid hk0
          clear hk0 hz0 ht1 ht2
          go_wp2_with fail
          exact bodyPost_ret (results_none rfl _ _ _) rfl (Hfin.out He.out)
        · obtain ⟨l, hl⟩ : ∃ l : Nat, H = (l : Int) + 1 := ⟨(H - 1).toNat, by omega⟩
          have hw := walk_spec (J := EachJ J bv fy (W.heap.size + 1) (W.heap.size + 1 + 1) tag capt) (step := stepT tag istep)
            (each1_spec HI.out tag (by omega) (by omega) (by omega) (by omega) Hfy.out) (EachJ.stays HJ.out (by omega) (by omega)) (fun s W' h k q => Hin.out s W' h.1 k q) Hbv.out l (by omega) root _ Hn.out
            (by have := Hokk.out (by omega); rwa [show H.toNat = l + 1 by omega] at this) 0 (by
              have : 8 ^ (l + 1) ≤ 8 ^ 10 := Nat.pow_le_pow_right (by omega) (by omega)
              omega) s w2 (okf_filter tag _ _ (by
              have he2 := HO.out
              rw [← Hents.out] at he2
              unfold Rx.entsT at he2
              rw [if_neg (by rw [Hck.out]; simp only; omega)] at he2
              rwa [show (({ h := H, root := root } : Rx).h.toNat - 1) = l by show H.toNat - 1 = l; omega] at he2)) ⟨Hs2.out, hc1, hc2, by omega, fun k q => by
              have := HrW.out k ((rowOf_below Hbb.out hb).1 q)
              exact ⟨by omega, by omega⟩⟩ (HW.out.trans (Hbb.out.mono HW.out.size)) (by omega)
          rw [← hl, feed_filter] at hw
          have hents : (root.ents l 0).filter (fun e => selT tag e.t) = ents := by
            rw [← Hents.out]; unfold Rx.entsT
            rw [if_neg (by rw [Hck.out]; simp only; omega)]
            show _ = (root.ents (H.toNat - 1) 0).filter _
            rw [show H.toNat - 1 = l by omega]
          rw [hents] at hw
          rw [show ((0 : Nat) : Int) = 0 from rfl] at hw
          have Hw := Lib.hid hw
          have hb0 : (H == 0) = false := by simp [hz0]
          have hbk : (ck != 0) = false := by simp [hk0]
          have hd1 : decide (tag < -1) = false := by simpa using ht1
          have hd2 : decide (1 < tag) = false := by simpa using ht2
          have Hk0 := Lib.hid hk0
          clear hk0 hz0 ht1 ht2 hl hents hw
          go_wp2_with (first | (refine wpList_load_nd (.tmp 22) rfl rfl W.heap.size 1 rfl _ rfl Hrow.out ?_))
          (with_reducible refine Hw.out.mono ?_)
          rintro e w3 ⟨rfl, ⟨hJ3, _, _, _, _⟩, hM3⟩
          have HJ3 := Lib.hid hJ3
          have HM3 := Lib.hid ((Mo.of_below Hbb.out).trans hM3)
          clear hJ3 hM3
          go_wp2_with fail
          exact bodyPost_end (results_none rfl _ _ _) rfl (HP.out _ _ ⟨rfl, HJ3.out, HM3.out⟩)
  · have He := Lib.hid (Hnil.out (.inl hk0))
    have hbk : (ck != 0) = true := by simpa using hk0
    have Hk0 := Lib.hid hk0
    clear hk0
    go_wp2_with fail
    exact bodyPost_ret (results_none rfl _ _ _) rfl (Hfin.out He.out)

end Go.Proofs.Ytmdmbnpgdkmklaa
namespace Go.Proofs.Ytmdmbnpgdkmklaa
open Go.RowKit
set_option linter.unusedVariables false
set_option linter.unusedSimpArgs false

def nextStep (from_ : Int) (s : Int) (i : Nat) : Bool × Int := if from_ ≤ i then (false, (i : Int)) else (true, s)

theorem feed_next (from_ : Int) (l : List En) : ∀ s, (feed (fun s i _ => nextStep from_ s i) s l).2 = match l.find? (fun e => decide (from_ ≤ (e.i : Int))) with | none => s | some e => (e.i : Int) := by
  induction l with
  | nil => intro s; rfl
  | cons e l ih =>
    intro s
    by_cases h : from_ ≤ (e.i : Int)
    · have hs : nextStep from_ s e.i = (false, (e.i : Int)) := by unfold nextStep; rw [if_pos h]
      rw [List.find?_cons_of_pos (by simpa using h)]
      simp only [feed]
      rw [hs]
      rfl
    · have hs : nextStep from_ s e.i = (true, s) := by unfold nextStep; rw [if_neg h]
      rw [List.find?_cons_of_neg (by simpa using h)]
      simp only [feed]
      rw [hs]
      simp only [if_true]
      exact ih s

def Rx.next (r : Rx) (from_ tag : Int) : Int :=
  if from_ < 0 then -1 else match (r.entsT tag).find? (fun e => decide (from_ ≤ (e.i : Int))) with | none => -1 | some e => (e.i : Int)

theorem no_row {W : World} {bv k : Nat} {kd : IntKind} {x : Int} (h : W.cell? ⟨bv, 0, none⟩ = some (.int kd x)) : ¬ rowOf W bv k := by
  rintro ⟨n, cap, q⟩
  rw [h] at q
  cases q

theorem Mo.int {bv : Nat} {W W' : World} {kd : IntKind} {x : Int} (hM : Mod bv W W') (hc : W'.cell? ⟨bv, 0, none⟩ = some (.int kd x)) : Mo bv W W' :=
  ⟨hM.os, hM.tape, hM.output, hM.size, fun _ k h1 h2 _ => hM.block k h1 h2, fun _ k q => absurd q (no_row hc)⟩

def NextJ (bv bf : Nat) (from_ : Int) (s : Int) (W : World) : Prop := (W.cell? ⟨bv, 0, none⟩ = some (.int .i64 s) ∧ W.frozen? ⟨bv, 0, none⟩ = false) ∧ W.cell? ⟨bf, 0, none⟩ = some (.int .i64 from_)

theorem frozen_below {W W' : World} (h : Below W.heap.size W W') {b o : Nat} (hb : b < W.heap.size) (hf : W.frozen? ⟨b, o, none⟩ = false) : W'.frozen? ⟨b, o, none⟩ = false := by
  rw [h.frozen (p := ⟨b, o, none⟩) hb]; exact hf

theorem nextJ_stays (bv bf : Nat) (from_ : Int) : Stays (NextJ bv bf from_) := fun s W W' ⟨⟨a, b⟩, c⟩ h =>
  ⟨⟨(Keeps.of_below h) _ _ a, frozen_below h (lt_of_cell a) b⟩, (Keeps.of_below h) _ _ c⟩

set_option maxRecDepth 100000 in
set_option maxHeartbeats 2000000 in
theorem next1_spec (w0 : World) (bv bf : Nat) (from_ : Int) (hne : bf ≠ bv) (hf : inI64 from_) :
    YieldsI w0 bv 85 #[.pointer (some ⟨bf, 0, none⟩), .pointer (some ⟨bv, 0, none⟩)] (NextJ bv bf from_) (fun _ _ => True) (nextStep from_) := by
  intro s W i hi _ ⟨⟨hc, hfz⟩, hcf⟩ hW hb
  show Calls Try.prog 85 #[.int .i64 i, .pointer (some ⟨bf, 0, none⟩), .pointer (some ⟨bv, 0, none⟩)] W _
  unfold inI64 at hf
  have Hi := Lib.hid hi
  have hi' : (i : Int) ≤ 1073741824 := by omega
  clear hi hW
  by_cases h : from_ ≤ (i : Int)
  · have hst : nextStep from_ s i = (false, (i : Int)) := by unfold nextStep; rw [if_pos h]
    rw [hst]
    have hcf' : (W.setCell ⟨bv, 0, none⟩ (.int .i64 i)).cell? ⟨bf, 0, none⟩ = some (.int .i64 from_) := by
      rw [World.cell?, Below.heap_setCell _ _ _ _ (show bf ≠ bv from hne)]; exact hcf
    have hj : NextJ bv bf from_ (i : Int) (W.setCell ⟨bv, 0, none⟩ (.int .i64 i)) := by
      refine ⟨⟨World.cell?_setCell_same' _ _ _ (by rw [hc]; rfl), by rw [World.frozen?_setCell]; exact hfz⟩, hcf'⟩
    have hm : Mo bv W (W.setCell ⟨bv, 0, none⟩ (.int .i64 i)) := Mo.int ((Mod.refl bv W).setCell 0 _) hj.1.1
    have Hj := Lib.hid hj
    have Hm := Lib.hid hm
    have hd : decide (from_ ≤ (i : Int)) = true := by simpa using h
    have hd2 : decide ((i : Int) < from_) = false := by simpa using h
    clear hst hj hm h
    go_enter Try.func85, Try.ntmps85
    go_wp2_with fail
    go_ret
    exact ⟨rfl, Hj.out, Hm.out⟩
  · have hst : nextStep from_ s i = (true, s) := by unfold nextStep; rw [if_neg h]
    rw [hst]
    have Hj : Hid (NextJ bv bf from_ s W) := Lib.hid ⟨⟨hc, hfz⟩, hcf⟩
    have hd : decide (from_ ≤ (i : Int)) = false := by simpa using h
    have hd2 : decide ((i : Int) < from_) = true := by simpa using h
    clear hst h
    go_enter Try.func85, Try.ntmps85
    go_wp2_with fail
    go_ret
    exact ⟨rfl, Hj.out, Mo.refl _ _⟩

set_option maxRecDepth 100000 in
set_option maxHeartbeats 4000000 in
theorem Next_spec {w : World} {r : Rx} {c : Array Value} (h : IsR w r c) (from_ tag : Int) (hf : inI64 from_) (htg : inI64 tag) :
    Calls Try.prog 33 #[.agg c, .int .i64 from_, .int .i64 tag] w fun e w' => e = .returned (.int .i64 (r.next from_ tag)) ∧ Below w.heap.size w w' := by
  have hR := h
  obtain ⟨hh, nc, rfl, hn⟩ := h
  obtain ⟨x0, x1, x2, x3, x4, x5, x6, x7, xp, xl, xc, rfl⟩ := hn.lit
  simp only [List.append_toArray, List.cons_append, List.nil_append] at hR ⊢
  obtain ⟨H, root⟩ := r
  simp only at hR ⊢
  obtain ⟨res, hres⟩ : ∃ res, Rx.next ⟨H, root⟩ from_ tag = res := ⟨_, rfl⟩
  rw [hres]
  have Hres := Lib.hid hres
  have HR := Lib.hid hR
  clear hR hn hh hres
  by_cases hneg : from_ < 0
  · have hr : res = -1 := by rw [← Hres.out]; unfold Rx.next; rw [if_pos hneg]
    subst hr
    have hd : decide (from_ < 0) = true := by simpa using hneg
    clear hneg
    go_enter Try.func33, Try.ntmps33
    go_wp2_with fail
    go_ret
    exact ⟨rfl, (((Below.refl w.heap.size w).alloc (Nat.le_refl _) _).alloc (by simp) _).alloc (by simp; omega) _⟩
  · have hr : res = match ((⟨H, root⟩ : Rx).entsT tag).find? (fun e => decide (from_ ≤ (e.i : Int))) with | none => -1 | some e => (e.i : Int) := by
      rw [← Hres.out]; unfold Rx.next; rw [if_neg hneg]
    rw [← feed_next] at hr
    have Hr := Lib.hid hr
    have hd : decide (from_ < 0) = false := by simpa using hneg
    have Hf := Lib.hid hf
    have Htg := Lib.hid htg
    clear hneg hr hf htg
    go_enter Try.func33, Try.ntmps33
    go_wp2_with fail
    have hbig : Below w.heap.size w (((w.alloc (.cells #[.int .i64 H, .int .i64 x0, .int .i64 x1, .int .i64 x2, .int .i64 x3, .int .i64 x4, .int .i64 x5, .int .i64 x6, .int .i64 x7, .int .i64 root.t0, .int .i64 root.t1, .slice xp xl xc] 28)).alloc (.cells #[.int .i64 from_] 3)).alloc (.cells #[.int .i64 (-1)] 3)) :=
      (((Below.refl w.heap.size w).alloc (Nat.le_refl _) _).alloc (by simp) _).alloc (by simp; omega) _
    have h1 := (heap_alloc_old3 w (.cells #[.int .i64 H, .int .i64 x0, .int .i64 x1, .int .i64 x2, .int .i64 x3, .int .i64 x4, .int .i64 x5, .int .i64 x6, .int .i64 x7, .int .i64 root.t0, .int .i64 root.t1, .slice xp xl xc] 28) (.cells #[.int .i64 from_] 3) (.cells #[.int .i64 (-1)] 3))
    have hj : NextJ (w.heap.size + 1 + 1) (w.heap.size + 1) from_ (-1) (((w.alloc (.cells #[.int .i64 H, .int .i64 x0, .int .i64 x1, .int .i64 x2, .int .i64 x3, .int .i64 x4, .int .i64 x5, .int .i64 x6, .int .i64 x7, .int .i64 root.t0, .int .i64 root.t1, .slice xp xl xc] 28)).alloc (.cells #[.int .i64 from_] 3)).alloc (.cells #[.int .i64 (-1)] 3)) :=
      ⟨⟨by rw [cell_of_row _ _ _ _ _ _ h1.2.2]; rfl, frozen_of_row _ _ _ _ _ h1.2.2⟩, by rw [cell_of_row _ _ _ _ _ _ h1.2.1]; rfl⟩
    have hcall := each_spec (w0 := w) (bv := w.heap.size + 1 + 1) (next1_spec w (w.heap.size + 1 + 1) (w.heap.size + 1) from_ (by omega) Hf.out) (nextJ_stays _ _ _) (fun s W h k q => absurd q (no_row h.1.1)) (by omega) (.inl rfl) HR.out tag Htg.out (-1) _ (okf_true (fun _ _ _ => trivial) _ _) hj hbig (by simp)
    (with_reducible refine hcall.mono ?_)
    clear hcall h1
    rintro e w4 ⟨rfl, ⟨⟨hc4, _⟩, _⟩, hM4⟩
    rw [← Hr.out] at hc4
    have hend := hM4.below hbig (by omega) (by simp; omega) (by simp) (fun k q => absurd q (no_row hj.1.1))
    clear hM4 hbig hj
    go_wp2_with fail
    go_ret
    exact ⟨rfl, hend⟩
end Go.Proofs.Ytmdmbnpgdkmklaa
namespace Go.Proofs.Ytmdmbnpgdkmklaa
open Go.RowKit
set_option linter.unusedVariables false
set_option linter.unusedSimpArgs false

theorem length_flatMap_le {α β : Type} (l : List α) (f : α → List β) (b : Nat) (h : ∀ x ∈ l, (f x).length ≤ b) : (l.flatMap f).length ≤ l.length * b := by
  induction l with
  | nil => simp
  | cons x l ih =>
    rw [List.flatMap_cons, List.length_append, List.length_cons, Nat.succ_mul]
    have h1 := h x (by simp)
    have h2 := ih (fun y hy => h y (by simp [hy]))
    omega

theorem ents_length (l : Nat) : ∀ (n : Nd) (first : Nat), (n.ents l first).length ≤ 8 ^ (l + 1) := by
  induction l with
  | zero =>
    intro n first
    refine Nat.le_trans (length_flatMap_le _ _ 1 fun d _ => ?_) (by simp)
    split <;> simp
  | succ l ih =>
    intro n first
    refine Nat.le_trans (length_flatMap_le _ _ (8 ^ (l + 1)) fun d _ => ?_) (by rw [List.length_range, Nat.pow_succ _ (l + 1)]; omega)
    split
    · simp
    · exact ih _ _

theorem entsT_length (r : Rx) (tag : Int) : (r.entsT tag).length ≤ 1073741824 := by
  unfold Rx.entsT
  split
  · simp
  · rename_i h
    have hck : r.check = 0 := by omega
    obtain ⟨h0, h10, _, _⟩ := check_zero hck
    refine Nat.le_trans (List.length_filter_le _ _) (Nat.le_trans (ents_length _ _ _) ?_)
    have : 8 ^ (r.h.toNat - 1 + 1) ≤ 8 ^ 10 := Nat.pow_le_pow_right (by omega) (by omega)
    exact Nat.le_trans this (by decide)

def cntStep (s : Int) (_ : Nat) : Bool × Int := (true, wrap64 (s + 1))

theorem feed_cnt (l : List En) : ∀ s : Int, 0 ≤ s → s + l.length ≤ 9223372036854775807 → (feed (fun s i _ => cntStep s i) s l).2 = s + l.length := by
  induction l with
  | nil => intro s _ _; simp [feed]
  | cons e l ih =>
    intro s h0 h1
    simp only [List.length_cons] at h1
    have hw : wrap64 (s + 1) = s + 1 := by unfold wrap64; omega
    simp only [feed]
    rw [show cntStep s e.i = (true, s + 1) by unfold cntStep; rw [hw]]
    simp only [if_true]
    rw [ih (s + 1) (by omega) (by omega), List.length_cons]
    omega

def Rx.count (r : Rx) (tag : Int) : Int := ((r.entsT tag).length : Int)

def CntJ (bv : Nat) (s : Int) (W : World) : Prop := W.cell? ⟨bv, 0, none⟩ = some (.int .i64 s) ∧ W.frozen? ⟨bv, 0, none⟩ = false

theorem cntJ_stays (bv : Nat) : Stays (CntJ bv) := fun s W W' ⟨a, b⟩ h => ⟨(Keeps.of_below h) _ _ a, frozen_below h (lt_of_cell a) b⟩

set_option maxRecDepth 100000 in
set_option maxHeartbeats 2000000 in
theorem count1_spec (w0 : World) (bv : Nat) : YieldsI w0 bv 86 #[.pointer (some ⟨bv, 0, none⟩)] (CntJ bv) (fun _ _ => True) cntStep := by
  intro s W i hi _ ⟨hc, hfz⟩ hW hb
  show Calls Try.prog 86 #[.int .i64 i, .pointer (some ⟨bv, 0, none⟩)] W _
  have hj : CntJ bv (wrap64 (s + 1)) (W.setCell ⟨bv, 0, none⟩ (.int .i64 (wrap64 (s + 1)))) :=
    ⟨World.cell?_setCell_same' _ _ _ (by rw [hc]; rfl), by rw [World.frozen?_setCell]; exact hfz⟩
  have hm : Mo bv W (W.setCell ⟨bv, 0, none⟩ (.int .i64 (wrap64 (s + 1)))) := Mo.int ((Mod.refl bv W).setCell 0 _) hj.1
  have Hj := Lib.hid hj
  have Hm := Lib.hid hm
  rw [show cntStep s i = (true, wrap64 (s + 1)) from rfl]
  clear hj hm hi hW
  go_enter Try.func86, Try.ntmps86
  go_wp2_with fail
  go_ret
  exact ⟨rfl, Hj.out, Hm.out⟩

set_option maxRecDepth 100000 in
set_option maxHeartbeats 4000000 in
theorem Count_spec {w : World} {r : Rx} {c : Array Value} (h : IsR w r c) (tag : Int) (htg : inI64 tag) :
    Calls Try.prog 35 #[.agg c, .int .i64 tag] w fun e w' => e = .returned (.int .i64 (r.count tag)) ∧ Below w.heap.size w w' := by
  have hR := h
  obtain ⟨hh, nc, rfl, hn⟩ := h
  obtain ⟨x0, x1, x2, x3, x4, x5, x6, x7, xp, xl, xc, rfl⟩ := hn.lit
  simp only [List.append_toArray, List.cons_append, List.nil_append] at hR ⊢
  obtain ⟨H, root⟩ := r
  simp only at hR ⊢
  have hr : Rx.count ⟨H, root⟩ tag = (feed (fun s i _ => cntStep s i) 0 ((⟨H, root⟩ : Rx).entsT tag)).2 := by
    rw [feed_cnt _ 0 (by omega) (by have := entsT_length ⟨H, root⟩ tag; omega)]
    unfold Rx.count; omega
  obtain ⟨res, hres⟩ : ∃ res, Rx.count ⟨H, root⟩ tag = res := ⟨_, rfl⟩
  rw [hres] at hr ⊢
  have Hr := Lib.hid hr
  have HR := Lib.hid hR
  have Htg := Lib.hid htg
  clear hR hn hh hres hr htg
  go_enter Try.func35, Try.ntmps35
  go_wp2_with fail
  have hbig : Below w.heap.size w ((w.alloc (.cells #[.int .i64 H, .int .i64 x0, .int .i64 x1, .int .i64 x2, .int .i64 x3, .int .i64 x4, .int .i64 x5, .int .i64 x6, .int .i64 x7, .int .i64 root.t0, .int .i64 root.t1, .slice xp xl xc] 28)).alloc (.cells #[.int .i64 0] 3)) :=
    ((Below.refl w.heap.size w).alloc (Nat.le_refl _) _).alloc (by simp) _
  have h1 := (heap_alloc2_new w (.cells #[.int .i64 H, .int .i64 x0, .int .i64 x1, .int .i64 x2, .int .i64 x3, .int .i64 x4, .int .i64 x5, .int .i64 x6, .int .i64 x7, .int .i64 root.t0, .int .i64 root.t1, .slice xp xl xc] 28) (.cells #[.int .i64 0] 3))
  have hj : CntJ (w.heap.size + 1) 0 ((w.alloc (.cells #[.int .i64 H, .int .i64 x0, .int .i64 x1, .int .i64 x2, .int .i64 x3, .int .i64 x4, .int .i64 x5, .int .i64 x6, .int .i64 x7, .int .i64 root.t0, .int .i64 root.t1, .slice xp xl xc] 28)).alloc (.cells #[.int .i64 0] 3)) :=
    ⟨by rw [cell_of_row _ _ _ _ _ _ h1]; rfl, frozen_of_row _ _ _ _ _ h1⟩
  have hcall := each_spec (w0 := w) (bv := w.heap.size + 1) (count1_spec w (w.heap.size + 1)) (cntJ_stays _) (fun s W h k q => absurd q (no_row h.1)) (by omega) (.inr (.inl rfl)) HR.out tag Htg.out 0 _ (okf_true (fun _ _ _ => trivial) _ _) hj hbig (by simp)
  (with_reducible refine hcall.mono ?_)
  clear hcall h1
  rintro e w4 ⟨rfl, ⟨hc4, _⟩, hM4⟩
  rw [← Hr.out] at hc4
  have hend := hM4.below hbig (by omega) (by simp; omega) (by simp) (fun k q => absurd q (no_row hj.1))
  clear hM4 hbig hj
  go_wp2_with fail
  go_ret
  exact ⟨rfl, hend⟩
end Go.Proofs.Ytmdmbnpgdkmklaa
