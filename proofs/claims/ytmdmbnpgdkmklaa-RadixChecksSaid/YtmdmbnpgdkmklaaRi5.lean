/- radix.each: the contract. -/
import Derived.Test.YtmdmbnpgdkmklaaRi4
namespace Go.Proofs.Ytmdmbnpgdkmklaa
open Go.RowKit
set_option linter.unusedVariables false
set_option linter.unusedSimpArgs false

/-- The entries of a tree with a tag (all for -1). -/
def Rx.entsT (r : Rx) (tag : Int) : List En :=
  if r.check ≠ 0 ∨ r.h = 0 ∨ tag < -1 ∨ 1 < tag then [] else (r.root.ents (r.h.toNat - 1) 0).filter fun e => selT tag e.t

def Each {σ : Type} (W : World) (bv : Nat) (J : σ → World → Prop) (istep : σ → Nat → Bool × σ) (s : σ) (l : List En) (e : Ending) (W' : World) : Prop :=
  e = .returned (.tuple #[]) ∧ J (feed (fun s i _ => istep s i) s l).2 W' ∧ Mod bv W W'

theorem heap_alloc_old3 (w : World) (A B C : Obj) : (((w.alloc A).alloc B).alloc C).heap[w.heap.size]? = some A ∧ (((w.alloc A).alloc B).alloc C).heap[w.heap.size + 1]? = some B ∧ (((w.alloc A).alloc B).alloc C).heap[w.heap.size + 2]? = some C :=
  ⟨(Below.heap_alloc _ C _ (by simp; omega)).trans (heap_alloc2_old w A B), (Below.heap_alloc _ C _ (by simp)).trans (heap_alloc2_new w A B), by
    have h := heap_alloc_new ((w.alloc A).alloc B) C
    rwa [show ((w.alloc A).alloc B).heap.size = w.heap.size + 2 by simp] at h⟩

set_option maxRecDepth 100000 in
set_option maxHeartbeats 4000000 in
theorem each_spec {σ : Type} {w0 : World} {bv fy : Nat} {capt : Array Value} {J : σ → World → Prop} {istep : σ → Nat → Bool × σ} (hI : YieldsI w0 bv fy capt J istep) (hJ : Stays J) (hbv : w0.heap.size ≤ bv)
    (hfy : fy = 85 ∨ fy = 86 ∨ fy = 90) {r : Rx} {c : Array Value} (h : IsR w0 r c) (tag : Int) (htg : inI64 tag) (s : σ) (W : World) (hs : J s W) (hW : Below w0.heap.size w0 W) (hb : bv < W.heap.size) :
    Calls Try.prog 84 #[.agg c, .int .i64 tag, .func (.func fy) #[] capt] W fun e W' => Each W bv J istep s (r.entsT tag) e W' := by
  have hR := h
  obtain ⟨hh, nc, rfl, hn⟩ := h
  have hch := fun (W' : World) (k : Keeps w0 W') => Check_spec (hR.keeps k)
  obtain ⟨x0, x1, x2, x3, x4, x5, x6, x7, xp, xl, xc, rfl⟩ := hn.lit
  obtain ⟨H, root⟩ := r
  simp only [List.append_toArray, List.cons_append, List.nil_append] at hch hn hh ⊢
  obtain ⟨ck, hck⟩ : ∃ ck, Rx.check ⟨H, root⟩ = ck := ⟨_, rfl⟩
  rw [hck] at hch
  obtain ⟨ents, hents⟩ : ∃ ents, Rx.entsT ⟨H, root⟩ tag = ents := ⟨_, rfl⟩
  rw [hents]
  obtain ⟨post, hpost⟩ : ∃ post : Ending → World → Prop, post = Each W bv J istep s ents := ⟨_, rfl⟩
  have HP : Hid (∀ e W', Each W bv J istep s ents e W' → post e W') := Lib.hid (by rw [hpost]; exact fun e W' a => a)
  rw [← hpost]
  have Hch := Lib.hid hch
  have Hck := Lib.hid hck
  have Hents := Lib.hid hents
  have HI := Lib.hid hI
  have HJ := Lib.hid hJ
  have Hbv := Lib.hid hbv
  have HW := Lib.hid hW
  have Hs := Lib.hid hs
  have Hn := Lib.hid hn
  have Hfy := Lib.hid hfy
  clear hpost hch hck hents hI hJ hbv hW hs hn hfy hR hh htg
  have hkA := ((Keeps.of_below HW.out).trans ((Keeps.alloc W (.cells #[.int .i64 H, .int .i64 x0, .int .i64 x1, .int .i64 x2, .int .i64 x3, .int .i64 x4, .int .i64 x5, .int .i64 x6, .int .i64 x7, .int .i64 root.t0, .int .i64 root.t1, .slice xp xl xc] 28)).trans ((Keeps.alloc _ (.cells #[.int .i64 tag] 3)).trans (Keeps.alloc _ (.cells #[.func (.func fy) #[] capt] 93)))))
  have HkA := Lib.hid hkA
  clear hkA
  have hnil : ck ≠ 0 ∨ H = 0 ∨ tag < -1 ∨ 1 < tag → ents = [] := fun h => by rw [← Hents.out]; unfold Rx.entsT; rw [Hck.out, if_pos h]
  have Hnil := Lib.hid hnil
  clear hnil
  go_enter Try.func84, Try.ntmps84
  go_wp2_with fail
  (with_reducible refine (Hch.out _ HkA.out).mono ?_)
  rintro e w2 ⟨rfl, hB2⟩
  have hg0 := (hB2.block W.heap.size (by simp; omega)).trans ((heap_alloc_old3 _ _ _ _).1)
  have hg1 := (hB2.block (W.heap.size + 1) (by simp)).trans ((heap_alloc_old3 _ _ _ _).2.1)
  have hg2 := (hB2.block (W.heap.size + 2) (by simp)).trans ((heap_alloc_old3 _ _ _ _).2.2)
  have hbb : Below W.heap.size W w2 := ((((Below.refl W.heap.size W).alloc (Nat.le_refl _) _).alloc (by simp) _).alloc (by simp; omega) _).trans (hB2.mono (by simp; omega))
  have hz : W.heap.size + 2 < w2.heap.size := by have := hB2.size; simp at this; omega
  have hc0 := fun j => cell_of_row w2 W.heap.size j _ _ _ hg0
  have hc1 : w2.cell? ⟨W.heap.size + 1, 0, none⟩ = some (.int .i64 tag) := by rw [cell_of_row _ _ _ _ _ _ hg1]; rfl
  have hc2 : w2.cell? ⟨W.heap.size + 2, 0, none⟩ = some (.func (.func fy) #[] capt) := by rw [cell_of_row _ _ _ _ _ _ hg2]; rfl
  have Hrow := Lib.hid (rowAt_tail (b := W.heap.size) (o := 0) (x := .int .i64 H) (nc := #[.int .i64 x0, .int .i64 x1, .int .i64 x2, .int .i64 x3, .int .i64 x4, .int .i64 x5, .int .i64 x6, .int .i64 x7, .int .i64 root.t0, .int .i64 root.t1, .slice xp xl xc]) (fun j hj => by
    rw [hc0]; simp only [Nat.zero_add]; simp))
  have Hbb := Lib.hid hbb
  have Hs2 := Lib.hid (HJ.out _ _ _ Hs.out hbb)
  have Hfin : Hid (ents = [] → post (.returned (.tuple #[])) w2) := Lib.hid (fun h => HP.out _ _ ⟨rfl, by rw [h]; exact Hs2.out, Mod.of_below Hbb.out⟩)
  clear hg0 hg1 hg2 hB2 hbb
  by_cases hk0 : ck = 0
  · obtain ⟨hH0, hH10, _, hokk⟩ := check_zero (r := ⟨H, root⟩) (by rw [Hck.out]; exact hk0)
    replace hokk : 1 ≤ H → root.ok H.toNat = true := hokk
    replace hH10 : H ≤ 10 := hH10
    replace hH0 : 0 ≤ H := hH0
    have Hokk := Lib.hid hokk
    clear hokk
    by_cases hz0 : H = 0
    · have he := Hnil.out (by simp [hz0])
      have He := Lib.hid he
      have hb0 : (H == 0) = true := by simp [hz0]
      clear he hz0
      have hbk : (ck != 0) = false := by simp [hk0]
      have Hk0 := Lib.hid hk0
      clear hk0
      go_wp2_with fail
      exact bodyPost_ret (results_none rfl _ _ _) rfl (Hfin.out He.out)
    · by_cases ht1 : tag < -1
      · have He := Lib.hid (Hnil.out (.inr (.inr (.inl ht1))))
        have hb0 : (H == 0) = false := by simp [hz0]
        have hbk : (ck != 0) = false := by simp [hk0]
        have hd1 : decide (tag < -1) = true := by simpa using ht1
        have Hk0 := Lib.hid hk0
        clear hk0 hz0 ht1
        go_wp2_with fail
        exact bodyPost_ret (results_none rfl _ _ _) rfl (Hfin.out He.out)
      · by_cases ht2 : 1 < tag
        · have He := Lib.hid (Hnil.out (.inr (.inr (.inr ht2))))
          have hb0 : (H == 0) = false := by simp [hz0]
          have hbk : (ck != 0) = false := by simp [hk0]
          have hd1 : decide (tag < -1) = false := by simpa using ht1
          have hd2 : decide (1 < tag) = true := by simpa using ht2
          have Hk0 := Lib.hid hk0
          clear hk0 hz0 ht1 ht2
          go_wp2_with fail
          exact bodyPost_ret (results_none rfl _ _ _) rfl (Hfin.out He.out)
        · obtain ⟨l, hl⟩ : ∃ l : Nat, H = (l : Int) + 1 := ⟨(H - 1).toNat, by omega⟩
          have hw := walk_spec (J := fun s W' => J s W' ∧ W'.cell? ⟨W.heap.size + 1, 0, none⟩ = some (.int .i64 tag) ∧ W'.cell? ⟨W.heap.size + 1 + 1, 0, none⟩ = some (.func (.func fy) #[] capt)) (step := stepT tag istep)
            (each1_spec HI.out tag (by omega) (by omega) (by omega) (by omega) Hfy.out) (fun s A B ⟨a, b, c⟩ hB => ⟨HJ.out _ _ _ a hB, (Keeps.of_below hB) _ _ b, (Keeps.of_below hB) _ _ c⟩) Hbv.out l (by omega) root _ Hn.out
            (by have := Hokk.out (by omega); rwa [show H.toNat = l + 1 by omega] at this) 0 (by
              have : 8 ^ (l + 1) ≤ 8 ^ 10 := Nat.pow_le_pow_right (by omega) (by omega)
              omega) s w2 ⟨Hs2.out, hc1, hc2⟩ (HW.out.trans (Hbb.out.mono HW.out.size)) (by omega)
          rw [← hl, feed_filter] at hw
          have hents : (root.ents l 0).filter (fun e => selT tag e.t) = ents := by
            rw [← Hents.out]; unfold Rx.entsT
            rw [if_neg (by rw [Hck.out]; simp only; omega)]
            show _ = (root.ents (H.toNat - 1) 0).filter _
            rw [show H.toNat - 1 = l by omega]
          rw [hents] at hw
          rw [show ((0 : Nat) : Int) = 0 from rfl] at hw
          have Hw := Lib.hid hw
          have hb0 : (H == 0) = false := by simp [hz0]
          have hbk : (ck != 0) = false := by simp [hk0]
          have hd1 : decide (tag < -1) = false := by simpa using ht1
          have hd2 : decide (1 < tag) = false := by simpa using ht2
          have Hk0 := Lib.hid hk0
          clear hk0 hz0 ht1 ht2 hl hents hw
          go_wp2_with (first | (refine wpList_load_nd (.tmp 22) rfl rfl W.heap.size 1 rfl _ rfl Hrow.out ?_))
          (with_reducible refine Hw.out.mono ?_)
          rintro e w3 ⟨rfl, ⟨hJ3, _, _⟩, hM3⟩
          have HJ3 := Lib.hid hJ3
          have HM3 := Lib.hid ((Mod.of_below Hbb.out).trans hM3)
          clear hJ3 hM3
          go_wp2_with fail
          exact bodyPost_end (results_none rfl _ _ _) rfl (HP.out _ _ ⟨rfl, HJ3.out, HM3.out⟩)
  · have He := Lib.hid (Hnil.out (.inl hk0))
    have hbk : (ck != 0) = true := by simpa using hk0
    have Hk0 := Lib.hid hk0
    clear hk0
    go_wp2_with fail
    exact bodyPost_ret (results_none rfl _ _ _) rfl (Hfin.out He.out)

end Go.Proofs.Ytmdmbnpgdkmklaa
