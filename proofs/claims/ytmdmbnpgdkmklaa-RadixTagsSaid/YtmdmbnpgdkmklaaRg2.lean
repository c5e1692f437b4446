/- The reference's sameNode and Same at two trees that stand for one: true. -/
import Derived.Test.YtmdmbnpgdkmklaaSb
import Derived.WalkSmall
namespace Go.Proofs.Ytmdmbnpgdkmklaa
open Go.RowKit
set_option linter.unusedVariables false
set_option linter.unusedSimpArgs false

set_option maxRecDepth 100000 in
set_option maxHeartbeats 4000000 in
theorem sameNode_spec {w : World} {n : Nd} {c : Array Value} (h : IsN w n c) : ∀ (W : World) (d : Array Value), Keeps w W → IsN W n d →
    Calls Try.prog 71 #[.agg c, .agg d] W fun e w' => e = .returned (.bool true) ∧ Below W.heap.size W w' := by
  induction h with
  | mk v t0 t1 ks a b o cap f hv hvb h0 h1 haa hl hcp hf hk ih =>
    intro W d hK hd
    cases hd with
    | mk _ _ _ _ a' b' o' cap' f' hv' hvb' h0' h1' haa' hl' hcp' hf' hk' =>
    have hr1 := rowAt_new W (ndCells v t0 t1 (.slice a ks.length cap)) 26
    have hr2 := rowAt_new (W.alloc (.cells (ndCells v t0 t1 (.slice a ks.length cap)) 26)) (ndCells v t0 t1 (.slice a' ks.length cap')) 26
    replace hr1 := hr1.keeps (Keeps.alloc _ (.cells (ndCells v t0 t1 (.slice a' ks.length cap')) 26))
    rw [World.size_alloc] at hr2
    obtain ⟨v0, v1, v2, v3, v4, v5, v6, v7, rfl⟩ := list8 hv
    simp only [ndCells, List.map_cons, List.map_nil, List.cons_append, List.nil_append] at hr1 hr2 ⊢
    obtain ⟨V, hV⟩ : ∃ V, V = [v0, v1, v2, v3, v4, v5, v6, v7] := ⟨_, rfl⟩
    have hcV1 := fun (W' : World) (k : Nat) (hk : k < 8) (hr : RowAt W' W.heap.size 0 _) => cellV (b := W.heap.size) (v0 := v0) (v1 := v1) (v2 := v2) (v3 := v3) (v4 := v4) (v5 := v5) (v6 := v6) (v7 := v7) (c8 := .int .i64 t0) (c9 := .int .i64 t1) (c10 := .slice a ks.length cap) hr hk
    have hcV2 := fun (W' : World) (k : Nat) (hk : k < 8) (hr : RowAt W' (W.heap.size + 1) 0 _) => cellV (b := W.heap.size + 1) (v0 := v0) (v1 := v1) (v2 := v2) (v3 := v3) (v4 := v4) (v5 := v5) (v6 := v6) (v7 := v7) (c8 := .int .i64 t0) (c9 := .int .i64 t1) (c10 := .slice a' ks.length cap') hr hk
    rw [← hV] at hcV1 hcV2
    have HcV1 := Lib.hid hcV1
    have HcV2 := Lib.hid hcV2
    have Hf := Lib.hid hf
    have Hf' := Lib.hid hf'
    have Hk := Lib.hid hk
    have Hk' := Lib.hid hk'
    have Ih := Lib.hid ih
    have Haa := Lib.hid haa
    have Haa' := Lib.hid haa'
    clear hcV1 hcV2 hV hv hvb hf hk ih haa h0 h1 hv' hvb' hf' hk' haa' h0' h1' hcp hcp'
    obtain ⟨W2, hW2⟩ : ∃ W2, W2 = (W.alloc (.cells #[.int .i64 v0, .int .i64 v1, .int .i64 v2, .int .i64 v3, .int .i64 v4, .int .i64 v5, .int .i64 v6, .int .i64 v7, .int .i64 t0, .int .i64 t1, .slice a ks.length cap] 26)).alloc (.cells #[.int .i64 v0, .int .i64 v1, .int .i64 v2, .int .i64 v3, .int .i64 v4, .int .i64 v5, .int .i64 v6, .int .i64 v7, .int .i64 t0, .int .i64 t1, .slice a' ks.length cap'] 26) := ⟨_, rfl⟩
    rw [← hW2] at hr1 hr2
    have hB2 : Below W.heap.size W W2 := by rw [hW2]; exact ((Below.refl _ _).alloc (Nat.le_refl _) _).alloc (by simp) _
    have hz2 : W.heap.size + 1 < W2.heap.size := by rw [hW2]; simp
    have HW2 := Lib.hid hW2
    have HR1 := Lib.hid hr1
    have HR2 := Lib.hid hr2
    clear hr1 hr2 hW2
    go_enter Try.func71, Try.ntmps71
    go_wp2_with fail
    rw [← HW2.out]
    go_loopw [5] (fun i wr => ∃ k : Nat, k ≤ 8 ∧ i = .int .i64 k ∧ Below W2.heap.size W2 wr) (fun i _ => 8 - (intOf i).toNat)
    case atStart => exact ⟨0, by omega, rfl, Below.refl _ _⟩
    case round =>
      obtain ⟨k, hk8, rfl, hbe⟩ := hrel
      have hkeep := Keeps.of_below hbe
      by_cases hlt : k < 8
      · have hc1 := HcV1.out wr k hlt (HR1.out.keeps hkeep)
        have hc2 := HcV2.out wr k hlt (HR2.out.keeps hkeep)
        generalize V.getD k 0 = x at *
        have Hkeep := Lib.hid hkeep
        clear hkeep
        go_wp2_with fail
        go_quiet (fail)
        go_wp2_with fail
        go_roundw
        case rel => exact ⟨k + 1, by omega, by go_num, below_drewN hbe _⟩
        case measure => simp [intOf]; omega
      · obtain rfl : k = 8 := by omega
        obtain ⟨wo, hwo⟩ : ∃ wo : World, wo = wr := ⟨_, rfl⟩
        have hcA := HR1.out.keeps hkeep 10 (by simp)
        have hcB := HR2.out.keeps hkeep 10 (by simp)
        simp only [Nat.zero_add] at hcA hcB
        replace hcA : wr.cell? ⟨W.heap.size, 10, none⟩ = some (.slice a ks.length cap) := hcA
        replace hcB : wr.cell? ⟨W.heap.size + 1, 10, none⟩ = some (.slice a' ks.length cap') := hcB
        have hkW : Keeps W wr := (Keeps.of_below hB2).trans hkeep
        have hBW : Below W.heap.size W wr := hB2.trans (hbe.mono (by omega))
        have hzr : W.heap.size + 1 < wr.heap.size := Nat.lt_of_lt_of_le hz2 hbe.size
        have HkW := Lib.hid hkW
        clear HcV1 HcV2 HR1 HR2 HW2 hkeep hbe hz2 hB2 hkW hlt hk8
        subst hwo
        rw [show ((8 : Nat) : Int) = 8 from rfl]
        go_wp2_with fail
        go_loopw [6] (fun i wq => ∃ j : Nat, j ≤ ks.length ∧ i = .int .i64 j ∧ Below wo.heap.size wo wq) (fun i _ => ks.length - (intOf i).toNat)
        case atStart => exact ⟨0, by omega, rfl, Below.refl _ _⟩
        case round =>
          obtain ⟨j, hj, rfl, hbq⟩ := hrel
          have hkq := Keeps.of_below hbq
          replace hcA := hkq _ _ hcA
          replace hcB := hkq _ _ hcB
          have hend : Below W.heap.size W wr := hBW.trans (hbq.mono (by omega))
          have hzq := hbq.size
          by_cases hlt : j < ks.length
          · obtain rfl : a = some ⟨b, o, none⟩ := Haa.out (by rintro rfl; simp at hlt)
            obtain rfl : a' = some ⟨b', o', none⟩ := Haa'.out (by rintro rfl; simp at hlt)
            have hkk : Keeps W wr := HkW.out.trans hkq
            have hn1 := Hk.out j hlt
            have hn2 := (Hk'.out j hlt).keeps hkk
            have hr1 := (Hf.out j hlt).keeps (hK.trans hkk)
            have hr2 := (Hf'.out j hlt).keeps hkk
            have hcall := fun (W' : World) (q : Keeps wr W') => Ih.out j hlt W' (f' j) ((hK.trans hkk).trans q) (hn2.keeps q)
            obtain ⟨x0, x1, x2, x3, x4, x5, x6, x7, x8, x9, x10, hx⟩ := arr11 hn1.size
            obtain ⟨y0, y1, y2, y3, y4, y5, y6, y7, y8, y9, y10, hy⟩ := arr11 hn2.size
            rw [hx] at hr1 hcall
            rw [hy] at hr2 hcall
            obtain ⟨ι, F, hF, hG⟩ := world_class wr
            obtain ⟨i0, hi0⟩ := hG _ (Below.refl _ wr).drew
            have hne : Nonempty ι := ⟨i0⟩
            have hcF := fun (i : ι) => row11 (hr1.keeps (Keeps.of_below (hF i)))
            have hcG := fun (i : ι) => row11 (hr2.keeps (Keeps.of_below (hF i)))
            have g0 := fun i => (hcF i).1
            have g1 := fun i => (hcF i).2.1
            have g2 := fun i => (hcF i).2.2.1
            have g3 := fun i => (hcF i).2.2.2.1
            have g4 := fun i => (hcF i).2.2.2.2.1
            have g5 := fun i => (hcF i).2.2.2.2.2.1
            have g6 := fun i => (hcF i).2.2.2.2.2.2.1
            have g7 := fun i => (hcF i).2.2.2.2.2.2.2.1
            have g8 := fun i => (hcF i).2.2.2.2.2.2.2.2.1
            have g9 := fun i => (hcF i).2.2.2.2.2.2.2.2.2.1
            have g10 := fun i => (hcF i).2.2.2.2.2.2.2.2.2.2
            have e0 := fun i => (hcG i).1
            have e1 := fun i => (hcG i).2.1
            have e2 := fun i => (hcG i).2.2.1
            have e3 := fun i => (hcG i).2.2.2.1
            have e4 := fun i => (hcG i).2.2.2.2.1
            have e5 := fun i => (hcG i).2.2.2.2.2.1
            have e6 := fun i => (hcG i).2.2.2.2.2.2.1
            have e7 := fun i => (hcG i).2.2.2.2.2.2.2.1
            have e8 := fun i => (hcG i).2.2.2.2.2.2.2.2.1
            have e9 := fun i => (hcG i).2.2.2.2.2.2.2.2.2.1
            have e10 := fun i => (hcG i).2.2.2.2.2.2.2.2.2.2
            have cA := fun i => (Keeps.of_below (hF i)) _ _ hcA
            have cB := fun i => (Keeps.of_below (hF i)) _ _ hcB
            have HF := Lib.hid hF
            have HG := Lib.hid hG
            have HFK := Lib.hid (fun i => Keeps.of_below (hF i))
            have Hcall := Lib.hid hcall
            clear hcF hcG hF hG hx hy hkk hn1 hn2 hr1 hr2 hcall hkq
            go_wp2_with fail
            refine wp_region_class F (by kernel_rfl) ⟨i0, hi0⟩ ?_
            clear hcA hcB
            repeat (go_big_quiet_step ((exact Calls.class_of HF HG (Hcall.out _ (HFK.out _)))))
            refine wpQuiet_nil ?_
            rintro w3 ⟨i3, rfl⟩
            go_wp2_with fail
            go_roundw
            case rel => exact ⟨j + 1, by omega, by go_num, hbq.trans ((HF.out _).mono hzq)⟩
            case measure => simp [intOf]; omega
          · obtain rfl : j = ks.length := by omega
            go_wp2_with fail
            go_ret
            exact ⟨rfl, hend⟩

set_option maxRecDepth 100000 in
set_option maxHeartbeats 2000000 in
theorem Same_spec {w : World} {r : Rx} {c d : Array Value} (h : IsR w r c) (h' : IsR w r d) :
    Calls Try.prog 21 #[.agg c, .agg d] w fun e w' => e = .returned (.bool true) ∧ Below w.heap.size w w' := by
  obtain ⟨hh, nc, rfl, hn⟩ := h
  obtain ⟨_, nd, rfl, hm⟩ := h'
  have hr1 := (rowAt_new w (#[.int .i64 r.h] ++ nc) 28).keeps (Keeps.alloc _ (.cells (#[.int .i64 r.h] ++ nd) 28))
  have hr2 := rowAt_new (w.alloc (.cells (#[.int .i64 r.h] ++ nc) 28)) (#[.int .i64 r.h] ++ nd) 28
  rw [World.size_alloc] at hr2
  have hk : Keeps w ((w.alloc (.cells (#[.int .i64 r.h] ++ nc) 28)).alloc (.cells (#[.int .i64 r.h] ++ nd) 28)) := (Keeps.alloc w _).trans (Keeps.alloc _ _)
  have hcall := sameNode_spec hn _ _ hk (hm.keeps hk)
  have hs1 := hn.size
  have hs2 := hm.size
  have hh1 := rowAt_head hr1
  have hh2 := rowAt_head hr2
  have Hr1 := Lib.hid (rowAt_tail hr1)
  have Hr2 := Lib.hid (rowAt_tail hr2)
  have Hc := Lib.hid hcall
  have Hs1 := Lib.hid hs1
  have Hs2 := Lib.hid hs2
  clear hr1 hr2 hcall hs1 hs2 hn hm hk
  go_enter Try.func21, Try.ntmps21
  go_wp2_with (first | (refine wpList_load_nd _ rfl rfl w.heap.size (0 + 1) rfl nc Hs1.out Hr1.out ?_) | (refine wpList_load_nd _ rfl rfl (w.heap.size + 1) (0 + 1) rfl nd Hs2.out Hr2.out ?_))
  (with_reducible refine Hc.out.mono ?_)
  rintro e w2 ⟨rfl, hB2⟩
  go_wp2_with fail
  go_ret
  exact ⟨rfl, (((Below.refl w.heap.size w).alloc (Nat.le_refl _) _).alloc (by simp) _).trans (hB2.mono (by simp; omega))⟩
end Go.Proofs.Ytmdmbnpgdkmklaa
