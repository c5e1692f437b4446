/- The reference's Count. -/
import Derived.Test.YtmdmbnpgdkmklaaRs6
namespace Go.Proofs.Ytmdmbnpgdkmklaa
open Go.RowKit
set_option linter.unusedVariables false
set_option linter.unusedSimpArgs false

theorem all_filter (r : Rx) (tag : Int) : (if tag < -1 ∨ 1 < tag then [] else r.all.filter fun e => selT tag e.t) = r.entsT tag := by
  unfold Rx.all Rx.entsT
  by_cases h1 : tag < -1 ∨ 1 < tag
  · rw [if_pos h1, if_pos (.inr (.inr h1))]
  · rw [if_neg h1]
    by_cases h2 : r.check ≠ 0 ∨ r.h = 0
    · rw [if_pos h2, if_pos (by rcases h2 with q | q; exact .inl q; exact .inr (.inl q))]; rfl
    · rw [if_neg h2, if_neg (by rintro (q | q | q); exact h2 (.inl q); exact h2 (.inr q); exact h1 q)]

set_option maxRecDepth 100000 in
set_option maxHeartbeats 4000000 in
theorem RCount_spec {w : World} {r : Rx} {c : Array Value} {tag : Int} (h : IsR w r c) (ht : inI64 tag) :
    Calls Try.prog 42 #[.agg c, .int .i64 tag] w fun e w' => e = .returned (.int .i64 (r.count tag)) ∧ Below w.heap.size w w' := by
  have hct : r.count tag = (((if tag < -1 ∨ 1 < tag then [] else r.all.filter fun e => selT tag e.t) : List En).length : Int) := by unfold Rx.count; rw [all_filter]
  obtain ⟨res, hres⟩ : ∃ res, res = r.count tag := ⟨_, rfl⟩
  rw [← hres] at hct ⊢
  have Hct := Lib.hid hct
  have hen := fun (W : World) (k : Keeps w W) => Entries_spec (h.keeps k)
  have hlen := all_length r
  obtain ⟨hh, nc, rfl, hn0⟩ := h
  obtain ⟨x0, x1, x2, x3, x4, x5, x6, x7, xp, xl, xc, rfl⟩ := hn0.lit
  simp only [List.append_toArray, List.cons_append, List.nil_append] at hen ⊢
  obtain ⟨l, hl⟩ : ∃ l, l = r.all := ⟨_, rfl⟩
  rw [← hl] at hen hlen Hct
  have Hen := Lib.hid hen
  have Hlen := Lib.hid hlen
  unfold inI64 at ht
  obtain ⟨ht1, ht2⟩ := ht
  have hbA : Below w.heap.size w (w.alloc (.cells #[.int .i64 r.h, .int .i64 x0, .int .i64 x1, .int .i64 x2, .int .i64 x3, .int .i64 x4, .int .i64 x5, .int .i64 x6, .int .i64 x7, .int .i64 r.root.t0, .int .i64 r.root.t1, .slice xp xl xc] 28)) := (Below.refl _ _).alloc (Nat.le_refl _) _
  have HbA := Lib.hid hbA
  clear hen hlen hn0 hh hres hl hct hbA
  by_cases hlo : tag < -1
  · have hr : res = 0 := by rw [Hct.out, if_pos (.inl hlo)]; rfl
    subst hr
    go_enter Try.func42, Try.ntmps42
    go_wp2_with fail
    go_ret
    exact ⟨rfl, HbA.out⟩
  · by_cases hhi : 1 < tag
    · have hr : res = 0 := by rw [Hct.out, if_pos (.inr hhi)]; rfl
      subst hr
      go_enter Try.func42, Try.ntmps42
      go_wp2_with fail
      go_ret
      exact ⟨rfl, HbA.out⟩
    · have hct2 : res = ((l.filter fun e => selT tag e.t).length : Int) := by rw [Hct.out, if_neg (by omega)]
      have Hct2 := Lib.hid hct2
      clear hct2
      go_enter Try.func42, Try.ntmps42
      go_wp2_with fail
      (with_reducible refine (Hen.out _ (Keeps.alloc _ _)).mono ?_)
      rintro e w2 ⟨v, rfl, hv, hB2⟩
      have hbb : Below w.heap.size w w2 := HbA.out.trans (hB2.mono (by simp))
      obtain ⟨M, hM⟩ : ∃ M, M = l.length := ⟨_, rfl⟩
      obtain ⟨p, cp, rfl⟩ : ∃ p cp, v = .slice p M cp := by
        rcases hv.2 with ⟨h1, h0⟩ | ⟨g, cap, cur, h1, _⟩
        · exact ⟨none, 0, by rw [hM, h0]; exact h1⟩
        · exact ⟨_, _, by rw [hM]; exact h1⟩
      obtain ⟨B0, hB0⟩ : ∃ B0, B0 = (w.alloc (.cells #[.int .i64 r.h, .int .i64 x0, .int .i64 x1, .int .i64 x2, .int .i64 x3, .int .i64 x4, .int .i64 x5, .int .i64 x6, .int .i64 x7, .int .i64 r.root.t0, .int .i64 r.root.t1, .slice xp xl xc] 28)).heap.size := ⟨_, rfl⟩
      have hv' : w2.ownsRow B0 83 3 (.slice p M cp) M (enCells l) := by rw [hB0, hM]; rw [hM] at hv; exact hv
      have hM30 : M ≤ 1073741824 := by have := Hlen.out; omega
      have HM := Lib.hid hM
      have Hv := Lib.hid hv'
      have Hbb := Lib.hid hbb
      clear hv hv' hbb hB2 hM hB0
      go_wp2_with fail
      go_loopw [5, 7] (fun nv kv wr => ∃ k : Nat, k ≤ M ∧ kv = .int .i64 k ∧ nv = .int .i64 (((l.take k).filter fun e => selT tag e.t).length : Int) ∧ Hid (wr.ownsRow B0 83 3 (.slice p M cp) M (enCells l)) ∧ Hid (Below w.heap.size w wr)) (fun _ kv _ => M - (intOf kv).toNat)
      case atStart => exact ⟨0, by omega, rfl, by simp, Hv, Hbb⟩
      case round =>
        clear Hv Hbb
        obtain ⟨k, hk, rfl, rfl, Hv, Hbb⟩ := hrel
        obtain ⟨nn, hnn⟩ : ∃ nn : Nat, nn = ((l.take k).filter fun e => selT tag e.t).length := ⟨_, rfl⟩
        have hnle : nn ≤ k := by
          rw [hnn]
          have := List.length_filter_le (fun e => selT tag e.t) (l.take k)
          rw [List.length_take] at this
          omega
        rw [← hnn]
        have Hnn := Lib.hid hnn
        clear hnn
        by_cases hlt : k < M
        · have hkl : k < l.length := by rw [← HM.out]; exact hlt
          obtain ⟨g, rfl⟩ : ∃ g, p = some ⟨g, 0, none⟩ := by
            rcases Hv.out.2 with ⟨_, h0⟩ | ⟨g, cap, cur, h1, _⟩
            · omega
            · simp only [Value.slice.injEq] at h1
              exact ⟨g, h1.1⟩
          have hvv := Hv.out
          rw [show M = l.length from HM.out] at hvv
          obtain ⟨c0, c1, c2⟩ := own_cell hvv k hkl
          obtain ⟨ej, hej⟩ : ∃ ej, ej = l[k] := ⟨_, rfl⟩
          rw [← hej] at c0 c1 c2
          obtain ⟨ei, ev, et⟩ := ej
          simp only at c0 c1 c2
          have hkM : (k : Int) < (M : Int) := by omega
          obtain ⟨sb, hsb⟩ : ∃ sb, sb = selT tag et := ⟨_, rfl⟩
          have hnx : ((l.take (k + 1)).filter fun e => selT tag e.t).length = if sb = true then nn + 1 else nn := by
            rw [List.take_succ_eq_append_getElem hkl, List.filter_append, List.length_append, ← Hnn.out, ← hej]
            simp only [List.filter_cons, List.filter_nil, ← hsb]
            cases sb <;> rfl
          have hhas := fun W => has_spec W ei ev et tag (by omega) (by omega)
          rw [← hsb] at hhas
          have Hhas := Lib.hid hhas
          have Hnx := Lib.hid hnx
          clear hvv hej hhas hsb hnx
          go_wp2_with fail
          (with_reducible refine (Hhas.out wr).mono ?_)
          rintro e w3 ⟨rfl, hB3⟩
          have Hv3 := Lib.hid (ownsRow_below Hv.out hB3)
          have Hb3 := Lib.hid (Hbb.out.trans (hB3.mono Hbb.out.size))
          clear hB3
          cases sb with
          | true =>
            go_wp2_with fail
            go_roundw
            case rel => exact ⟨k + 1, by omega, by go_num, by rw [Hnx.out]; simp, Hv3, Hb3⟩
            case measure => simp [intOf]; omega
          | false =>
            go_wp2_with fail
            go_roundw
            case rel => exact ⟨k + 1, by omega, by go_num, by rw [Hnx.out]; rfl, Hv3, Hb3⟩
            case measure => simp [intOf]; omega
        · obtain rfl : k = M := by omega
          have hr : res = (nn : Int) := by rw [Hct2.out, Hnn.out, List.take_of_length_le (by rw [HM.out]; exact Nat.le_refl _)]
          subst hr
          go_wp2_with fail
          go_ret
          exact ⟨rfl, Hbb.out⟩
end Go.Proofs.Ytmdmbnpgdkmklaa
