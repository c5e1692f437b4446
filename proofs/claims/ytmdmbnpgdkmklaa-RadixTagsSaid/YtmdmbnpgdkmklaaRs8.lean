/- The reference's Next. -/
import Derived.Test.YtmdmbnpgdkmklaaRs7
namespace Go.Proofs.Ytmdmbnpgdkmklaa
open Go.RowKit
set_option linter.unusedVariables false
set_option linter.unusedSimpArgs false

/-- The next entry with a tag, from a position on. -/
def nextE (l : List En) (k : Nat) (tag : Int) : Int := match (l.drop k).find? (fun e => selT tag e.t) with | none => -1 | some e => (e.i : Int)

theorem nextE_end (l : List En) (tag : Int) (k : Nat) (h : l.length ≤ k) : nextE l k tag = -1 := by
  unfold nextE; rw [List.drop_of_length_le h]; rfl
theorem nextE_hit (l : List En) (tag : Int) (k : Nat) (h : k < l.length) (hs : selT tag l[k].t = true) : nextE l k tag = (l[k].i : Int) := by
  unfold nextE; rw [List.drop_eq_getElem_cons h, List.find?_cons, hs]
theorem nextE_miss (l : List En) (tag : Int) (k : Nat) (h : k < l.length) (hs : selT tag l[k].t = false) : nextE l k tag = nextE l (k + 1) tag := by
  unfold nextE; rw [List.drop_eq_getElem_cons h, List.find?_cons, hs]
theorem atE_le : ∀ (l : List En) (i : Int), atE l i ≤ l.length
  | [], i => Nat.le_refl _
  | e :: l, i => by unfold atE; have := atE_le l i; split <;> simp <;> omega

set_option maxRecDepth 100000 in
set_option maxHeartbeats 4000000 in
theorem RNext_spec {w : World} {r : Rx} {c : Array Value} {from_ tag : Int} (h : IsR w r c) (hf : inI64 from_) (ht : inI64 tag) (hok : 0 ≤ from_ ∧ -1 ≤ tag ∧ tag ≤ 1) :
    Calls Try.prog 41 #[.agg c, .int .i64 from_, .int .i64 tag] w fun e w' => e = .returned (.int .i64 (nextE r.all (atE r.all from_) tag)) ∧ Below w.heap.size w w' := by
  obtain ⟨hf0, hlo, hhi⟩ := hok
  obtain ⟨res, hres⟩ : ∃ res, res = nextE r.all (atE r.all from_) tag := ⟨_, rfl⟩
  rw [← hres]
  have hen := fun (W : World) (k : Keeps w W) => Entries_spec (h.keeps k)
  have hlen := all_length r
  obtain ⟨hh, nc, rfl, hn0⟩ := h
  obtain ⟨x0, x1, x2, x3, x4, x5, x6, x7, xp, xl, xc, rfl⟩ := hn0.lit
  simp only [List.append_toArray, List.cons_append, List.nil_append] at hen ⊢
  obtain ⟨l, hl⟩ : ∃ l, l = r.all := ⟨_, rfl⟩
  rw [← hl] at hen hlen hres
  have Hen := Lib.hid hen
  have Hlen := Lib.hid hlen
  have Hres := Lib.hid hres
  have Hf := Lib.hid hf
  unfold inI64 at ht hf
  obtain ⟨ht1, ht2⟩ := ht
  obtain ⟨hf1, hf2⟩ := hf
  have hbA : Below w.heap.size w (w.alloc (.cells #[.int .i64 r.h, .int .i64 x0, .int .i64 x1, .int .i64 x2, .int .i64 x3, .int .i64 x4, .int .i64 x5, .int .i64 x6, .int .i64 x7, .int .i64 r.root.t0, .int .i64 r.root.t1, .slice xp xl xc] 28)) := (Below.refl _ _).alloc (Nat.le_refl _) _
  have HbA := Lib.hid hbA
  clear hen hlen hn0 hh hres hl hbA
  have d1 : decide (from_ < 0) = false := by simp; omega
  have d2 : decide (tag < -1) = false := by simp; omega
  have d3 : decide (1 < tag) = false := by simp; omega
  go_enter Try.func41, Try.ntmps41
  go_wp2_with fail
  (with_reducible refine (Hen.out _ (Keeps.alloc _ _)).mono ?_)
  rintro e w2 ⟨v, rfl, hv, hB2⟩
  have hbb : Below w.heap.size w w2 := HbA.out.trans (hB2.mono (by simp))
  have Hat := Lib.hid (at_spec hv Hlen.out from_ Hf.out)
  obtain ⟨M, hM⟩ : ∃ M, M = l.length := ⟨_, rfl⟩
  obtain ⟨p, cp, rfl⟩ : ∃ p cp, v = .slice p M cp := by
    rcases hv.2 with ⟨h1, h0⟩ | ⟨g, cap, cur, h1, _⟩
    · exact ⟨none, 0, by rw [hM, h0]; exact h1⟩
    · exact ⟨_, _, by rw [hM]; exact h1⟩
  obtain ⟨B0, hB0⟩ : ∃ B0, B0 = (w.alloc (.cells #[.int .i64 r.h, .int .i64 x0, .int .i64 x1, .int .i64 x2, .int .i64 x3, .int .i64 x4, .int .i64 x5, .int .i64 x6, .int .i64 x7, .int .i64 r.root.t0, .int .i64 r.root.t1, .slice xp xl xc] 28)).heap.size := ⟨_, rfl⟩
  have hv' : w2.ownsRow B0 83 3 (.slice p M cp) M (enCells l) := by rw [hB0, hM]; rw [hM] at hv; exact hv
  have hM30 : M ≤ 1073741824 := by have := Hlen.out; omega
  have HM := Lib.hid hM
  have Hv := Lib.hid hv'
  have Hbb := Lib.hid hbb
  clear hv hv' hbb hB2 hM hB0
  go_wp2_with fail
  (with_reducible refine Hat.out.mono ?_)
  rintro e w3 ⟨rfl, rfl⟩
  obtain ⟨ka, hka⟩ : ∃ ka, ka = atE l from_ := ⟨_, rfl⟩
  have hkM0 : ka ≤ M := by rw [hka, HM.out]; exact atE_le l from_
  rw [← hka]
  have hr0 := Hres.out
  rw [← hka] at hr0
  have Hr0 := Lib.hid hr0
  clear hka hr0 Hres Hat
  go_wp2_with fail
  go_loopw [8] (fun kv wr => ∃ k : Nat, k ≤ M ∧ kv = .int .i64 k ∧ Hid (res = nextE l k tag) ∧ Hid (wr.ownsRow B0 83 3 (.slice p M cp) M (enCells l)) ∧ Hid (Below w.heap.size w wr)) (fun kv _ => M - (intOf kv).toNat)
  case atStart => exact ⟨ka, hkM0, rfl, Hr0, Hv, Hbb⟩
  case round =>
    clear Hv Hbb Hr0
    obtain ⟨k, hk, rfl, Hr, Hv, Hbb⟩ := hrel
    by_cases hlt : k < M
    · have hkl : k < l.length := by rw [← HM.out]; exact hlt
      obtain ⟨g, rfl⟩ : ∃ g, p = some ⟨g, 0, none⟩ := by
        rcases Hv.out.2 with ⟨_, h0⟩ | ⟨g, cap, cur, h1, _⟩
        · omega
        · simp only [Value.slice.injEq] at h1
          exact ⟨g, h1.1⟩
      have hvv := Hv.out
      rw [show M = l.length from HM.out] at hvv
      obtain ⟨c0, c1, c2⟩ := own_cell hvv k hkl
      obtain ⟨ej, hej⟩ : ∃ ej, ej = l[k] := ⟨_, rfl⟩
      have hhit := fun q => nextE_hit l tag k hkl q
      have hmiss := fun q => nextE_miss l tag k hkl q
      rw [← hej] at c0 c1 c2 hhit hmiss
      obtain ⟨ei, ev, et⟩ := ej
      simp only at c0 c1 c2 hhit hmiss
      have hkM : (k : Int) < (M : Int) := by omega
      obtain ⟨sb, hsb⟩ : ∃ sb, sb = selT tag et := ⟨_, rfl⟩
      have hhas := fun W => has_spec W ei ev et tag (by omega) (by omega)
      rw [← hsb] at hhas hhit hmiss
      have Hhas := Lib.hid hhas
      have Hhit := Lib.hid hhit
      have Hmiss := Lib.hid hmiss
      clear hvv hej hhas hsb hhit hmiss
      go_wp2_with fail
      (with_reducible refine (Hhas.out wr).mono ?_)
      rintro e w3 ⟨rfl, hB3⟩
      have Hv3 := Lib.hid (ownsRow_below Hv.out hB3)
      have Hb3 := Lib.hid (Hbb.out.trans (hB3.mono Hbb.out.size))
      replace c0 := (Keeps.of_below hB3) _ _ c0
      clear hB3 c1 c2
      cases sb with
      | true =>
        have hr : res = (ei : Int) := by rw [Hr.out, Hhit.out (by simp)]
        subst hr
        go_wp2_with fail
        go_ret
        exact ⟨rfl, Hb3.out⟩
      | false =>
        have Hr2 := Lib.hid (Hr.out.trans (Hmiss.out (by simp)))
        go_wp2_with fail
        go_roundw
        case rel => exact ⟨k + 1, by omega, by go_num, Hr2, Hv3, Hb3⟩
        case measure => simp [intOf]; omega
    · obtain rfl : k = M := by omega
      have hr : res = -1 := by rw [Hr.out, nextE_end l tag k (by rw [HM.out]; exact Nat.le_refl _)]
      subst hr
      go_wp2_with fail
      go_ret
      exact ⟨rfl, Hbb.out⟩
end Go.Proofs.Ytmdmbnpgdkmklaa
