/- The reference's Tagged. -/
import Derived.Test.YtmdmbnpgdkmklaaRs11
namespace Go.Proofs.Ytmdmbnpgdkmklaa
open Go.RowKit
set_option linter.unusedVariables false
set_option linter.unusedSimpArgs false

/-- Whether the entry at an index has a tag, by the list of entries. -/
def taggedE (l : List En) (i tag : Int) : Bool :=
  (decide (tag = 0) || decide (tag = 1)) && match l[atE l i]? with | none => false | some e => decide ((e.i : Int) = i) && selT tag e.t

set_option maxRecDepth 100000 in
set_option maxHeartbeats 4000000 in
theorem RTagged_spec {w : World} {r : Rx} {c : Array Value} {i tag : Int} (h : IsR w r c) (hi : inI64 i) (ht : inI64 tag) :
    Calls Try.prog 40 #[.agg c, .int .i64 i, .int .i64 tag] w fun e w' => e = .returned (.bool (taggedE r.all i tag)) ∧ Below w.heap.size w w' := by
  obtain ⟨res, hres⟩ : ∃ res, res = taggedE r.all i tag := ⟨_, rfl⟩
  have Hres := Lib.hid hres
  rw [← hres]
  have hen := fun (W : World) (k : Keeps w W) => Entries_spec (h.keeps k)
  have hlen := all_length r
  obtain ⟨hh, nc, rfl, hn0⟩ := h
  obtain ⟨x0, x1, x2, x3, x4, x5, x6, x7, xp, xl, xc, rfl⟩ := hn0.lit
  simp only [List.append_toArray, List.cons_append, List.nil_append] at hen ⊢
  obtain ⟨l, hl⟩ : ∃ l, l = r.all := ⟨_, rfl⟩
  rw [← hl] at hen hlen Hres
  have Hen := Lib.hid hen
  have Hlen := Lib.hid hlen
  have Hi := Lib.hid hi
  clear hen hlen hn0 hh hres hl hi
  go_enter Try.func40, Try.ntmps40
  go_wp2_with fail
  (with_reducible refine (Hen.out _ (Keeps.alloc _ _)).mono ?_)
  rintro e w2 ⟨v, rfl, hv, hB2⟩
  have hbb : Below w.heap.size w w2 := ((Below.refl w.heap.size w).alloc (Nat.le_refl _) _).trans (hB2.mono (by simp))
  have hat := at_spec hv Hlen.out i Hi.out
  have Hat := Lib.hid hat
  have Hv := Lib.hid hv
  have Hbb := Lib.hid hbb
  obtain ⟨M, hM⟩ : ∃ M, M = l.length := ⟨_, rfl⟩
  obtain ⟨p, cp, rfl⟩ : ∃ p cp, v = .slice p M cp := by
    rcases hv.2 with ⟨h1, h0⟩ | ⟨g, cap, cur, h1, _⟩
    · exact ⟨none, 0, by rw [hM, h0]; exact h1⟩
    · exact ⟨_, _, by rw [hM]; exact h1⟩
  have hM30 : M ≤ 1073741824 := by have := Hlen.out; omega
  have HM := Lib.hid hM
  clear hat hv hbb hB2 hM
  go_wp2_with fail
  (with_reducible refine Hat.out.mono ?_)
  rintro e w3 ⟨rfl, rfl⟩
  obtain ⟨k, hk⟩ : ∃ k, k = atE l i := ⟨_, rfl⟩
  rw [← hk]
  have Hk := Lib.hid hk
  clear hk
  have hi := Hi.out
  unfold inI64 at hi
  obtain ⟨hi1, hi2⟩ := hi
  unfold inI64 at ht
  obtain ⟨ht1, ht2⟩ := ht
  by_cases htag : tag = 0 ∨ tag = 1
  · by_cases hlt : k < M
    · have hkl : k < l.length := by rw [← HM.out]; exact hlt
      obtain ⟨g, rfl⟩ : ∃ g, p = some ⟨g, 0, none⟩ := by
        rcases Hv.out.2 with ⟨_, h0⟩ | ⟨g, cap, cur, h1, _⟩
        · have := HM.out; omega
        · simp only [Value.slice.injEq] at h1
          exact ⟨g, h1.1⟩
      have hvv := Hv.out
      rw [show M = l.length from HM.out] at hvv
      obtain ⟨c0, c1, c2⟩ := own_cell hvv k hkl
      obtain ⟨ej, hej⟩ : ∃ ej, ej = l[k] := ⟨_, rfl⟩
      rw [← hej] at c0 c1 c2
      obtain ⟨ei, ev, et⟩ := ej
      simp only at c0 c1 c2
      have hkM : (k : Int) < (M : Int) := by omega
      have hd : decide ((k : Int) < (M : Int)) = true := by simpa using hlt
      have hge : res = (decide ((ei : Int) = i) && selT tag et) := by
        rw [Hres.out]
        unfold taggedE
        rw [← Hk.out, List.getElem?_eq_getElem hkl, ← hej]
        rcases htag with rfl | rfl <;> simp
      have hhas := fun W => has_spec W ei ev et tag (by omega) (by omega)
      have Hge := Lib.hid hge
      have Hhas := Lib.hid hhas
      clear hvv hej hge hhas
      by_cases hq : (ei : Int) = i
      · have hr : res = selT tag et := by rw [Hge.out, decide_eq_true hq, Bool.true_and]
        have Hr := Lib.hid hr
        clear hr
        subst hq
        obtain ⟨st, hst⟩ : ∃ st, st = selT tag et := ⟨_, rfl⟩
        rw [← hst] at Hhas Hr
        have hr2 := Hr.out
        subst hr2
        clear hst
        rcases htag with rfl | rfl
        · go_wp2_with fail
          (with_reducible refine (Hhas.out _).mono ?_)
          rintro e w5 ⟨rfl, hB5⟩
          have Hfin := Lib.hid (Hbb.out.trans (hB5.mono Hbb.out.size))
          clear hB5
          go_wp2_with fail
          go_ret
          exact ⟨rfl, Hfin.out⟩
        · go_wp2_with fail
          (with_reducible refine (Hhas.out _).mono ?_)
          rintro e w5 ⟨rfl, hB5⟩
          have Hfin := Lib.hid (Hbb.out.trans (hB5.mono Hbb.out.size))
          clear hB5
          go_wp2_with fail
          go_ret
          exact ⟨rfl, Hfin.out⟩
      · have hr : res = false := by rw [Hge.out, decide_eq_false hq, Bool.false_and]
        subst hr
        have hb : ((ei : Int) == i) = false := by simpa using hq
        rcases htag with rfl | rfl
        · go_wp2_with fail
          go_ret
          exact ⟨rfl, Hbb.out⟩
        · go_wp2_with fail
          go_ret
          exact ⟨rfl, Hbb.out⟩
    · have hd : decide ((k : Int) < (M : Int)) = false := by simp; omega
      have hr : res = false := by
        rw [Hres.out]
        unfold taggedE
        rw [← Hk.out, List.getElem?_eq_none (by have := HM.out; omega), Bool.and_false]
      subst hr
      rcases htag with rfl | rfl
      · go_wp2_with fail
        go_ret
        exact ⟨rfl, Hbb.out⟩
      · go_wp2_with fail
        go_ret
        exact ⟨rfl, Hbb.out⟩
  · have h0 : (tag == 0) = false := by simp; exact fun q => htag (.inl q)
    have h1 : (tag == 1) = false := by simp; exact fun q => htag (.inr q)
    have hr : res = false := by
      rw [Hres.out]
      unfold taggedE
      rw [decide_eq_false (fun q => htag (.inl q)), decide_eq_false (fun q => htag (.inr q))]
      rfl
    subst hr
    go_wp2_with fail
    go_ret
    exact ⟨rfl, Hbb.out⟩
end Go.Proofs.Ytmdmbnpgdkmklaa
