/- The reference's Get. -/
import Derived.Test.YtmdmbnpgdkmklaaRs5
namespace Go.Proofs.Ytmdmbnpgdkmklaa
open Go.RowKit
set_option linter.unusedVariables false
set_option linter.unusedSimpArgs false

/-- The value at an index by the list of entries. -/
def getE (l : List En) (i : Int) : Int := match l[atE l i]? with | none => 0 | some e => if (e.i : Int) = i then e.v else 0

theorem all_length (r : Rx) : r.all.length ≤ 1073741824 := by
  unfold Rx.all
  split
  · simp
  · rename_i hc
    have hck : r.check = 0 := Classical.byContradiction fun q => hc (.inl q)
    obtain ⟨h0, h1, _, _⟩ := check_zero hck
    have := ents_length (r.h.toNat - 1) r.root 0
    have hp : 8 ^ (r.h.toNat - 1 + 1) ≤ 8 ^ 10 := Nat.pow_le_pow_right (by omega) (by omega)
    have h10 : (8 : Nat) ^ 10 = 1073741824 := by decide
    omega

set_option maxRecDepth 100000 in
set_option maxHeartbeats 4000000 in
theorem RGet_spec {w : World} {r : Rx} {c : Array Value} {i : Int} (h : IsR w r c) (hi : inI64 i) :
    Calls Try.prog 27 #[.agg c, .int .i64 i] w fun e w' => e = .returned (.int .i64 (getE r.all i)) ∧ Below w.heap.size w w' := by
  obtain ⟨res, hres⟩ : ∃ res, res = getE r.all i := ⟨_, rfl⟩
  have Hres := Lib.hid hres
  rw [← hres]
  have hen := fun (W : World) (k : Keeps w W) => Entries_spec (h.keeps k)
  have hlen := all_length r
  obtain ⟨hh, nc, rfl, hn0⟩ := h
  obtain ⟨x0, x1, x2, x3, x4, x5, x6, x7, xp, xl, xc, rfl⟩ := hn0.lit
  simp only [List.append_toArray, List.cons_append, List.nil_append] at hen ⊢
  obtain ⟨l, hl⟩ : ∃ l, l = r.all := ⟨_, rfl⟩
  rw [← hl] at hen hlen Hres
  have Hen := Lib.hid hen
  have Hlen := Lib.hid hlen
  have Hi := Lib.hid hi
  clear hen hlen hn0 hh hres hl hi
  go_enter Try.func27, Try.ntmps27
  go_wp2_with fail
  (with_reducible refine (Hen.out _ (Keeps.alloc _ _)).mono ?_)
  rintro e w2 ⟨v, rfl, hv, hB2⟩
  have hbb : Below w.heap.size w w2 := ((Below.refl w.heap.size w).alloc (Nat.le_refl _) _).trans (hB2.mono (by simp))
  have hat := at_spec hv Hlen.out i Hi.out
  have Hat := Lib.hid hat
  have Hv := Lib.hid hv
  have Hbb := Lib.hid hbb
  obtain ⟨M, hM⟩ : ∃ M, M = l.length := ⟨_, rfl⟩
  obtain ⟨p, cp, rfl⟩ : ∃ p cp, v = .slice p M cp := by
    rcases hv.2 with ⟨h1, h0⟩ | ⟨g, cap, cur, h1, _⟩
    · exact ⟨none, 0, by rw [hM, h0]; exact h1⟩
    · exact ⟨_, _, by rw [hM]; exact h1⟩
  have hM30 : M ≤ 1073741824 := by have := Hlen.out; omega
  have HM := Lib.hid hM
  clear hat hv hbb hB2 hM
  go_wp2_with fail
  (with_reducible refine Hat.out.mono ?_)
  rintro e w3 ⟨rfl, rfl⟩
  obtain ⟨k, hk⟩ : ∃ k, k = atE l i := ⟨_, rfl⟩
  rw [← hk]
  have Hk := Lib.hid hk
  clear hk
  have hi := Hi.out
  unfold inI64 at hi
  obtain ⟨hi1, hi2⟩ := hi
  by_cases hlt : k < M
  · have hkl : k < l.length := by rw [← HM.out]; exact hlt
    obtain ⟨g, rfl⟩ : ∃ g, p = some ⟨g, 0, none⟩ := by
      rcases Hv.out.2 with ⟨_, h0⟩ | ⟨g, cap, cur, h1, _⟩
      · have := HM.out; omega
      · simp only [Value.slice.injEq] at h1
        exact ⟨g, h1.1⟩
    have hvv := Hv.out
    rw [show M = l.length from HM.out] at hvv
    obtain ⟨c0, c1, -⟩ := own_cell hvv k hkl
    obtain ⟨ej, hej⟩ : ∃ ej, ej = l[k] := ⟨_, rfl⟩
    rw [← hej] at c0 c1
    obtain ⟨ei, ev, et⟩ := ej
    simp only at c0 c1
    have hkM : (k : Int) < (M : Int) := by omega
    have hd : decide ((k : Int) < (M : Int)) = true := by simpa using hlt
    have hge : getE l i = if (ei : Int) = i then ev else 0 := by
      unfold getE
      rw [← Hk.out, List.getElem?_eq_getElem hkl, ← hej]
    have Hge := Lib.hid hge
    clear hvv hej hge
    by_cases hq : (ei : Int) = i
    · have hr : res = ev := by rw [Hres.out, Hge.out, if_pos hq]
      subst hr
      have hb : ((ei : Int) == i) = true := by simpa using hq
      go_wp2_with fail
      go_ret
      exact ⟨rfl, Hbb.out⟩
    · have hr : res = 0 := by rw [Hres.out, Hge.out, if_neg hq]
      subst hr
      have hb : ((ei : Int) == i) = false := by simpa using hq
      go_wp2_with fail
      go_ret
      exact ⟨rfl, Hbb.out⟩
  · have hd : decide ((k : Int) < (M : Int)) = false := by simp; omega
    have hr : res = 0 := by
      rw [Hres.out]
      unfold getE
      rw [← Hk.out, List.getElem?_eq_none (by have := HM.out; omega)]
    subst hr
    go_wp2_with fail
    go_ret
    exact ⟨rfl, Hbb.out⟩
end Go.Proofs.Ytmdmbnpgdkmklaa
