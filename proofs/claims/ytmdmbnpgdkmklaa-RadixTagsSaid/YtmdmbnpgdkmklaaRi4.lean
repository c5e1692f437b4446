/- radix.each: the entries with a tag are handed to the yield function. -/
import Derived.Test.YtmdmbnpgdkmklaaRi3
namespace Go.Proofs.Ytmdmbnpgdkmklaa
open Go.RowKit
set_option linter.unusedVariables false
set_option linter.unusedSimpArgs false

/-- What a yield function of an index does. -/
def YieldsI {σ : Type} (w0 : World) (bv fy : Nat) (capt : Array Value) (J : σ → World → Prop) (Pre : σ → Nat → Prop) (istep : σ → Nat → Bool × σ) : Prop :=
  ∀ (s : σ) (W : World) (i : Nat), i < 1073741824 → Pre s i → J s W → Below w0.heap.size w0 W → bv < W.heap.size →
    Calls Try.prog fy (#[.int .i64 i] ++ capt) W fun e W' => e = .returned (.bool (istep s i).1) ∧ J (istep s i).2 W' ∧ Mo bv W W'

/-- Whether an entry's tags hold the tag that is asked for (all do for a tag below 0). -/
def selT (tag t : Int) : Bool := decide (tag < 0) || (bits .and .i64 (t / 2 ^ tag.toNat) 1 != 0)

def stepT {σ : Type} (tag : Int) (istep : σ → Nat → Bool × σ) (s : σ) (i : Nat) (t : Int) : Bool × σ := if selT tag t = true then istep s i else (true, s)

theorem feed_filter {σ : Type} (tag : Int) (istep : σ → Nat → Bool × σ) (l : List En) : ∀ s, feed (stepT tag istep) s l = feed (fun s i _ => istep s i) s (l.filter fun e => selT tag e.t) := by
  induction l with
  | nil => intro s; rfl
  | cons e l ih =>
    intro s
    by_cases h : selT tag e.t = true
    · rw [List.filter_cons_of_pos (by simpa using h)]
      simp only [feed, stepT, h, if_true]
      split
      · exact ih _
      · rfl
    · rw [List.filter_cons_of_neg (by simpa using h)]
      simp only [feed, stepT, if_neg h, if_true]
      exact ih s

theorem okf_filter {σ : Type} {Pre : σ → Nat → Prop} {istep : σ → Nat → Bool × σ} (tag : Int) : ∀ (l : List En) (s : σ), Okf (fun s i _ => Pre s i) (fun s i _ => istep s i) s (l.filter fun e => selT tag e.t) →
    Okf (fun s i t => selT tag t = true → Pre s i) (stepT tag istep) s l
  | [], _, _ => trivial
  | e :: l, s, h => by
    by_cases q : selT tag e.t = true
    · rw [List.filter_cons_of_pos (by simpa using q)] at h
      refine ⟨fun _ => h.1, fun p => ?_⟩
      have e1 : stepT tag istep s e.i e.t = istep s e.i := by unfold stepT; rw [if_pos q]
      rw [e1] at p ⊢
      exact okf_filter tag l _ (h.2 p)
    · rw [List.filter_cons_of_neg (by simpa using q)] at h
      refine ⟨fun p => absurd p q, fun p => ?_⟩
      have e1 : stepT tag istep s e.i e.t = (true, s) := by unfold stepT; rw [if_neg q]
      rw [e1]
      exact okf_filter tag l _ h

/-- The state of each: that of the yield function, the two cells that the inner function captured. -/
def EachJ {σ : Type} (J : σ → World → Prop) (bv fy bt by_ : Nat) (tag : Int) (capt : Array Value) (s : σ) (W : World) : Prop :=
  J s W ∧ W.cell? ⟨bt, 0, none⟩ = some (.int .i64 tag) ∧ W.cell? ⟨by_, 0, none⟩ = some (.func (.func fy) #[] capt) ∧ bv < W.heap.size ∧ ∀ k, rowOf W bv k → k ≠ bt ∧ k ≠ by_

theorem EachJ.mo {σ : Type} {J : σ → World → Prop} {bv fy bt by_ : Nat} {tag : Int} {capt : Array Value} {s s' : σ} {W W' : World} (h : EachJ J bv fy bt by_ tag capt s W) (hbt : bt ≠ bv) (hby : by_ ≠ bv) (hs : J s' W') (hM : Mo bv W W') : EachJ J bv fy bt by_ tag capt s' W' := by
  obtain ⟨_, h1, h2, h3, h4⟩ := h
  refine ⟨hs, hM.cell h1 hbt h3 (fun q => (h4 _ q).1 rfl), hM.cell h2 hby h3 (fun q => (h4 _ q).2 rfl), Nat.lt_of_lt_of_le h3 hM.size, fun k q => ?_⟩
  rcases hM.rowK h3 k q with q | q
  · exact h4 k q
  · have := lt_of_cell h1
    have := lt_of_cell h2
    exact ⟨by omega, by omega⟩

theorem EachJ.stays {σ : Type} {J : σ → World → Prop} {bv fy bt by_ : Nat} {tag : Int} {capt : Array Value} (hJ : Stays J) (hbt : bt ≠ bv) (hby : by_ ≠ bv) : Stays (EachJ J bv fy bt by_ tag capt) :=
  fun s W W' h hB => h.mo hbt hby (hJ s W W' h.1 hB) (Mo.of_below hB)

set_option maxRecDepth 100000 in
set_option maxHeartbeats 4000000 in
theorem each1_spec {σ : Type} {w0 : World} {bv fy bt by_ : Nat} {capt : Array Value} {J : σ → World → Prop} {Pre : σ → Nat → Prop} {istep : σ → Nat → Bool × σ} (hI : YieldsI w0 bv fy capt J Pre istep) (tag : Int) (ht1 : -1 ≤ tag) (ht2 : tag ≤ 1) (hbt : bt ≠ bv) (hby : by_ ≠ bv) (hfy : fy = 85 ∨ fy = 86 ∨ fy = 90) :
    Yields w0 bv (.pointer (some ⟨bt, 0, none⟩)) (.pointer (some ⟨by_, 0, none⟩))
      (EachJ J bv fy bt by_ tag capt) (fun s i t => selT tag t = true → Pre s i) (stepT tag istep) := by
  intro s W i t hi ht0 ht3 hpre hs hW hb
  have hsE := hs
  obtain ⟨hs, hct, hcy, -, -⟩ := hs
  have hcall := fun q => hI s W i hi (hpre q) hs hW hb
  have Hcall := Lib.hid hcall
  have Hs := Lib.hid hs
  have Hi := Lib.hid hi
  have Hpost : Hid (∀ s' W', J s' W' → Mo bv W W' → EachJ J bv fy bt by_ tag capt s' W') :=
    Lib.hid (fun s' W' hs' hM => hsE.mo hbt hby hs' hM)
  obtain ⟨post, hpost⟩ : ∃ post : Ending → World → Prop, post = fun e W' => e = .returned (.bool (stepT tag istep s i t).1) ∧ EachJ J bv fy bt by_ tag capt (stepT tag istep s i t).2 W' ∧ Mo bv W W' := ⟨_, rfl⟩
  have HP : Hid (∀ e W', e = .returned (.bool (stepT tag istep s i t).1) → J (stepT tag istep s i t).2 W' → Mo bv W W' → post e W') := Lib.hid (by rw [hpost]; exact fun e W' a b c => ⟨a, Hpost.out _ _ b c, c⟩)
  show Calls Try.prog 106 #[.int .i64 i, .int .i64 t, .pointer (some ⟨bt, 0, none⟩), .pointer (some ⟨by_, 0, none⟩)] W _
  rw [← hpost]
  clear hI hcall hs hi hW hpost Hpost hsE hpre
  by_cases hneg : tag < 0
  · have hsel : Hid (stepT tag istep s i t = istep s i) := Lib.hid (by unfold stepT selT; rw [decide_eq_true hneg]; rfl)
    replace Hcall := Lib.hid (Hcall.out (by unfold selT; rw [decide_eq_true hneg]; rfl))
    rcases hfy with rfl | rfl | rfl
    · go_enter Try.func106, Try.ntmps106
      go_wp2_with fail
      (with_reducible refine Hcall.out.mono ?_)
      rintro e w2 ⟨rfl, hJ2, hM2⟩
      obtain ⟨ans, hans⟩ : ∃ ans, (istep s i).1 = ans := ⟨_, rfl⟩
      rw [hans]
      have Hj := Lib.hid hJ2
      have Hans := Lib.hid hans
      have Hm := Lib.hid hM2
      clear hJ2 hM2 hans
      go_wp2_with fail
      exact HP.out _ _ (by rw [hsel.out, Hans.out]; rfl) (by rw [hsel.out]; exact Hj.out) Hm.out
    · go_enter Try.func106, Try.ntmps106
      go_wp2_with fail
      (with_reducible refine Hcall.out.mono ?_)
      rintro e w2 ⟨rfl, hJ2, hM2⟩
      obtain ⟨ans, hans⟩ : ∃ ans, (istep s i).1 = ans := ⟨_, rfl⟩
      rw [hans]
      have Hj := Lib.hid hJ2
      have Hans := Lib.hid hans
      have Hm := Lib.hid hM2
      clear hJ2 hM2 hans
      go_wp2_with fail
      exact HP.out _ _ (by rw [hsel.out, Hans.out]; rfl) (by rw [hsel.out]; exact Hj.out) Hm.out
    · go_enter Try.func106, Try.ntmps106
      go_wp2_with fail
      (with_reducible refine Hcall.out.mono ?_)
      rintro e w2 ⟨rfl, hJ2, hM2⟩
      obtain ⟨ans, hans⟩ : ∃ ans, (istep s i).1 = ans := ⟨_, rfl⟩
      rw [hans]
      have Hj := Lib.hid hJ2
      have Hans := Lib.hid hans
      have Hm := Lib.hid hM2
      clear hJ2 hM2 hans
      go_wp2_with fail
      exact HP.out _ _ (by rw [hsel.out, Hans.out]; rfl) (by rw [hsel.out]; exact Hj.out) Hm.out
  · obtain ⟨tg, htg⟩ : ∃ tg : Nat, tag = (tg : Int) ∧ tg ≤ 1 := ⟨tag.toNat, by omega, by omega⟩
    obtain ⟨rfl, htg1⟩ := htg
    obtain ⟨q, hq⟩ : ∃ q, bits .and .i64 (t / 2 ^ tg) 1 = q := ⟨_, rfl⟩
    by_cases hq0 : q = 0
    · subst hq0
      have hsel : Hid (stepT (tg : Int) istep s i t = (true, s)) := Lib.hid (by unfold stepT selT; rw [show ((tg : Int)).toNat = tg by omega, hq, decide_eq_false hneg]; rfl)
      go_enter Try.func106, Try.ntmps106
      go_wp2_with fail
      exact HP.out _ _ (by rw [hsel.out]) (by rw [hsel.out]; exact Hs.out) (Mo.refl _ _)
    · have hsel : Hid (stepT (tg : Int) istep s i t = istep s i) := Lib.hid (by
        unfold stepT selT
        rw [show ((tg : Int)).toNat = tg by omega, hq, decide_eq_false hneg, if_pos (by simpa using hq0)])
      replace Hcall := Lib.hid (Hcall.out (by
        unfold selT
        rw [show ((tg : Int)).toNat = tg by omega, hq, decide_eq_false hneg, show (q != 0) = true by simpa using hq0]; rfl))
      have hqb : (q == 0) = false := by simpa using hq0
      rcases hfy with rfl | rfl | rfl
      · go_enter Try.func106, Try.ntmps106
        go_wp2_with fail
        (with_reducible refine Hcall.out.mono ?_)
        rintro e w2 ⟨rfl, hJ2, hM2⟩
        obtain ⟨ans, hans⟩ : ∃ ans, (istep s i).1 = ans := ⟨_, rfl⟩
        rw [hans]
        have Hj := Lib.hid hJ2
        have Hans := Lib.hid hans
        have Hm := Lib.hid hM2
        clear hJ2 hM2 hans
        go_wp2_with fail
        exact HP.out _ _ (by rw [hsel.out, Hans.out]; rfl) (by rw [hsel.out]; exact Hj.out) Hm.out
      · go_enter Try.func106, Try.ntmps106
        go_wp2_with fail
        (with_reducible refine Hcall.out.mono ?_)
        rintro e w2 ⟨rfl, hJ2, hM2⟩
        obtain ⟨ans, hans⟩ : ∃ ans, (istep s i).1 = ans := ⟨_, rfl⟩
        rw [hans]
        have Hj := Lib.hid hJ2
        have Hans := Lib.hid hans
        have Hm := Lib.hid hM2
        clear hJ2 hM2 hans
        go_wp2_with fail
        exact HP.out _ _ (by rw [hsel.out, Hans.out]; rfl) (by rw [hsel.out]; exact Hj.out) Hm.out
      · go_enter Try.func106, Try.ntmps106
        go_wp2_with fail
        (with_reducible refine Hcall.out.mono ?_)
        rintro e w2 ⟨rfl, hJ2, hM2⟩
        obtain ⟨ans, hans⟩ : ∃ ans, (istep s i).1 = ans := ⟨_, rfl⟩
        rw [hans]
        have Hj := Lib.hid hJ2
        have Hans := Lib.hid hans
        have Hm := Lib.hid hM2
        clear hJ2 hM2 hans
        go_wp2_with fail
        exact HP.out _ _ (by rw [hsel.out, Hans.out]; rfl) (by rw [hsel.out]; exact Hj.out) Hm.out

end Go.Proofs.Ytmdmbnpgdkmklaa
