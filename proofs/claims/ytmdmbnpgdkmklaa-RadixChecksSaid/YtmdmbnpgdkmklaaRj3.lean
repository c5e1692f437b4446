/- Children that a call has made, one behind the other in a row of its own. -/
import Derived.Test.YtmdmbnpgdkmklaaRj1
import Derived.Deep.AppendLies
namespace Go.Proofs.Ytmdmbnpgdkmklaa
open Go.RowKit
set_option linter.unusedVariables false
set_option linter.unusedSimpArgs false

/-- The first j children lie in the row 'xs' of the slice 'sv', each with a tree of its own, from block B on, none of them in sv's own block. -/
def KidsAt (B : Nat) (w : World) (ks : List Nd) (j : Nat) (sv : Value) (xs : List Value) : Prop :=
  ∃ (g : Nat → Array Value) (F : Nat → Nat → Prop), (∀ i, i < j → (g i).size = 11 ∧ ∀ q, q < 11 → xs[i * 11 + q]? = (g i)[q]?) ∧
    (∀ i (h : i < ks.length), i < j → Owns w ks[i] (g i) (F i)) ∧ (∀ i k, i < j → F i k → B ≤ k ∧ k < w.heap.size ∧ sv.ownBlock ≠ some k) ∧
    (∀ i i' k, i < j → i' < j → i ≠ i' → F i k → ¬ F i' k)

theorem KidsAt.zero (B : Nat) (w : World) (ks : List Nd) (sv : Value) : KidsAt B w ks 0 sv [] :=
  ⟨fun _ => #[], fun _ _ => False, fun i hi => by omega, fun i h hi => by omega, fun i k hi => by omega, fun i i' k hi => by omega⟩

theorem KidsAt.kept {B : Nat} {w w' : World} {ks : List Nd} {j : Nat} {sv : Value} {xs : List Value} (h : KidsAt B w ks j sv xs) (hb : Below w.heap.size w w') : KidsAt B w' ks j sv xs := by
  obtain ⟨g, F, h1, h2, h3, h4⟩ := h
  exact ⟨g, F, h1, fun i hl hi => (h2 i hl hi).kept hb, fun i k hi hk => ⟨(h3 i k hi hk).1, Nat.lt_of_lt_of_le (h3 i k hi hk).2.1 hb.size, (h3 i k hi hk).2.2⟩, h4⟩

/-- One child more, behind a call that made it (in the world wx) and an append (in the world w). -/
theorem KidsAt.succ {B : Nat} {wx w w' : World} {ks : List Nd} {j : Nat} {sv : Value} {xs : List Value} {c : Array Value} {S : Nat → Prop} {gg cap n : Nat} (h : KidsAt B wx ks j sv xs) (hBx : B ≤ wx.heap.size)
    (hxs : xs.length = j * 11) (hj : j < ks.length) (hb : Below wx.heap.size wx w) (ho : Owns w ks[j] c S) (hc : c.size = 11) (hS : ∀ k, S k → wx.heap.size ≤ k) (hsv : ∀ k, sv.ownBlock = some k → k < wx.heap.size)
    (hg : w.grownBy w' sv.ownBlock) (hat : sv.ownBlock = some gg ∨ gg = w.heap.size) : KidsAt B w' ks (j + 1) (.slice (some ⟨gg, 0, none⟩) n cap) (xs ++ c.toList) := by
  obtain ⟨g, F, h1, h2, h3, h4⟩ := h
  have hSlt := ho.lt
  refine ⟨fun i => if i = j then c else g i, fun i => if i = j then S else F i, ?_, ?_, ?_, ?_⟩
  · intro i hi
    by_cases e : i = j
    · subst e
      simp only [if_true]
      refine ⟨hc, fun q hq => ?_⟩
      rw [List.getElem?_append_right (by omega), hxs]
      simp
    · simp only [if_neg e]
      refine ⟨(h1 i (by omega)).1, fun q hq => ?_⟩
      have hlt : i * 11 + q < xs.length := by rw [hxs]; omega
      rw [List.getElem?_append_left hlt]
      exact (h1 i (by omega)).2 q hq
  · intro i hl hi
    by_cases e : i = j
    · subst e
      simp only [if_true]
      refine ho.frame (fun k hk => hg.block k (hSlt k hk) (fun e => ?_))
      have := hsv k e.symm
      have := hS k hk
      omega
    · simp only [if_neg e]
      have hb2 := h2 i hl (by omega)
      refine (hb2.kept hb).frame (fun k hk => ?_)
      have h3k := h3 i k (by omega) hk
      exact hg.block k (Nat.lt_of_lt_of_le h3k.2.1 hb.size) (fun e => h3k.2.2 e.symm)
  · intro i k hi hk
    have hgk : ∀ k, k < w.heap.size → sv.ownBlock ≠ some k → (some gg : Option Nat) ≠ some k := fun k hk hne e => by
      obtain rfl := Option.some.inj e
      rcases hat with hat | hat
      · exact hne hat
      · omega
    by_cases e : i = j
    · subst e
      simp only [if_true] at hk
      have hk1 := hS k hk
      have hk2 := hSlt k hk
      exact ⟨by omega, Nat.lt_of_lt_of_le hk2 hg.size, hgk k hk2 (fun e => by have := hsv k e; omega)⟩
    · simp only [if_neg e] at hk
      have h3k := h3 i k (by omega) hk
      have hlt : k < w.heap.size := Nat.lt_of_lt_of_le h3k.2.1 hb.size
      exact ⟨h3k.1, Nat.lt_of_lt_of_le hlt hg.size, hgk k hlt h3k.2.2⟩
  · intro i i' k hi hi' hne hk
    by_cases e : i = j
    · have e' : i' ≠ j := by omega
      simp only [if_pos e] at hk
      simp only [if_neg e']
      intro hk'
      have := (h3 i' k (by omega) hk').2.1
      have := hS k hk
      omega
    · simp only [if_neg e] at hk
      by_cases e' : i' = j
      · simp only [if_pos e']
        intro hk'
        have := (h3 i k (by omega) hk).2.1
        have := hS k hk'
        omega
      · simp only [if_neg e']
        exact h4 i i' k (by omega) (by omega) hne hk

/-- All children there: a node of the call's own. -/
theorem KidsAt.node {B base : Nat} {w : World} {ks : List Nd} {sv : Value} {xs : List Value} (h : KidsAt B w ks ks.length sv xs) (hbase : B ≤ base) (hown : w.ownsRow base 26 11 sv ks.length xs) (h0 : ks = [] → sv = .slice none 0 0)
    (v : List Int) (t0 t1 : Int) (hv : v.length = 8) (hvb : ∀ x ∈ v, inI64 x) (ht0 : inI64 t0) (ht1 : inI64 t1) :
    ∃ S, Owns w (.mk v t0 t1 ks) (ndCells v t0 t1 sv) S ∧ ∀ k, S k → B ≤ k := by
  by_cases hks : ks = []
  · subst hks
    rw [h0 rfl]
    exact ⟨_, .leaf v t0 t1 hv hvb ht0 ht1, fun k hk => hk.elim⟩
  · obtain ⟨g, F, h1, h2, h3, h4⟩ := h
    rcases hown.2 with ⟨_, hn⟩ | ⟨b, cap, cur, rfl, hb, hg, hnc, hm, hcs, htake⟩
    · exact absurd (List.length_eq_zero_iff.1 hn) hks
    · refine ⟨_, .node v t0 t1 ks b cap cur g F hv hvb ht0 ht1 hks ⟨hnc, by unfold maxLen at hm; omega⟩ hg hcs ?_ (fun i hi => h2 i hi hi) ?_ (fun i j k hi hj hne hk => h4 i j k hi hj hne hk), ?_⟩
      · intro i hi q hq
        rw [cell_of_row w b _ cur 26 (0, 0) hg]
        have := (h1 i hi).2 q (by rw [(h1 i hi).1] at hq; exact hq)
        rw [← htake, List.getElem?_take] at this
        split at this
        · rw [Array.getElem?_toList] at this
          rw [this, Array.getElem?_eq_getElem hq]
        · rename_i hlt
          have := (h1 i hi).1
          omega
      · intro i hi hF
        exact (h3 i b hi hF).2.2 rfl
      · intro k hk
        rcases hk with rfl | ⟨i, hi, hk⟩
        · omega
        · exact (h3 i k hi hk).1

theorem Owns.other {w w' : World} {n : Nd} {c : Array Value} {S : Nat → Prop} {g : Nat} (h : Owns w n c S) (hg : ¬ S g) (hw : ∀ k, k ≠ g → w'.heap[k]? = w.heap[k]?) : Owns w' n c S :=
  h.frame (fun k hk => hw k (fun e => hg (e ▸ hk)))

/-- A store into a block below B leaves the children. -/
theorem KidsAt.put {B g : Nat} {w w' : World} {ks : List Nd} {j : Nat} {sv : Value} {xs : List Value} (h : KidsAt B w ks j sv xs) (hg : g < B) (hs : w'.heap.size = w.heap.size) (hw : ∀ k, k ≠ g → w'.heap[k]? = w.heap[k]?) : KidsAt B w' ks j sv xs := by
  obtain ⟨f, F, h1, h2, h3, h4⟩ := h
  exact ⟨f, F, h1, fun i hl hi => (h2 i hl hi).other (fun hk => by have := (h3 i g hi hk).1; omega) hw, fun i k hi hk => by have := h3 i k hi hk; exact ⟨this.1, by omega, this.2.2⟩, h4⟩

theorem ownsRow_put {g : Nat} {w w' : World} {base : Nat} {e : TypeId} {size : Nat} {v : Value} {n : Nat} {xs : List Value} (h : w.ownsRow base e size v n xs) (hg : g < base) (hw : ∀ k, k ≠ g → w'.heap[k]? = w.heap[k]?) : w'.ownsRow base e size v n xs := by
  refine ⟨h.1, ?_⟩
  rcases h.2 with hn | ⟨b, cap, cur, rfl, hb, hgg, rest⟩
  · exact .inl hn
  · exact .inr ⟨b, cap, cur, rfl, hb, (hw b (by omega)).trans hgg, rest⟩

theorem ownsRow_below {w w' : World} {base : Nat} {e : TypeId} {size : Nat} {v : Value} {n : Nat} {xs : List Value} (h : w.ownsRow base e size v n xs) (hw : Below w.heap.size w w') : w'.ownsRow base e size v n xs := by
  refine ⟨h.1, ?_⟩
  rcases h.2 with hn | ⟨b, cap, cur, rfl, hb, hgg, rest⟩
  · exact .inl hn
  · exact .inr ⟨b, cap, cur, rfl, hb, (hw.block b (Array.getElem?_eq_some_iff.1 hgg).1).trans hgg, rest⟩
end Go.Proofs.Ytmdmbnpgdkmklaa
