/- radix.Set as a function on plain trees, and that what it makes on the way has the form that its helpers ask. -/
import Derived.Test.YtmdmbnpgdkmklaaRl4
import Derived.Test.YtmdmbnpgdkmklaaRh3
import Derived.Test.YtmdmbnpgdkmklaaRf1
namespace Go.Proofs.Ytmdmbnpgdkmklaa
open Go.RowKit
set_option linter.unusedVariables false
set_option linter.unusedSimpArgs false

/-- Levels are added above the root until the index fits. -/
def growL : Nat → Bool → Nat → Nd → Nat → Nat × Nd
  | 0, _, h, n, _ => (h, n)
  | f + 1, bl, h, n, i => if h = 0 ∨ 0 < i / 8 ^ h then growL f bl (h + 1) (if bl = true then n else upNd n) i else (h, n)

/-- The tree behind a change of the entry i. -/
def setM (h : Nat) (n : Nd) (i : Nat) (v : Int) : Nat × Nd :=
  let g := growL 11 (h == 0) h n i
  shrinkM g.1 (g.2.upd (setChg v) (g.1 - 1) i)

def Rx.set (r : Rx) (i v : Int) : Rx × Int :=
  if r.check ≠ 0 then (Rx.empty, r.check) else if i < 0 ∨ 1073741824 ≤ i then (Rx.empty, 2)
  else if v = 0 ∧ r.get i = 0 then (r, 0) else (⟨((setM r.h.toNat r.root i.toNat v).1 : Int), (setM r.h.toNat r.root i.toNat v).2⟩, 0)

/-- Every node has eight values. -/
inductive Wf : Nd → Prop where
  | mk (v : List Int) (t0 t1 : Int) (ks : List Nd) (hv : v.length = 8) (hk : ∀ i (h : i < ks.length), Wf ks[i]) : Wf (.mk v t0 t1 ks)

theorem IsN.wf {w : World} {n : Nd} {c : Array Value} (h : IsN w n c) : Wf n := by
  induction h with
  | mk v t0 t1 ks a b o cap f hv hvb h0 h1 ha hl hcp hf hk ih => exact .mk v t0 t1 ks hv ih

theorem Wf.vs {n : Nd} (h : Wf n) : n.vs.length = 8 := by cases h; assumption
theorem Wf.kids {n : Nd} (h : Wf n) : ∀ k ∈ n.ks, Wf k := by
  cases h with
  | mk v t0 t1 ks hv hk =>
    intro k hm
    obtain ⟨i, hi, rfl⟩ := List.mem_iff_getElem.1 hm
    exact hk i hi

/-- Inner nodes have no values, and no children or eight of them. -/
def Nd.nice : Nat → Nd → Prop
  | 0, _ => True
  | l + 1, n => n.vs.all (· == 0) = true ∧ (n.ks = [] ∨ (n.ks.length = 8 ∧ ∀ k ∈ n.ks, Nd.nice l k))

theorem nice_zero : ∀ l, Nd.zero.nice l
  | 0 => trivial
  | l + 1 => ⟨rfl, .inl rfl⟩

theorem nice_fit (l : Nat) : ∀ n : Nd, n.nice l → n.fit l := by
  induction l with
  | zero => intro n _; trivial
  | succ l ih =>
    intro n h
    rcases h.2 with h | ⟨h, hk⟩
    · exact .inl h
    · exact .inr ⟨h, fun k hm => ih k (hk k hm)⟩

theorem nice_absent {n : Nd} (h : n.absent = true) : ∀ l, n.nice l := by
  intro l
  cases l with
  | zero => trivial
  | succ l =>
    simp only [Nd.absent, Bool.and_eq_true, List.isEmpty_iff] at h
    exact ⟨h.2, .inl h.1.1⟩

theorem nice_ok (l : Nat) : ∀ n : Nd, Wf n → n.ok (l + 1) = true → n.nice l := by
  induction l with
  | zero => intro n _ _; trivial
  | succ l ih =>
    intro n hw h
    have h8 := ok_len h
    have hg : ∀ i, i < 8 → kidGood (Nd.ok (l + 1)) n i = true := by
      have := h
      simp only [Nd.ok, Bool.and_eq_true, List.all_eq_true] at this
      intro i hi
      exact this.1.1.1.2 i (by simpa using hi)
    refine ⟨?_, .inr ⟨h8, ?_⟩⟩
    · apply all_true
      intro j hj
      rw [hw.vs] at hj
      have := hg j hj
      simp only [kidGood, Bool.and_eq_true, beq_iff_eq] at this
      exact this.1.1.1
    · intro k hm
      obtain ⟨i, hi, rfl⟩ := List.mem_iff_getElem.1 hm
      have hk : n.kid i = n.ks[i] := by simp [Nd.kid, hi]
      rcases ok_kid h (show i < 8 by omega) with h2 | h2
      · rw [hk] at h2; exact nice_absent h2 l
      · rw [hk] at h2; exact ih _ (hw.kids _ hm) h2

theorem nice_up {l : Nat} {n : Nd} (h : n.nice l) : (upNd n).nice (l + 1) := by
  refine ⟨rfl, .inr ⟨by simp [upNd, Nd.ks], ?_⟩⟩
  intro k hm
  simp only [upNd, Nd.ks, List.mem_cons, List.mem_replicate] at hm
  rcases hm with rfl | ⟨_, rfl⟩
  · exact h
  · exact nice_zero l

theorem nice_upd {chg : Nd → Nat → Nd} (l : Nat) : ∀ (n : Nd) (i : Nat), n.nice l → (n.upd chg l i).nice l := by
  induction l with
  | zero => intro n i _; trivial
  | succ l ih =>
    intro n i h
    have hks : ∀ k ∈ (if n.ks = [] then List.replicate 8 Nd.zero else n.ks), k.nice l := by
      intro k hm
      by_cases e : n.ks = []
      · rw [if_pos e, List.mem_replicate] at hm
        rw [hm.2]; exact nice_zero l
      · rw [if_neg e] at hm
        rcases h.2 with h | ⟨_, h⟩
        · exact absurd h e
        · exact h k hm
    have hlen : (if n.ks = [] then List.replicate 8 Nd.zero else n.ks).length = 8 := by
      by_cases e : n.ks = []
      · rw [if_pos e]; rfl
      · rw [if_neg e]
        rcases h.2 with h | ⟨h, _⟩
        · exact absurd h e
        · exact h
    have hd := dig_lt i (l + 1)
    refine ⟨h.1, .inr ⟨by simp only [Nd.upd, Nd.ks, List.length_set]; exact hlen, ?_⟩⟩
    intro k hm
    obtain ⟨k1, hk1⟩ : ∃ k1, k1 = ((if n.ks = [] then List.replicate 8 Nd.zero else n.ks).getD (dig i (l + 1)) Nd.zero).upd chg l i := ⟨_, rfl⟩
    replace hm : k ∈ (if n.ks = [] then List.replicate 8 Nd.zero else n.ks).set (dig i (l + 1)) (if k1.emp = true then Nd.zero else k1) := by rw [hk1]; exact hm
    have hn : k1.nice l := by
      rw [hk1]
      refine ih _ i (hks _ ?_)
      rw [List.getD_eq_getElem?_getD, List.getElem?_eq_getElem (by omega), Option.getD_some]
      exact List.getElem_mem _
    rcases List.mem_or_eq_of_mem_set hm with hm | hm
    · exact hks k hm
    · by_cases e : k1.emp = true
      · rw [if_pos e] at hm; rw [hm]; exact nice_zero l
      · rw [if_neg e] at hm; rw [hm]; exact hn

theorem emp_absent {n : Nd} (h : n.absent = true) : n.emp = true := by
  obtain ⟨v, t0, t1, ks⟩ := n
  simp only [Nd.absent, Nd.ks, Nd.vs, Bool.and_eq_true, List.isEmpty_iff] at h
  obtain ⟨⟨rfl, -⟩, h⟩ := h
  simp [Nd.emp, empL, h]

theorem low_nice : ∀ (h : Nat) (n : Nd), n.nice (h - 1) → n.emp = false → n.low h
  | 0, _, _, _ => trivial
  | 1, _, _, _ => trivial
  | h + 2, n, hn, he => by
    obtain ⟨v, t0, t1, ks⟩ := n
    obtain ⟨hv, hk⟩ := hn
    simp only [Nd.ks, Nd.vs] at hv hk
    rcases hk with rfl | ⟨h8, hk⟩
    · simp [Nd.emp, empL, hv] at he
    · refine ⟨h8, fun ha => ?_⟩
      simp only [Nd.ks] at ha ⊢
      obtain ⟨k0, kr, rfl⟩ : ∃ k0 kr, ks = k0 :: kr := by
        cases ks with
        | nil => simp at h8
        | cons a b => exact ⟨a, b, rfl⟩
      simp only [List.drop_succ_cons, List.drop_zero] at ha
      have hr : kr.all Nd.emp = true := by
        rw [List.all_eq_true] at ha ⊢
        exact fun x hx => emp_absent (ha x hx)
      have h0 : k0.emp = false := by
        simp only [Nd.emp, empL, hv, empL_all, hr, Bool.true_and, Bool.and_true] at he
        exact he
      exact low_nice (h + 1) k0 (hk k0 (by simp)) h0

/-- The growth ends at a height where the index fits. -/
theorem growL_spec (i : Nat) (hi : i < 8 ^ 10) : ∀ (f h : Nat) (bl : Bool) (n : Nd), h ≤ 10 → n.nice (h - 1) → (h = 0 → n.absent = true) → (bl = true → ∀ l, n.nice l) →
    (growL f bl h n i).2.nice ((growL f bl h n i).1 - 1) ∧ (growL f bl h n i).1 ≤ 10 := by
  intro f
  induction f with
  | zero => intro h bl n hh hn _ _; exact ⟨hn, hh⟩
  | succ f ih =>
    intro h bl n hh hn h0 hb
    unfold growL
    by_cases hc : h = 0 ∨ 0 < i / 8 ^ h
    · rw [if_pos hc]
      have hlt : h < 10 := by
        rcases hc with rfl | hc
        · omega
        · rcases Nat.lt_or_ge h 10 with h1 | h1
          · exact h1
          · obtain rfl : h = 10 := by omega
            rw [Nat.div_eq_of_lt hi] at hc; omega
      cases bl with
      | true => simp only [if_true]; exact ih (h + 1) true n (by omega) (hb rfl _) (by omega) hb
      | false =>
        simp only [Bool.false_eq_true, if_false]
        refine ih (h + 1) false (upNd n) (by omega) ?_ (by omega) (by simp)
        rcases Nat.eq_zero_or_pos h with rfl | hp
        · trivial
        · have := nice_up hn
          rwa [show h - 1 + 1 = h + 1 - 1 by omega] at this
    · rw [if_neg hc]; exact ⟨hn, hh⟩
end Go.Proofs.Ytmdmbnpgdkmklaa
