/- The entries of a tree in ascending order; Next finds the next one; how many there may be. -/
import Derived.Test.YtmdmbnpgdkmklaaSg
namespace Go.Proofs.Ytmdmbnpgdkmklaa
open Go.RowKit
set_option linter.unusedVariables false
set_option linter.unusedSimpArgs false

/-- The tags of an entry as a number. -/
def tagsOf (e : Ent) : Int := (if e.2.1 = true then 1 else 0) + (if e.2.2 = true then 1 else 0) * 2

theorem bit01_tb (m : Int) (d : Nat) : bit01 m d = if tb m d = true then 1 else 0 := by
  have h := bit01_bd m d
  unfold bit01 at h ⊢
  unfold tb
  generalize bits .and .i64 (m / 2 ^ d) 1 = x at h ⊢
  by_cases q : x = 1
  · subst q; rfl
  · have : x = 0 := by omega
    subst this; rfl

theorem tagsAt_ent (n : Nd) (d : Nat) : n.tagsAt d = tagsOf (leafEnt n d) := by
  unfold Nd.tagsAt tagsOf leafEnt
  rw [bit01_tb, bit01_tb]

theorem ents_mem : ∀ (l : Nat) (n : Nd) (first : Nat), Good l n → ∀ e ∈ n.ents l first, ∃ i, i < 8 ^ (l + 1) ∧ e.i = first + i ∧ e.v = (n.look l i).1 ∧ e.v ≠ 0 ∧ e.t = tagsOf (n.look l i)
  | 0, n, first, hg, e, he => by
    simp only [Nd.ents, List.mem_flatMap, List.mem_range] at he
    obtain ⟨d, hd, he⟩ := he
    by_cases h : n.vs.getD d 0 = 0
    · rw [if_pos h] at he; simp at he
    · rw [if_neg h, List.mem_singleton] at he
      subst he
      have e1 : dig d 0 = d := by unfold dig; simp; omega
      refine ⟨d, by simpa using hd, rfl, ?_, h, ?_⟩
      · simp only [Nd.look, e1]; rfl
      · simp only [Nd.look, e1]; exact tagsAt_ent n d
  | l + 1, n, first, hg, e, he => by
    simp only [Nd.ents, List.mem_flatMap, List.mem_range] at he
    obtain ⟨d, hd, he⟩ := he
    by_cases h : (n.kid d).absent = true
    · rw [if_pos h] at he; simp at he
    · rw [if_neg h] at he
      have hgk : Good l (n.kid d) := by
        rcases hg.2 with q | q
        · exfalso
          rw [absent_eq hg.1 q, kid_zero] at h
          exact h rfl
        · exact good_kid hg.1 q d hd
      obtain ⟨i, hi, h1, h2, h3, h4⟩ := ents_mem l _ _ hgk e he
      refine ⟨d * 8 ^ (l + 1) + i, lt_top l d i hd hi, by omega, ?_, h3, ?_⟩
      · rw [look_top l d i n hd hi]; exact h2
      · rw [look_top l d i n hd hi]; exact h4

theorem ents_sorted : ∀ (l : Nat) (n : Nd) (first : Nat), Good l n → (n.ents l first).Pairwise (fun a b => a.i < b.i)
  | 0, n, first, hg => by
    simp only [Nd.ents]
    rw [List.pairwise_flatMap]
    refine ⟨fun d _ => ?_, ?_⟩
    · split
      · exact List.Pairwise.nil
      · exact List.pairwise_singleton _ _
    · refine List.Pairwise.imp ?_ (List.pairwise_lt_range)
      intro a b hab x hx y hy
      split at hx
      · simp at hx
      · split at hy
        · simp at hy
        · rw [List.mem_singleton] at hx hy
          subst hx; subst hy
          show first + a < first + b
          omega
  | l + 1, n, first, hg => by
    have hgk : ∀ d, d < 8 → (n.kid d).absent ≠ true → Good l (n.kid d) := fun d hd h => by
      rcases hg.2 with q | q
      · exfalso
        rw [absent_eq hg.1 q, kid_zero] at h
        exact h rfl
      · exact good_kid hg.1 q d hd
    simp only [Nd.ents]
    rw [List.pairwise_flatMap]
    refine ⟨fun d hd => ?_, ?_⟩
    · have hd8 : d < 8 := by simpa using hd
      by_cases h : (n.kid d).absent = true
      · rw [if_pos h]; exact List.Pairwise.nil
      · rw [if_neg h]; exact ents_sorted l _ _ (hgk d hd8 h)
    · have hr : (List.range 8).Pairwise (fun a b => a < b ∧ a < 8 ∧ b < 8) := by decide
      refine List.Pairwise.imp ?_ hr
      rintro a b ⟨hab, ha, hb⟩ x hx y hy
      by_cases h1 : (n.kid a).absent = true
      · rw [if_pos h1] at hx; simp at hx
      · by_cases h2 : (n.kid b).absent = true
        · rw [if_pos h2] at hy; simp at hy
        · rw [if_neg h1] at hx
          rw [if_neg h2] at hy
          obtain ⟨i, hi, hxi, _⟩ := ents_mem l _ _ (hgk a ha h1) x hx
          obtain ⟨j, hj, hyj, _⟩ := ents_mem l _ _ (hgk b hb h2) y hy
          have : (a + 1) * 8 ^ (l + 1) ≤ b * 8 ^ (l + 1) := Nat.mul_le_mul_right _ hab
          rw [Nat.add_mul, Nat.one_mul] at this
          omega

/-! ### How many -/
mutual
def Nd.cnt : Nd → Nat
  | .mk _ _ _ ks => 1 + cntL ks
def cntL : List Nd → Nat
  | [] => 0
  | n :: ks => n.cnt + cntL ks
end

mutual
theorem nodesM_cnt : ∀ (n : Nd) (m : Int), 0 ≤ m → nodesM n m ≤ m → nodesM n m = (n.cnt : Int)
  | .mk _ _ _ ks, m, hm, h => by
    rw [nodesM] at h ⊢
    rw [nodesL_cnt ks m 1 (by omega) h, Nd.cnt]
    omega
theorem nodesL_cnt : ∀ (ks : List Nd) (m k : Int), 0 ≤ k → nodesL ks m k ≤ m → nodesL ks m k = k + (cntL ks : Int)
  | [], m, k, hk, h => by simp [nodesL, cntL]
  | n :: ks, m, k, hk, h => by
    rw [nodesL] at h ⊢
    by_cases hkm : k ≤ m
    · rw [if_pos hkm] at h ⊢
      have hb := nodes_bd n (m - k) (by omega)
      have hk' : k + nodesM n (m - k) ≤ m := by
        rcases Int.lt_or_le m (k + nodesM n (m - k)) with q | q
        · rw [nodesL_done ks m _ q] at h; exact h
        · exact q
      have h1 := nodesM_cnt n (m - k) (by omega) (by omega)
      have h2 := nodesL_cnt ks m (k + nodesM n (m - k)) (by omega) h
      rw [h2, h1, cntL]
      omega
    · rw [if_neg hkm] at h
      omega
end

theorem cntL_sum : ∀ (ks : List Nd), cntL ks = (ks.map Nd.cnt).sum
  | [] => rfl
  | n :: ks => by rw [cntL, cntL_sum ks]; rfl

theorem length_flatMap_sum {α β : Type} : ∀ (l : List α) (f : α → List β) (g : α → Nat), (∀ x ∈ l, (f x).length ≤ g x) → (l.flatMap f).length ≤ (l.map g).sum
  | [], f, g, h => by simp
  | a :: l, f, g, h => by
    rw [List.flatMap_cons, List.length_append, List.map_cons, List.sum_cons]
    exact Nat.add_le_add (h a (by simp)) (length_flatMap_sum l f g (fun x hx => h x (by simp [hx])))

theorem sum_map_mul {α : Type} (f : α → Nat) (c : Nat) : ∀ l : List α, (l.map fun x => c * f x).sum = c * (l.map f).sum
  | [] => by simp
  | a :: l => by simp only [List.map_cons, List.sum_cons]; rw [sum_map_mul f c l, Nat.mul_add]

theorem ents_cnt : ∀ (l : Nat) (n : Nd) (first : Nat), Good l n → (n.ents l first).length ≤ 8 * n.cnt
  | 0, n, first, hg => by
    have h := ents_length 0 n first
    have : 1 ≤ n.cnt := by cases n; rw [Nd.cnt]; omega
    omega
  | l + 1, n, first, hg => by
    rcases hg.2 with q | q
    · rw [absent_eq hg.1 q]
      have h0 : (Nd.zero.ents (l + 1) first) = [] := by
        simp only [Nd.ents, List.flatMap_eq_nil_iff]
        intro d hd
        rw [kid_zero]
        rfl
      rw [h0]; simp
    · have h8 := (ok_parts q).2.1
      have hk : ∀ d, d < 8 → Good l (n.kid d) := fun d hd => good_kid hg.1 q d hd
      simp only [Nd.ents]
      have h1 := length_flatMap_sum (List.range 8) (fun d => if (n.kid d).absent = true then [] else (n.kid d).ents l (first + d * 8 ^ (l + 1))) (fun d => 8 * (n.kid d).cnt) (fun d hd => by
        have hd8 : d < 8 := by simpa using hd
        by_cases h : (n.kid d).absent = true
        · simp only [if_pos h]; simp
        · simp only [if_neg h]; exact ents_cnt l _ _ (hk d hd8))
      rw [sum_map_mul (fun d => (n.kid d).cnt) 8] at h1
      have h2 : (List.range 8).map (fun d => (n.kid d).cnt) = n.ks.map Nd.cnt := by
        apply List.ext_getElem (by simp [h8])
        intro d h3 h4
        simp only [List.length_map, List.length_range] at h3
        simp [Nd.kid, h8, h3]
      rw [h2, ← cntL_sum] at h1
      have h5 : n.cnt = 1 + cntL n.ks := by cases n; rfl
      omega

/-! ### The list and Next -/
theorem entsT_fine {r : Rx} (tag : Int) (e : En) (hr : r.check = 0 → r.fine) (he : e ∈ r.entsT tag) :
    r.fine ∧ e.i < 1073741824 ∧ r.get e.i = e.v ∧ e.v ≠ 0 ∧ e.t = tagsOf (r.look e.i) ∧ -1 ≤ tag ∧ tag ≤ 1 ∧ selT tag e.t = true := by
  unfold Rx.entsT at he
  split at he
  · simp at he
  · rename_i hc
    have hck : r.check = 0 := Classical.byContradiction fun q => hc (.inl q)
    have hf := hr hck
    obtain ⟨H, hH, hH10, _, hok, _⟩ := fine_parts hf
    have hpos : H ≠ 0 := fun q => hc (.inr (.inl (by omega)))
    obtain ⟨l, rfl⟩ : ∃ l, H = l + 1 := ⟨H - 1, by omega⟩
    rw [List.mem_filter, hH, Int.toNat_natCast] at he
    obtain ⟨i, hi, h1, h2, h3, h4⟩ := ents_mem l _ 0 ⟨(hok l rfl).1, .inr (hok l rfl).2⟩ e he.1
    have hp : 8 ^ (l + 1) ≤ 8 ^ 10 := Nat.pow_le_pow_right (by omega) hH10
    have hlk : r.look e.i = r.root.look l i := by
      unfold Rx.look lookH
      rw [hH, Int.toNat_natCast, if_neg (by omega), h1, Nat.zero_add]
      rfl
    have hi30 : e.i < 1073741824 := by rw [h1]; omega
    refine ⟨hf, hi30, ?_, h3, ?_, by omega, by omega, he.2⟩
    · rw [get_look hf hi30, hlk, h2]
    · rw [hlk, h4]

theorem entsT_sorted {r : Rx} (tag : Int) (hr : r.check = 0 → r.fine) : (r.entsT tag).Pairwise (fun a b => a.i < b.i) := by
  unfold Rx.entsT
  split
  · exact List.Pairwise.nil
  · rename_i hc
    have hf := hr (Classical.byContradiction fun q => hc (.inl q))
    obtain ⟨H, hH, hH10, _, hok, _⟩ := fine_parts hf
    have hpos : H ≠ 0 := fun q => hc (.inr (.inl (by omega)))
    obtain ⟨l, rfl⟩ : ∃ l, H = l + 1 := ⟨H - 1, by omega⟩
    rw [hH, Int.toNat_natCast]
    exact (ents_sorted l _ 0 ⟨(hok l rfl).1, .inr (hok l rfl).2⟩).filter _

theorem entsT_few {r : Rx} (tag : Int) (hr : r.check = 0 → r.fine) (hfew : r.root.few = true) : (r.entsT tag).length ≤ 3200 := by
  unfold Rx.entsT
  split
  · simp
  · rename_i hc
    have hf := hr (Classical.byContradiction fun q => hc (.inl q))
    obtain ⟨H, hH, hH10, _, hok, _⟩ := fine_parts hf
    have hpos : H ≠ 0 := fun q => hc (.inr (.inl (by omega)))
    obtain ⟨l, rfl⟩ : ∃ l, H = l + 1 := ⟨H - 1, by omega⟩
    rw [hH, Int.toNat_natCast]
    have h1 := ents_cnt l r.root 0 ⟨(hok l rfl).1, .inr (hok l rfl).2⟩
    have h2 := List.length_filter_le (fun e => selT tag e.t) (r.root.ents l 0)
    have h3 : nodesM r.root 400 ≤ 400 := by simpa [Nd.few] using hfew
    have h4 := nodesM_cnt r.root 400 (by omega) h3
    show ((r.root.ents l 0).filter _).length ≤ 3200
    omega

/-- The index of the entry number k, or -1. -/
def ptE (E : List En) (k : Nat) : Int := match E[k]? with | none => -1 | some e => (e.i : Int)

theorem find_from {E : List En} (hs : E.Pairwise (fun a b => a.i < b.i)) (k : Nat) (f : Int) (h1 : ∀ j (h : j < E.length), j < k → (E[j].i : Int) < f) (h2 : ∀ (h : k < E.length), f ≤ (E[k].i : Int)) :
    (match E.find? (fun e => decide (f ≤ (e.i : Int))) with | none => -1 | some e => (e.i : Int)) = ptE E k := by
  have hsp : E = E.take k ++ E.drop k := (List.take_append_drop k E).symm
  have hnone : (E.take k).find? (fun e => decide (f ≤ (e.i : Int))) = none := by
    rw [List.find?_eq_none]
    intro e he
    obtain ⟨j, hj, rfl⟩ := List.mem_iff_getElem.1 he
    simp only [List.length_take] at hj
    have := h1 j (by omega) (by omega)
    simp only [List.getElem_take, decide_eq_true_eq]
    omega
  have hfind : E.find? (fun e => decide (f ≤ (e.i : Int))) = (E.drop k).find? (fun e => decide (f ≤ (e.i : Int))) := by
    conv => lhs; rw [hsp]
    rw [List.find?_append, hnone, Option.none_or]
  rw [hfind]
  unfold ptE
  by_cases hk : k < E.length
  · rw [List.drop_eq_getElem_cons hk, List.find?_cons, List.getElem?_eq_getElem hk]
    have := h2 hk
    rw [show decide (f ≤ (E[k].i : Int)) = true by simpa using this]
  · rw [List.drop_of_length_le (by omega), List.getElem?_eq_none (by omega)]
    rfl

theorem next_first {r : Rx} (tag : Int) (hr : r.check = 0 → r.fine) : r.next 0 tag = ptE (r.entsT tag) 0 := by
  unfold Rx.next
  rw [if_neg (by omega)]
  exact find_from (entsT_sorted tag hr) 0 0 (fun j _ h => by omega) (fun _ => by omega)

theorem next_after {r : Rx} (tag : Int) (hr : r.check = 0 → r.fine) (k : Nat) (hk : k < (r.entsT tag).length) : r.next (((r.entsT tag)[k].i : Int) + 1) tag = ptE (r.entsT tag) (k + 1) := by
  unfold Rx.next
  rw [if_neg (by omega)]
  have hs := entsT_sorted tag hr
  refine find_from hs (k + 1) _ (fun j h hj => ?_) (fun h => ?_)
  · rcases Nat.lt_or_ge j k with q | q
    · have := List.pairwise_iff_getElem.1 hs j k h hk q
      omega
    · obtain rfl : j = k := by omega
      omega
  · have := List.pairwise_iff_getElem.1 hs k (k + 1) hk h (by omega)
    omega
end Go.Proofs.Ytmdmbnpgdkmklaa
