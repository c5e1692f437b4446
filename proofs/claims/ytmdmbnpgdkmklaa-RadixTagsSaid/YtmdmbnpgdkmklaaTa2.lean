/- The tree that the reference builds of a list of entries; of the entries of a valid tree it is that tree (plain). -/
import Derived.Test.YtmdmbnpgdkmklaaRp6
import Derived.Test.YtmdmbnpgdkmklaaRs13
import Derived.Test.YtmdmbnpgdkmklaaRs12
import Derived.Test.YtmdmbnpgdkmklaaRm8
import Derived.Test.YtmdmbnpgdkmklaaRl9
namespace Go.Proofs.Ytmdmbnpgdkmklaa
open Go.RowKit
set_option linter.unusedVariables false
set_option linter.unusedSimpArgs false

/-- The entries in the range number i. -/
def partE (l : List En) (a w i : Nat) : List En := l.filter fun e => decide ((e.i - a) / w = i)
/-- Whether an entry has the tag t. -/
def anyT (l : List En) (t : Nat) : Bool := l.any fun e => tb e.t t
/-- The mask of the first k bits. -/
def tsum (f : Nat → Bool) : Nat → Int
  | 0 => 0
  | k + 1 => bits .or .i64 (tsum f k) ((if f k = true then 1 else 0) * 2 ^ k)
def headV (l : List En) : Int := match l with | [] => 0 | e :: _ => e.v

/-- The node that the reference makes of entries. -/
def nodeE : Nat → List En → Nat → Nd
  | 0, l, a => if l = [] then Nd.zero else .mk ((List.range 8).map fun i => headV (partE l a 1 i)) (tsum (fun i => anyT (partE l a 1 i) 0) 8) (tsum (fun i => anyT (partE l a 1 i) 1) 8) []
  | n + 1, l, a => if l = [] then Nd.zero else .mk [0, 0, 0, 0, 0, 0, 0, 0] (tsum (fun i => anyT (partE l a (8 ^ (n + 1)) i) 0) 8) (tsum (fun i => anyT (partE l a (8 ^ (n + 1)) i) 1) 8)
      ((List.range 8).map fun i => nodeE n (partE l a (8 ^ (n + 1)) i) (a + i * 8 ^ (n + 1)))

def b8 (b : Bool × Bool × Bool × Bool × Bool × Bool × Bool × Bool) (k : Nat) : Bool :=
  match k with | 0 => b.1 | 1 => b.2.1 | 2 => b.2.2.1 | 3 => b.2.2.2.1 | 4 => b.2.2.2.2.1 | 5 => b.2.2.2.2.2.1 | 6 => b.2.2.2.2.2.2.1 | 7 => b.2.2.2.2.2.2.2 | _ => false

set_option maxRecDepth 100000 in
theorem tsum_all : ∀ b0 b1 b2 b3 b4 b5 b6 b7 : Bool, tagOk (tsum (b8 (b0, b1, b2, b3, b4, b5, b6, b7)) 8) = true ∧ ∀ k : Fin 8, tb (tsum (b8 (b0, b1, b2, b3, b4, b5, b6, b7)) 8) k.val = b8 (b0, b1, b2, b3, b4, b5, b6, b7) k.val := by
  decide +kernel

theorem tsum_congr (f g : Nat → Bool) : ∀ k, (∀ j, j < k → f j = g j) → tsum f k = tsum g k
  | 0, _ => rfl
  | k + 1, h => by
    rw [tsum, tsum, tsum_congr f g k (fun j hj => h j (by omega)), h k (by omega)]

theorem tsum_ok (f : Nat → Bool) : tagOk (tsum f 8) = true ∧ ∀ k, k < 8 → tb (tsum f 8) k = f k := by
  have h8 : ∀ j, j < 8 → f j = b8 (f 0, f 1, f 2, f 3, f 4, f 5, f 6, f 7) j := fun j hj => by
    match j, hj with
    | 0, _ | 1, _ | 2, _ | 3, _ | 4, _ | 5, _ | 6, _ | 7, _ => rfl
  have h := tsum_all (f 0) (f 1) (f 2) (f 3) (f 4) (f 5) (f 6) (f 7)
  rw [tsum_congr f _ 8 h8]
  refine ⟨h.1, fun k hk => ?_⟩
  rw [h.2 ⟨k, hk⟩, h8 k hk]

theorem flat_one {α : Type} (f : Nat → List α) (i : Nat) (hi : i < 8) : ((List.range 8).flatMap fun d => if d = i then f d else []) = f i := by
  have : List.range 8 = [0, 1, 2, 3, 4, 5, 6, 7] := by decide
  rw [this]
  match i, hi with
  | 0, _ | 1, _ | 2, _ | 3, _ | 4, _ | 5, _ | 6, _ | 7, _ => simp [List.flatMap_cons]

theorem partE_flat (f : Nat → List En) (a w : Nat) (h : ∀ d, d < 8 → ∀ e ∈ f d, (e.i - a) / w = d) (i : Nat) (hi : i < 8) : partE ((List.range 8).flatMap f) a w i = f i := by
  unfold partE
  rw [List.filter_flatMap]
  rw [← flat_one f i hi]
  simp only [List.flatMap]
  congr 1
  apply List.map_congr_left
  intro d hd
  have hd8 : d < 8 := by simpa using hd
  by_cases e : d = i
  · rw [if_pos e, List.filter_eq_self]
    intro x hx
    rw [h d hd8 x hx, e]; simp
  · rw [if_neg e, List.filter_eq_nil_iff]
    intro x hx
    rw [h d hd8 x hx]; simpa using e

theorem tb_bools : ∀ a b : Bool, tb ((if a = true then 1 else 0) + (if b = true then 1 else 0) * 2) 0 = a ∧ tb ((if a = true then 1 else 0) + (if b = true then 1 else 0) * 2) 1 = b := by decide
theorem tb_tags (e : Ent) : tb (tagsOf e) 0 = e.2.1 ∧ tb (tagsOf e) 1 = e.2.2 := tb_bools e.2.1 e.2.2

theorem leaf_flat (n : Nd) (a i : Nat) (hi : i < 8) : partE (n.ents 0 a) a 1 i = if n.vs.getD i 0 = 0 then [] else [⟨a + i, n.vs.getD i 0, n.tagsAt i⟩] := by
  show partE ((List.range 8).flatMap _) a 1 i = _
  rw [partE_flat _ a 1 _ i hi]
  intro d hd e he
  split at he
  · simp at he
  · rw [List.mem_singleton] at he
    subst he
    show (a + d - a) / 1 = d
    omega

theorem good_kid' {l : Nat} {n : Nd} (hg : Good (l + 1) n) (d : Nat) (hd : d < 8) (h : (n.kid d).absent ≠ true) : Good l (n.kid d) := by
  rcases hg.2 with q | q
  · exfalso
    rw [absent_eq hg.1 q, kid_zero] at h
    exact h rfl
  · exact good_kid hg.1 q d hd

theorem inner_flat {l : Nat} {n : Nd} (hg : Good (l + 1) n) (a i : Nat) (hi : i < 8) : partE (n.ents (l + 1) a) a (8 ^ (l + 1)) i = if (n.kid i).absent = true then [] else (n.kid i).ents l (a + i * 8 ^ (l + 1)) := by
  show partE ((List.range 8).flatMap _) a _ i = _
  rw [partE_flat _ a _ _ i hi]
  intro d hd e he
  split at he
  · simp at he
  · rename_i q
    obtain ⟨j, hj, h1, -⟩ := ents_mem l _ _ (good_kid' hg d hd q) e he
    rw [h1, show a + d * 8 ^ (l + 1) + j - a = j + d * 8 ^ (l + 1) by omega, Nat.add_mul_div_right _ _ (Nat.pow_pos (by omega)), Nat.div_eq_of_lt hj, Nat.zero_add]

theorem leaf_clean {n : Nd} (h : n.ok 1 = true) (i : Nat) (hi : i < 8) (h0 : n.vs.getD i 0 = 0) : tb n.t0 i = false ∧ tb n.t1 i = false := by
  simp only [Nd.ok, Nd.okLeaf, Bool.and_eq_true, List.all_eq_true] at h
  have := h.2.1.1.1.1 i (by simpa using hi)
  unfold leafGood at this
  rw [h0] at this
  simpa using this

theorem leaf_any {n : Nd} (h : n.ok 1 = true) (a i : Nat) (hi : i < 8) : anyT (partE (n.ents 0 a) a 1 i) 0 = tb n.t0 i ∧ anyT (partE (n.ents 0 a) a 1 i) 1 = tb n.t1 i := by
  rw [leaf_flat n a i hi]
  by_cases h0 : n.vs.getD i 0 = 0
  · rw [if_pos h0]
    obtain ⟨q0, q1⟩ := leaf_clean h i hi h0
    rw [q0, q1]; exact ⟨rfl, rfl⟩
  · rw [if_neg h0]
    unfold anyT
    simp only [List.any_cons, List.any_nil, Bool.or_false]
    rw [tagsAt_ent]
    exact tb_tags _

theorem any_parts (l : List En) (t : Nat) (f : Nat → List En) (h : l = (List.range 8).flatMap f) : anyT l t = (List.range 8).any fun d => anyT (f d) t := by
  unfold anyT
  rw [h, List.any_flatMap]

theorem any_congr8 {f g : Nat → Bool} (h : ∀ d, d < 8 → f d = g d) : (List.range 8).any f = (List.range 8).any g := by
  rw [Bool.eq_iff_iff, List.any_eq_true, List.any_eq_true]
  constructor
  · rintro ⟨d, hd, q⟩; exact ⟨d, hd, by rw [← h d (by simpa using hd)]; exact q⟩
  · rintro ⟨d, hd, q⟩; exact ⟨d, hd, by rw [h d (by simpa using hd)]; exact q⟩

/-- A node has a tag exactly if an entry below it has it. -/
theorem ents_any : ∀ (l : Nat) (n : Nd) (a : Nat), Good l n → n.absent = false → anyT (n.ents l a) 0 = (n.t0 != 0) ∧ anyT (n.ents l a) 1 = (n.t1 != 0)
  | 0, n, a, hg, hna => by
    have hok := hg.2.resolve_left (by rw [hna]; simp)
    have htg : tagOk n.t0 = true ∧ tagOk n.t1 = true := by
      simp only [Nd.ok, Nd.okLeaf, Bool.and_eq_true] at hok
      exact ⟨hok.2.1.1.2, hok.2.1.2⟩
    have hk := fun i (hi : i < 8) => leaf_any hok a i hi
    have e : n.ents 0 a = (List.range 8).flatMap fun d => if n.vs.getD d 0 = 0 then [] else [⟨a + d, n.vs.getD d 0, n.tagsAt d⟩] := rfl
    rw [any_parts _ 0 _ e, any_parts _ 1 _ e, tb_any htg.1, tb_any htg.2]
    refine ⟨any_congr8 fun d hd => ?_, any_congr8 fun d hd => ?_⟩
    · rw [← (hk d hd).1, leaf_flat n a d hd]
    · rw [← (hk d hd).2, leaf_flat n a d hd]
  | l + 1, n, a, hg, hna => by
    have hok := hg.2.resolve_left (by rw [hna]; simp)
    obtain ⟨_, h8, h3, _, ht0, ht1⟩ := ok_parts hok
    have e : n.ents (l + 1) a = (List.range 8).flatMap fun d => if (n.kid d).absent = true then [] else (n.kid d).ents l (a + d * 8 ^ (l + 1)) := rfl
    have hk : ∀ d, d < 8 → anyT (if (n.kid d).absent = true then [] else (n.kid d).ents l (a + d * 8 ^ (l + 1))) 0 = tb n.t0 d ∧ anyT (if (n.kid d).absent = true then [] else (n.kid d).ents l (a + d * 8 ^ (l + 1))) 1 = tb n.t1 d := fun d hd => by
      have q := h3 d hd
      simp only [kidGood, Bool.and_eq_true, beq_iff_eq] at q
      rw [q.1.2, q.2]
      by_cases ha : (n.kid d).absent = true
      · rw [if_pos ha, (absent_tags ha).1, (absent_tags ha).2]; exact ⟨rfl, rfl⟩
      · rw [if_neg ha]
        exact ents_any l _ _ (good_kid' hg d hd ha) (by simpa using ha)
    rw [any_parts _ 0 _ e, any_parts _ 1 _ e, tb_any ht0, tb_any ht1]
    exact ⟨any_congr8 fun d hd => (hk d hd).1, any_congr8 fun d hd => (hk d hd).2⟩

theorem ents_nil {l : Nat} {n : Nd} (hg : Good l n) (a : Nat) : (n.absent = true → n.ents l a = []) ∧ (n.absent = false → n.ents l a ≠ []) := by
  refine ⟨fun h => ?_, fun h => ?_⟩
  · rw [absent_eq hg.1 h]
    rw [List.eq_nil_iff_forall_not_mem]
    intro e he
    have hz : Good l Nd.zero := ⟨wf_zero, .inl rfl⟩
    obtain ⟨i, _, _, h2, h3, _⟩ := ents_mem l _ a hz e he
    rw [look_zero] at h2
    exact h3 h2
  · obtain ⟨i, hi, h0⟩ := ok_entry l n hg.1 (hg.2.resolve_left (by rw [h]; simp))
    obtain ⟨e, he, _⟩ := ents_has l n a i hi h0
    exact List.ne_nil_of_mem he

/-- The entries of a node make the node again. -/
theorem node_ents : ∀ (l : Nat) (n : Nd) (a : Nat), Good l n → nodeE l (n.ents l a) a = n
  | 0, n, a, hg => by
    cases hna : n.absent with
    | true =>
      rw [(ents_nil hg a).1 hna, absent_eq hg.1 hna]; rfl
    | false =>
      have hok := hg.2.resolve_left (by rw [hna]; simp)
      have hne := (ents_nil hg a).2 hna
      rw [nodeE, if_neg hne]
      have hk := fun i (hi : i < 8) => leaf_any hok a i hi
      have hparts : tagOk n.t0 = true ∧ tagOk n.t1 = true ∧ n.ks = [] := by
        simp only [Nd.ok, Nd.okLeaf, Bool.and_eq_true, List.isEmpty_iff] at hok
        exact ⟨hok.2.1.1.2, hok.2.1.2, hok.2.2⟩
      obtain ⟨ht0, ht1, hks⟩ := hparts
      have e0 : tsum (fun i => anyT (partE (n.ents 0 a) a 1 i) 0) 8 = n.t0 := tag_ext (tsum_ok _).1 ht0 (fun i hi => by rw [(tsum_ok _).2 i hi]; exact (hk i hi).1)
      have e1 : tsum (fun i => anyT (partE (n.ents 0 a) a 1 i) 1) 8 = n.t1 := tag_ext (tsum_ok _).1 ht1 (fun i hi => by rw [(tsum_ok _).2 i hi]; exact (hk i hi).2)
      have ev : (List.range 8).map (fun i => headV (partE (n.ents 0 a) a 1 i)) = n.vs := by
        refine vals_ext (by simp) hg.1.vs (fun j hj => ?_)
        rw [List.getD_eq_getElem?_getD, List.getElem?_map, List.getElem?_range hj]
        show headV _ = _
        rw [leaf_flat n a j hj]
        by_cases h0 : n.vs.getD j 0 = 0
        · rw [if_pos h0, h0]; rfl
        · rw [if_neg h0]; rfl
      rw [e0, e1, ev]
      obtain ⟨v, t0, t1, ks⟩ := n
      simp only [Nd.ks] at hks
      subst hks
      rfl
  | l + 1, n, a, hg => by
    cases hna : n.absent with
    | true =>
      rw [(ents_nil hg a).1 hna, absent_eq hg.1 hna]; rfl
    | false =>
      have hok := hg.2.resolve_left (by rw [hna]; simp)
      have hne := (ents_nil hg a).2 hna
      rw [nodeE, if_neg hne]
      obtain ⟨_, h8, h3, _, ht0, ht1⟩ := ok_parts hok
      have hk : ∀ d, d < 8 → anyT (partE (n.ents (l + 1) a) a (8 ^ (l + 1)) d) 0 = tb n.t0 d ∧ anyT (partE (n.ents (l + 1) a) a (8 ^ (l + 1)) d) 1 = tb n.t1 d := fun d hd => by
        rw [inner_flat hg a d hd]
        have q := h3 d hd
        simp only [kidGood, Bool.and_eq_true, beq_iff_eq] at q
        rw [q.1.2, q.2]
        by_cases ha : (n.kid d).absent = true
        · rw [if_pos ha, (absent_tags ha).1, (absent_tags ha).2]; exact ⟨rfl, rfl⟩
        · rw [if_neg ha]
          exact ents_any l _ _ (good_kid' hg d hd ha) (by simpa using ha)
      have e0 : tsum (fun i => anyT (partE (n.ents (l + 1) a) a (8 ^ (l + 1)) i) 0) 8 = n.t0 := tag_ext (tsum_ok _).1 ht0 (fun i hi => by rw [(tsum_ok _).2 i hi]; exact (hk i hi).1)
      have e1 : tsum (fun i => anyT (partE (n.ents (l + 1) a) a (8 ^ (l + 1)) i) 1) 8 = n.t1 := tag_ext (tsum_ok _).1 ht1 (fun i hi => by rw [(tsum_ok _).2 i hi]; exact (hk i hi).2)
      have ev : [0, 0, 0, 0, 0, 0, 0, 0] = n.vs := by
        refine vals_ext rfl hg.1.vs (fun j hj => ?_)
        have q := h3 j hj
        simp only [kidGood, Bool.and_eq_true, beq_iff_eq] at q
        rw [q.1.1.1]
        match j, hj with
        | 0, _ | 1, _ | 2, _ | 3, _ | 4, _ | 5, _ | 6, _ | 7, _ => rfl
      have ek : (List.range 8).map (fun i => nodeE l (partE (n.ents (l + 1) a) a (8 ^ (l + 1)) i) (a + i * 8 ^ (l + 1))) = n.ks := by
        apply List.ext_getElem (by simp [h8])
        intro j h1 h2
        have hj : j < 8 := by simpa using h1
        rw [List.getElem_map, List.getElem_range, inner_flat hg a j hj]
        have hkj : n.ks[j] = n.kid j := by simp [Nd.kid, h2]
        rw [hkj]
        by_cases ha : (n.kid j).absent = true
        · rw [if_pos ha]
          have hw : Wf (n.kid j) := by rw [← hkj]; exact hg.1.kids _ (List.getElem_mem _)
          rw [absent_eq hw ha]
          cases l <;> rfl
        · rw [if_neg ha]
          exact node_ents l _ _ (good_kid' hg j hj ha)
      rw [e0, e1, ek]
      obtain ⟨v, t0, t1, ks⟩ := n
      rw [show v = [0, 0, 0, 0, 0, 0, 0, 0] from ev.symm]
      rfl

/-! ### The whole tree -/
def hOf : Nat → Nat → Nat → Nat
  | 0, h, _ => h
  | f + 1, h, i => if i < 8 ^ h then h else hOf f (h + 1) i

theorem hOf_eq : ∀ (f h i k : Nat), k ≤ h + f → h ≤ k → i < 8 ^ k → (∀ j, h ≤ j → j < k → 8 ^ j ≤ i) → hOf f h i = k
  | 0, h, i, k, h1, h2, _, _ => by rw [hOf]; omega
  | f + 1, h, i, k, h1, h2, h3, h4 => by
    rw [hOf]
    by_cases q : h = k
    · subst q; rw [if_pos h3]
    · have := h4 h (Nat.le_refl _) (by omega)
      rw [if_neg (by omega)]
      exact hOf_eq f (h + 1) i k (by omega) (by omega) h3 (fun j a b => h4 j (by omega) b)

def lastI (l : List En) : Nat := match l.getLast? with | none => 0 | some e => e.i
def buildE (l : List En) : Rx := if l = [] then Rx.empty else ⟨(hOf 9 1 (lastI l) : Int), nodeE (hOf 9 1 (lastI l) - 1) l 0⟩

theorem lastI_ge {l : List En} (hs : l.Pairwise (fun a b => a.i < b.i)) : ∀ e ∈ l, e.i ≤ lastI l := by
  intro e he
  unfold lastI
  cases hl : l.getLast? with
  | none => rw [List.getLast?_eq_none_iff] at hl; rw [hl] at he; simp at he
  | some x =>
    obtain ⟨j, hj, rfl⟩ := List.mem_iff_getElem.1 he
    rw [List.getLast?_eq_getElem?] at hl
    have hlen : l.length - 1 < l.length := by omega
    rw [List.getElem?_eq_getElem hlen] at hl
    obtain rfl := Option.some.inj hl
    show l[j].i ≤ l[l.length - 1].i
    by_cases q : j = l.length - 1
    · subst q; exact Nat.le_refl _
    · exact Nat.le_of_lt (List.pairwise_iff_getElem.1 hs j (l.length - 1) hj hlen (by omega))

theorem lastI_mem {l : List En} (h : l ≠ []) : ∃ e ∈ l, e.i = lastI l := by
  unfold lastI
  rw [List.getLast?_eq_some_getLast h]
  exact ⟨_, List.getLast_mem h, rfl⟩

theorem build_all {r : Rx} (hr : r.fine) : buildE r.all = r := by
  obtain ⟨H, hH, hH10, hz, hok, hkk⟩ := fine_parts hr
  have hc := hr.2
  cases H with
  | zero =>
    have : r.all = [] := by unfold Rx.all; rw [if_pos (.inr (by omega))]
    rw [this]
    unfold buildE
    rw [if_pos rfl]
    have hz0 := hz rfl
    obtain ⟨h, root⟩ := r
    simp only at hH hz0
    rw [hz0, hH]; rfl
  | succ l =>
    have hall : r.all = r.root.ents l 0 := by
      unfold Rx.all
      rw [if_neg (by omega), hH]; rfl
    have hg : Good l r.root := ⟨(hok l rfl).1, .inr (hok l rfl).2⟩
    have hna : r.root.absent = false := by
      have := (hok l rfl).2
      cases l with
      | zero => simp only [Nd.ok, Bool.and_eq_true, Bool.not_eq_true'] at this; exact this.1
      | succ l => exact (ok_parts this).1
    have hne := (ents_nil hg 0).2 hna
    have hs := ents_sorted l r.root 0 hg
    have hh : hOf 9 1 (lastI (r.root.ents l 0)) = l + 1 := by
      refine hOf_eq 9 1 _ (l + 1) (by omega) (by omega) ?_ ?_
      · obtain ⟨e, he, hei⟩ := lastI_mem hne
        obtain ⟨i, hi, h1, _⟩ := ents_mem l _ 0 hg e he
        rw [← hei, h1, Nat.zero_add]; exact hi
      · intro j hj1 hj2
        obtain ⟨m, rfl⟩ : ∃ m, l = m + 1 := ⟨l - 1, by omega⟩
        obtain ⟨d, hd, hda⟩ := hkk m rfl
        obtain ⟨hkw, hkg⟩ := good_kid hg.1 (hok (m + 1) rfl).2 (d + 1) (by omega)
        rw [hda] at hkg
        obtain ⟨i, hi, h0⟩ := ok_entry m _ hkw (hkg.resolve_left (by simp))
        have hlt := lt_top m (d + 1) i (by omega) hi
        rw [← look_top m (d + 1) i _ (by omega) hi] at h0
        obtain ⟨e, he, hei⟩ := ents_has (m + 1) r.root 0 _ hlt h0
        have h1 := lastI_ge hs e he
        have h2 : 8 ^ j ≤ 8 ^ (m + 1) := Nat.pow_le_pow_right (by omega) (by omega)
        have h3 : 1 * 8 ^ (m + 1) ≤ (d + 1) * 8 ^ (m + 1) := Nat.mul_le_mul_right _ (by omega)
        omega
    rw [hall]
    unfold buildE
    rw [if_neg hne, hh]
    show (⟨((l + 1 : Nat) : Int), nodeE l (r.root.ents l 0) 0⟩ : Rx) = r
    rw [node_ents l _ 0 hg, ← hH]
end Go.Proofs.Ytmdmbnpgdkmklaa

/-! The list of the entries of a changed tree is the changed list (plain): Set, Tag, Untag; Get and Tagged by the list. -/
namespace Go.Proofs.Ytmdmbnpgdkmklaa
open Go.RowKit
set_option linter.unusedVariables false
set_option linter.unusedSimpArgs false

/-- The list holds exactly the entries of the tree, in ascending order. -/
structure Lst (r : Rx) (l : List En) : Prop where
  sorted : l.Pairwise (fun a b => a.i < b.i)
  mem : ∀ e : En, e ∈ l ↔ e.i < 1073741824 ∧ e.v = (r.look e.i).1 ∧ e.v ≠ 0 ∧ e.t = tagsOf (r.look e.i)

theorem all_lst {r : Rx} (hr : r.fine) : Lst r r.all := by
  refine ⟨by rw [all_entsT]; exact entsT_sorted (-1) (fun _ => hr), fun e => ⟨fun he => ?_, fun ⟨h1, h2, h3, h4⟩ => ?_⟩⟩
  · rw [all_entsT] at he
    obtain ⟨_, h1, h2, h3, h4, _⟩ := entsT_fine (-1) e (fun _ => hr) he
    exact ⟨h1, by rw [← h2, get_look hr h1], h3, h4⟩
  · obtain ⟨H, hH, hH10, hz, hok, _⟩ := fine_parts hr
    have hlk : r.look e.i = lookH H r.root e.i := by unfold Rx.look; rw [hH, Int.toNat_natCast]
    have hq : ¬ (H = 0 ∨ 8 ^ H ≤ e.i) := fun q => h3 (by rw [h2, hlk]; unfold lookH; rw [if_pos q]; rfl)
    obtain ⟨l, rfl⟩ : ∃ l, H = l + 1 := ⟨H - 1, by omega⟩
    have hlk2 : r.look e.i = r.root.look l e.i := by rw [hlk]; unfold lookH; rw [if_neg hq]; rfl
    have hall : r.all = r.root.ents l 0 := by
      unfold Rx.all
      rw [if_neg (by rintro (q | q); exact q hr.2; omega), hH]; rfl
    have hg : Good l r.root := ⟨(hok l rfl).1, .inr (hok l rfl).2⟩
    obtain ⟨x, hx, hxi⟩ := ents_has l r.root 0 e.i (by omega) (by rw [← hlk2, ← h2]; exact h3)
    obtain ⟨i, hi, k1, k2, _, k4⟩ := ents_mem l _ 0 hg x hx
    rw [hall]
    have : x = e := by
      obtain ⟨xi, xv, xt⟩ := x
      obtain ⟨ei, ev, et⟩ := e
      simp only at hxi k1 k2 k4 h2 h4 hlk2
      obtain rfl : i = ei := by omega
      rw [k2, k4, h2, h4, hlk2, hxi, Nat.zero_add]
    rw [← this]; exact hx

theorem sorted_ext : ∀ (l m : List En), l.Pairwise (fun a b => a.i < b.i) → m.Pairwise (fun a b => a.i < b.i) → (∀ e, e ∈ l ↔ e ∈ m) → l = m
  | [], [], _, _, _ => rfl
  | [], b :: m, _, _, h => by have := (h b).2 (by simp); simp at this
  | a :: l, [], _, _, h => by have := (h a).1 (by simp); simp at this
  | a :: l, b :: m, hl, hm, h => by
    rw [List.pairwise_cons] at hl hm
    have hab : a = b := by
      have h1 := (h a).1 (by simp)
      have h2 := (h b).2 (by simp)
      rcases List.mem_cons.1 h1 with q | q
      · exact q
      · rcases List.mem_cons.1 h2 with p | p
        · exact p.symm
        · have := hl.1 b p
          have := hm.1 a q
          omega
    subst hab
    rw [sorted_ext l m hl.2 hm.2 (fun e => ?_)]
    constructor
    · intro he
      rcases List.mem_cons.1 ((h e).1 (by simp [he])) with q | q
      · subst q; have := hl.1 _ he; omega
      · exact q
    · intro he
      rcases List.mem_cons.1 ((h e).2 (by simp [he])) with q | q
      · subst q; have := hm.1 _ he; omega
      · exact q

theorem Lst.eq {r : Rx} {l m : List En} (hl : Lst r l) (hm : Lst r m) : l = m :=
  sorted_ext l m hl.sorted hm.sorted (fun e => by rw [hl.mem, hm.mem])

/-! ### The position of an index -/
theorem take_at (i : Int) : ∀ l : List En, l.Pairwise (fun a b => a.i < b.i) → l.take (atE l i) = l.filter fun e => decide ((e.i : Int) < i)
  | [], _ => rfl
  | e :: l, h => by
    rw [List.pairwise_cons] at h
    unfold atE
    by_cases q : (e.i : Int) < i
    · rw [if_pos q, List.take_succ_cons, take_at i l h.2, List.filter_cons_of_pos (by simpa using q)]
    · rw [if_neg q, List.take_zero, List.filter_cons_of_neg (by simpa using q)]
      symm
      rw [List.filter_eq_nil_iff]
      intro x hx
      have := h.1 x hx
      simp only [decide_eq_true_eq]
      omega

def hitE (l : List En) (i : Int) : Bool := match l[atE l i]? with | none => false | some e => decide ((e.i : Int) = i)
def tagE (l : List En) (i : Int) : Int := match l[atE l i]? with | none => 0 | some e => if (e.i : Int) = i then e.t else 0

theorem drop_at (i : Int) : ∀ l : List En, l.Pairwise (fun a b => a.i < b.i) → l.drop (if hitE l i = true then atE l i + 1 else atE l i) = l.filter fun e => decide (i < (e.i : Int))
  | [], _ => by simp
  | e :: l, h => by
    rw [List.pairwise_cons] at h
    by_cases q : (e.i : Int) < i
    · have e1 : atE (e :: l) i = atE l i + 1 := by rw [atE, if_pos q]
      have e2 : hitE (e :: l) i = hitE l i := by unfold hitE; rw [e1]; simp
      rw [e1, e2, List.filter_cons_of_neg (by simp; omega), ← drop_at i l h.2]
      split <;> rfl
    · have e1 : atE (e :: l) i = 0 := by rw [atE, if_neg q]
      have e2 : hitE (e :: l) i = decide ((e.i : Int) = i) := by unfold hitE; rw [e1]; simp
      rw [e1, e2]
      have hrest : l.filter (fun e => decide (i < (e.i : Int))) = l := by
        rw [List.filter_eq_self]
        intro x hx
        have := h.1 x hx
        simp only [decide_eq_true_eq]
        omega
      by_cases p : (e.i : Int) = i
      · rw [if_pos (by simpa using p), List.filter_cons_of_neg (by simp; omega), hrest]; rfl
      · rw [if_neg (by simpa using p), List.filter_cons_of_pos (by simp; omega), hrest]; rfl

theorem at_has (i : Int) : ∀ l : List En, l.Pairwise (fun a b => a.i < b.i) → ∀ e ∈ l, (e.i : Int) = i → l[atE l i]? = some e
  | [], _, e, he, _ => by simp at he
  | a :: l, h, e, he, hi => by
    rw [List.pairwise_cons] at h
    unfold atE
    by_cases q : (a.i : Int) < i
    · rw [if_pos q, List.getElem?_cons_succ]
      rcases List.mem_cons.1 he with p | p
      · subst p; omega
      · exact at_has i l h.2 e p hi
    · rw [if_neg q]
      rcases List.mem_cons.1 he with p | p
      · subst p; rfl
      · have := h.1 e p; omega

theorem Lst.none {r : Rx} {l : List En} (hl : Lst r l) (hr : r.fine) {i : Nat} (h : ∀ e ∈ l, e.i ≠ i) (hi : i < 1073741824) : r.look i = noEnt := by
  by_cases q : (r.look i).1 = 0
  · exact look_clean hr i q
  · exact absurd rfl (h ⟨i, (r.look i).1, tagsOf (r.look i)⟩ ((hl.mem _).2 ⟨hi, rfl, q, rfl⟩))

theorem Lst.at {r : Rx} {l : List En} (hl : Lst r l) (hr : r.fine) {i : Nat} (hi : i < 1073741824) :
    getE l i = (r.look i).1 ∧ tagE l i = tagsOf (r.look i) ∧ (hitE l i = false → r.look i = noEnt) := by
  by_cases h : ∃ e ∈ l, e.i = i
  · obtain ⟨e, he, hei⟩ := h
    have ha := at_has i l hl.sorted e he (by omega)
    obtain ⟨_, h2, _, h4⟩ := (hl.mem e).1 he
    rw [hei] at h2 h4
    refine ⟨?_, ?_, fun q => ?_⟩
    · unfold getE; rw [ha]; simp only; rw [if_pos (by omega), h2]
    · unfold tagE; rw [ha]; simp only; rw [if_pos (by omega), h4]
    · unfold hitE at q; rw [ha] at q; simp only [decide_eq_false_iff_not] at q; omega
  · have hn := hl.none hr (fun e he q => h ⟨e, he, q⟩) hi
    have hx : ∀ e, l[atE l i]? = some e → ¬ (e.i : Int) = i := fun e he q => h ⟨e, List.mem_of_getElem? he, by omega⟩
    rw [hn]
    refine ⟨?_, ?_, fun _ => rfl⟩
    · unfold getE
      cases ha : l[atE l i]? with
      | none => rfl
      | some e => simp only; rw [if_neg (hx e ha)]; rfl
    · unfold tagE
      cases ha : l[atE l i]? with
      | none => rfl
      | some e => simp only; rw [if_neg (hx e ha)]; rfl

/-! ### Set -/
def setE (l : List En) (i : Nat) (v : Int) : List En :=
  l.take (atE l i) ++ (if v = 0 then [] else [⟨i, v, tagE l i⟩]) ++ l.drop (if hitE l i = true then atE l i + 1 else atE l i)

theorem setE_lst {r : Rx} (hr : r.fine) {i : Nat} (hi : i < 1073741824) (v : Int) {l : List En} (hl : Lst r l) : Lst (r.set i v).1 (setE l i v) := by
  obtain ⟨_, sf, sl⟩ := set_fine hr hi v
  have hat := (hl.at hr hi).2.1
  have e : setE l i v = l.filter (fun e => decide ((e.i : Int) < i)) ++ (if v = 0 then [] else [⟨i, v, tagE l i⟩]) ++ l.filter (fun e => decide ((i : Int) < e.i)) := by
    unfold setE; rw [take_at _ _ hl.sorted, drop_at _ _ hl.sorted]
  rw [e]
  have h1 : ∀ x ∈ (if v = 0 then [] else [(⟨i, v, tagE l i⟩ : En)]), x = ⟨i, v, tagE l i⟩ ∧ v ≠ 0 := fun x hx => by
    split at hx
    · simp at hx
    · rename_i q; exact ⟨List.mem_singleton.1 hx, q⟩
  refine ⟨?_, fun x => ?_⟩
  · rw [List.pairwise_append, List.pairwise_append]
    refine ⟨⟨hl.sorted.filter _, ?_, fun a ha b hb => ?_⟩, hl.sorted.filter _, fun a ha b hb => ?_⟩
    · split
      · exact List.Pairwise.nil
      · exact List.pairwise_singleton _ _
    · have := (List.mem_filter.1 ha).2
      rw [(h1 b hb).1]
      simp only [decide_eq_true_eq] at this ⊢
      omega
    · have hb := (List.mem_filter.1 hb).2
      simp only [decide_eq_true_eq] at hb
      rcases List.mem_append.1 ha with q | q
      · have := (List.mem_filter.1 q).2
        simp only [decide_eq_true_eq] at this
        omega
      · rw [(h1 a q).1]
        simp only
        omega
  · rw [List.mem_append, List.mem_append, List.mem_filter, List.mem_filter, sl]
    by_cases q : x.i = i
    · rw [if_pos q]
      constructor
      · rintro ((⟨_, h⟩ | h) | ⟨_, h⟩)
        · simp only [decide_eq_true_eq] at h; omega
        · obtain ⟨rfl, hv⟩ := h1 x h
          rw [if_neg hv]
          exact ⟨hi, rfl, hv, hat⟩
        · simp only [decide_eq_true_eq] at h; omega
      · rintro ⟨_, h2, h3, h4⟩
        by_cases hv : v = 0
        · rw [if_pos hv] at h2; exact absurd h2 h3
        · rw [if_neg hv] at h2 h4
          refine .inl (.inr ?_)
          rw [if_neg hv, List.mem_singleton]
          obtain ⟨xi, xv, xt⟩ := x
          simp only at q h2 h4
          rw [q, h2, hat, h4]
          rfl
    · rw [if_neg q, ← hl.mem]
      constructor
      · rintro ((h | h) | h)
        · exact h.1
        · exact absurd (by rw [(h1 x h).1]) q
        · exact h.1
      · intro h
        rcases Nat.lt_or_ge x.i i with p | p
        · exact .inl (.inl ⟨h, by simpa using p⟩)
        · exact .inr ⟨h, by simp; omega⟩

theorem build_set {r : Rx} (hr : r.fine) {i : Nat} (hi : i < 1073741824) (v : Int) : buildE (setE r.all i v) = (r.set i v).1 := by
  have hs := (set_fine hr hi v).2.1
  rw [(setE_lst hr hi v (all_lst hr)).eq (all_lst hs), build_all hs]

/-! ### Tag, Untag -/
def markEnt (tag : Nat) (on : Bool) (e : Ent) : Ent := if tag = 0 then (e.1, on, e.2.2) else (e.1, e.2.1, on)
def markT (t : Int) (tag : Nat) (on : Bool) : Int := if on = true then bits .or .i64 t (2 ^ tag) else bits .andNot .i64 t (2 ^ tag)

theorem markT_bools : ∀ a b on : Bool, markT ((if a = true then 1 else 0) + (if b = true then 1 else 0) * 2) 0 on = (if on = true then 1 else 0) + (if b = true then 1 else 0) * 2 ∧
    markT ((if a = true then 1 else 0) + (if b = true then 1 else 0) * 2) 1 on = (if a = true then 1 else 0) + (if on = true then 1 else 0) * 2 := by decide
theorem markT_ent (e : Ent) (tag : Nat) (on : Bool) (ht : tag < 2) : markT (tagsOf e) tag on = tagsOf (markEnt tag on e) := by
  have h : tag = 0 ∨ tag = 1 := by omega
  rcases h with rfl | rfl
  · exact (markT_bools e.2.1 e.2.2 on).1
  · exact (markT_bools e.2.1 e.2.2 on).2

theorem mark_fine {r : Rx} (hr : r.fine) {i : Nat} (hi : i < 1073741824) (tag : Nat) (on : Bool) (ht : tag < 2) (hg : r.get i ≠ 0) :
    (r.mark i tag on).2 = 0 ∧ (r.mark i tag on).1.fine ∧ ∀ j, (r.mark i tag on).1.look j = if j = i then markEnt tag on (r.look i) else r.look j := by
  have hgl := get_look hr hi
  unfold Rx.mark
  rw [if_neg (by simp [hr.2]), if_neg (by omega), if_neg (by omega), if_neg hg]
  obtain ⟨H, hH, hH10, hz, hok, hkk⟩ := fine_parts hr
  rw [hgl] at hg
  have hlk : r.look i = lookH H r.root i := by unfold Rx.look; rw [hH, Int.toNat_natCast]
  have hq : ¬ (H = 0 ∨ 8 ^ H ≤ i) := fun q => hg (by rw [hlk]; unfold lookH; rw [if_pos q]; rfl)
  obtain ⟨l, rfl⟩ : ∃ l, H = l + 1 := ⟨H - 1, by omega⟩
  have hG : Good l r.root := ⟨(hok l rfl).1, .inr (hok l rfl).2⟩
  have hlk2 : r.look i = r.root.look l i := by rw [hlk]; unfold lookH; rw [if_neg hq]; rfl
  have hQ : (r.root.look l i).1 ≠ 0 := by rw [← hlk2]; exact hg
  have hi2 : i < 8 ^ (l + 1) := by omega
  obtain ⟨u1, u2, u3, u4, u5⟩ := upd_step (mark_step tag on) l r.root i hG hQ
  have hlkH := fun j => upd_lookH (mark_step tag on) hG hQ hi2 j
  rw [hH, Int.toNat_natCast, Int.toNat_natCast, Int.toNat_natCast, show l + 1 - 1 = l from rfl]
  obtain ⟨n, hn⟩ : ∃ n, n = r.root.upd (markChg tag on) l i := ⟨_, rfl⟩
  rw [← hn] at u1 u2 u3 u4 u5 hlkH ⊢
  have hv : ∀ j, (n.look l j).1 = (r.root.look l j).1 := fun j => by
    rw [u5 j]
    split
    · rename_i q
      have e1 : (r.root.look l j).1 = (r.root.look l i).1 := by rw [← look_mod l l _ j (Nat.le_refl _), q, look_mod l l _ i (Nat.le_refl _)]
      rw [e1]
      split <;> rfl
    · rfl
  have hokn : n.ok (l + 1) = true := u2.resolve_left (fun q => by
    have := emp_look l n i q
    rw [hv] at this
    exact hQ this)
  refine ⟨rfl, ⟨u1, check_high (by omega) hokn (fun m hm => ?_)⟩, fun j => ?_⟩
  · subst hm
    obtain ⟨d, hd, hda⟩ := hkk m rfl
    obtain ⟨hkw, hkg⟩ := good_kid hG.1 (hok (m + 1) rfl).2 (d + 1) (by omega)
    rw [hda] at hkg
    obtain ⟨x, hx, h0⟩ := ok_entry m _ hkw (hkg.resolve_left (by simp))
    rw [← look_top m (d + 1) x _ (by omega) hx, ← hv, look_top m (d + 1) x _ (by omega) hx] at h0
    refine ⟨d, hd, ?_⟩
    cases q : (n.kid (d + 1)).absent with
    | false => rfl
    | true => exact absurd (absent_look m _ x q) h0
  · have h1 := hlkH j
    unfold Rx.look
    rw [hH, Int.toNat_natCast]
    show lookH ((((l + 1 : Nat) : Int)).toNat) n j = _
    rw [Int.toNat_natCast, h1]
    rfl

def markE (l : List En) (i : Nat) (tag : Nat) (on : Bool) : List En := l.modify (atE l i) fun e => ⟨e.i, e.v, markT e.t tag on⟩

theorem mod_at (f : En → En) (i : Nat) : ∀ l : List En, l.Pairwise (fun a b => a.i < b.i) → hitE l i = true → l.modify (atE l i) f = l.map fun e => if e.i = i then f e else e
  | [], _, _ => rfl
  | e :: l, h, hh => by
    rw [List.pairwise_cons] at h
    by_cases q : (e.i : Int) < i
    · have e1 : atE (e :: l) i = atE l i + 1 := by rw [atE, if_pos q]
      have e2 : hitE (e :: l) i = hitE l i := by unfold hitE; rw [e1]; simp
      rw [e2] at hh
      rw [e1, List.modify_succ_cons, mod_at f i l h.2 hh, List.map_cons, if_neg (by omega)]
    · have e1 : atE (e :: l) i = 0 := by rw [atE, if_neg q]
      have e2 : hitE (e :: l) i = decide ((e.i : Int) = i) := by unfold hitE; rw [e1]; simp
      rw [e2] at hh
      have hei : e.i = i := by simp only [decide_eq_true_eq] at hh; omega
      rw [e1, List.modify_zero_cons, List.map_cons, if_pos hei]
      congr 1
      conv => lhs; rw [← List.map_id l]
      apply List.map_congr_left
      intro x hx
      have := h.1 x hx
      rw [if_neg (by omega)]; rfl

theorem markE_lst {r : Rx} (hr : r.fine) {i : Nat} (hi : i < 1073741824) (tag : Nat) (on : Bool) (ht : tag < 2) (hg : r.get i ≠ 0) {l : List En} (hl : Lst r l) : Lst (r.mark i tag on).1 (markE l i tag on) := by
  obtain ⟨_, mf, ml⟩ := mark_fine hr hi tag on ht hg
  rw [get_look hr hi] at hg
  have hh : hitE l i = true := by
    cases q : hitE l i with
    | true => rfl
    | false => rw [(hl.at hr hi).2.2 q] at hg; exact absurd rfl hg
  have e := mod_at (fun e => ⟨e.i, e.v, markT e.t tag on⟩) i l hl.sorted hh
  unfold markE
  rw [e]
  refine ⟨?_, fun x => ?_⟩
  · rw [List.pairwise_map]
    refine hl.sorted.imp (fun {a b} hab => ?_)
    have : ∀ a : En, (if a.i = i then (⟨a.i, a.v, markT a.t tag on⟩ : En) else a).i = a.i := fun a => by split <;> rfl
    rw [this, this]; exact hab
  · rw [List.mem_map, ml]
    constructor
    · rintro ⟨y, hy, rfl⟩
      obtain ⟨h1, h2, h3, h4⟩ := (hl.mem y).1 hy
      by_cases q : y.i = i
      · simp only [if_pos q]
        rw [q] at h2 h4
        refine ⟨by omega, ?_, h3, ?_⟩
        · rw [h2]; unfold markEnt; split <;> rfl
        · rw [h4, markT_ent _ _ _ ht]
      · simp only [if_neg q]
        exact ⟨h1, h2, h3, h4⟩
    · rintro ⟨h1, h2, h3, h4⟩
      by_cases q : x.i = i
      · rw [if_pos q] at h2 h4
        refine ⟨⟨i, (r.look i).1, tagsOf (r.look i)⟩, (hl.mem _).2 ⟨hi, rfl, hg, rfl⟩, ?_⟩
        rw [if_pos rfl, markT_ent _ _ _ ht]
        obtain ⟨xi, xv, xt⟩ := x
        simp only at q h2 h4
        rw [q, h2, h4]
        unfold markEnt
        split <;> rfl
      · rw [if_neg q] at h2 h4
        exact ⟨x, (hl.mem x).2 ⟨h1, h2, h3, h4⟩, by rw [if_neg q]⟩

theorem build_mark {r : Rx} (hr : r.fine) {i : Nat} (hi : i < 1073741824) (tag : Nat) (on : Bool) (ht : tag < 2) (hg : r.get i ≠ 0) : buildE (markE r.all i tag on) = (r.mark i tag on).1 := by
  have hs := (mark_fine hr hi tag on ht hg).2.1
  rw [(markE_lst hr hi tag on ht hg (all_lst hr)).eq (all_lst hs), build_all hs]

/-! ### Get, Tagged -/
theorem leafOf_none {r : Rx} {i : Int} (h : r.check ≠ 0 ∨ i < 0 ∨ 1073741824 ≤ i ∨ 0 < i / 2 ^ (3 * r.h.toNat) ∨ r.h = 0) : r.leafOf i = none := by
  unfold Rx.leafOf; rw [if_pos h]

theorem all_bad {r : Rx} (h : r.check ≠ 0) : r.all = [] := by unfold Rx.all; rw [if_pos (.inl h)]

theorem get_same {r : Rx} (hr : r.check = 0 → r.fine) (i : Int) : getE r.all i = r.get i := by
  by_cases hc : r.check = 0
  · have hf := hr hc
    by_cases hi : 0 ≤ i ∧ i < 1073741824
    · obtain ⟨k, rfl⟩ := Int.eq_ofNat_of_zero_le hi.1
      rw [((all_lst hf).at hf (by omega)).1, get_look hf (by omega)]
    · have h2 : r.get i = 0 := by unfold Rx.get; rw [leafOf_none (by rcases Int.lt_or_le i 0 with q | q; exact .inr (.inl q); exact .inr (.inr (.inl (by omega))))]
      rw [h2]
      unfold getE
      cases ha : r.all[atE r.all i]? with
      | none => rfl
      | some e =>
        have := ((all_lst hf).mem e).1 (List.mem_of_getElem? ha)
        simp only
        rw [if_neg (by omega)]
  · rw [all_bad hc]
    have h2 : r.get i = 0 := by unfold Rx.get; rw [leafOf_none (.inl hc)]
    rw [h2]; rfl

theorem selT_bools : ∀ a b : Bool, selT 0 ((if a = true then 1 else 0) + (if b = true then 1 else 0) * 2) = a ∧ selT 1 ((if a = true then 1 else 0) + (if b = true then 1 else 0) * 2) = b := by decide
theorem selT_tags (e : Ent) : selT 0 (tagsOf e) = e.2.1 ∧ selT 1 (tagsOf e) = e.2.2 := selT_bools e.2.1 e.2.2

/-- Tagged by what lies at the index. -/
theorem tagged_look {r : Rx} (hr : r.fine) {i : Nat} (hi : i < 1073741824) (tag : Int) :
    r.tagged i tag = ((decide (tag = 0) || decide (tag = 1)) && if tag = 0 then (r.look i).2.1 else (r.look i).2.2) := by
  obtain ⟨H, hH, hH10, _, hok, _⟩ := fine_parts hr
  have hgl := get_look hr hi
  unfold Rx.get at hgl
  unfold Rx.tagged
  cases hq : r.leafOf (i : Int) with
  | none =>
    rw [hq] at hgl
    rw [look_clean hr i hgl.symm]
    unfold noEnt
    simp
  | some n =>
    rw [hq] at hgl
    simp only [Int.toNat_natCast] at hgl ⊢
    have hl : r.look i = leafEnt n (dig i 0) := by
      have h2 := hq
      unfold Rx.leafOf at h2
      split at h2
      · cases h2
      · rename_i hno
        rw [hH, Int.toNat_natCast, Int.toNat_natCast] at h2
        have hpos : H ≠ 0 := fun z => hno (.inr (.inr (.inr (.inr (by omega)))))
        have hlt : ¬ 8 ^ H ≤ i := fun z => hno (.inr (.inr (.inr (.inl (by
          rw [hH, Int.toNat_natCast]
          have e2 : (2 : Int) ^ (3 * H) = ((8 ^ H : Nat) : Int) := by
            rw [show (8 : Nat) = 2 ^ 3 by rfl, ← Nat.pow_mul]; simp
          rw [e2, ← Int.natCast_ediv, Int.natCast_pos]
          exact Nat.div_pos z (Nat.pow_pos (by omega)))))))
        unfold Rx.look lookH
        rw [hH, Int.toNat_natCast, if_neg (by omega)]
        have hleaf : ∀ (l : Nat) (n m : Nd) (i : Nat), n.leafAt l i = some m → n.look l i = leafEnt m (dig i 0) := by
          intro l
          induction l with
          | zero => intro n m i h; simp only [Nd.leafAt, Option.some.injEq] at h; rw [← h]; rfl
          | succ l ih =>
            intro n m i h
            unfold Nd.leafAt at h
            split at h
            · cases h
            · exact ih _ _ _ h
        exact hleaf _ _ _ _ h2
    by_cases hv : n.vs.getD (dig i 0) 0 = 0
    · have h0 := look_clean hr i (by rw [← hgl]; exact hv)
      rw [h0, hv]
      unfold noEnt
      simp
    · rw [show (n.vs.getD (dig i 0) 0 != 0) = true by simpa using hv, hl, Bool.and_true]
      unfold leafEnt
      split <;> rfl

theorem tagged_same {r : Rx} (hr : r.check = 0 → r.fine) (i tag : Int) : taggedE r.all i tag = r.tagged i tag := by
  by_cases hc : r.check = 0
  · have hf := hr hc
    by_cases hi : 0 ≤ i ∧ i < 1073741824
    · obtain ⟨k, rfl⟩ := Int.eq_ofNat_of_zero_le hi.1
      rw [tagged_look hf (by omega)]
      unfold taggedE
      by_cases ht : tag = 0 ∨ tag = 1
      · have hL := all_lst hf
        by_cases h : ∃ e ∈ r.all, e.i = k
        · obtain ⟨e, he, hei⟩ := h
          have h4 := ((hL.mem e).1 he).2.2.2
          rw [at_has k r.all hL.sorted e he (by omega)]
          simp only
          rw [decide_eq_true (show (e.i : Int) = k by omega), Bool.true_and, h4, hei]
          rcases ht with rfl | rfl
          · rw [(selT_tags _).1]; simp
          · rw [(selT_tags _).2]; simp
        · have hn := hL.none hf (fun e he q => h ⟨e, he, q⟩) (show k < 1073741824 by omega)
          rw [hn]
          have hx : ∀ e, r.all[atE r.all k]? = some e → ¬ (e.i : Int) = k := fun e he q => h ⟨e, List.mem_of_getElem? he, by omega⟩
          unfold noEnt
          cases ha : r.all[atE r.all k]? with
          | none => simp
          | some e => simp only; rw [decide_eq_false (hx e ha)]; simp
      · rw [decide_eq_false (fun q => ht (.inl q)), decide_eq_false (fun q => ht (.inr q))]; rfl
    · have h2 : r.tagged i tag = false := by unfold Rx.tagged; rw [leafOf_none (by rcases Int.lt_or_le i 0 with q | q; exact .inr (.inl q); exact .inr (.inr (.inl (by omega))))]
      rw [h2]
      unfold taggedE
      cases ha : r.all[atE r.all i]? with
      | none => simp
      | some e =>
        have := ((all_lst hf).mem e).1 (List.mem_of_getElem? ha)
        simp only
        rw [decide_eq_false (show ¬ (e.i : Int) = i by omega)]; simp
  · rw [all_bad hc]
    have h2 : r.tagged i tag = false := by unfold Rx.tagged; rw [leafOf_none (.inl hc)]
    rw [h2]
    unfold taggedE
    simp
end Go.Proofs.Ytmdmbnpgdkmklaa
