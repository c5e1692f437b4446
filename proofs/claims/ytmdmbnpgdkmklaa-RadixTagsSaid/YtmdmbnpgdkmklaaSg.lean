/- Trees as finite maps: a valid tree is determined by what lies at its indices; Set and mark change one index. -/
import Derived.Test.YtmdmbnpgdkmklaaRp1
import Derived.Test.YtmdmbnpgdkmklaaRf4
import Derived.Test.YtmdmbnpgdkmklaaSh
namespace Go.Proofs.Ytmdmbnpgdkmklaa
open Go.RowKit
set_option linter.unusedVariables false
set_option linter.unusedSimpArgs false

/-- What lies at an index: value and tags. -/
abbrev Ent := Int × Bool × Bool
def noEnt : Ent := (0, false, false)
def leafEnt (n : Nd) (k : Nat) : Ent := (n.vs.getD k 0, tb n.t0 k, tb n.t1 k)
def Nd.look : Nat → Nd → Nat → Ent
  | 0, n, i => leafEnt n (dig i 0)
  | l + 1, n, i => (n.kid (dig i (l + 1))).look l i

theorem tb_zero (k : Nat) : tb 0 k = false := by have := tb_nat 0 k; simpa using this
theorem leafEnt_zero (k : Nat) : leafEnt Nd.zero k = noEnt := by
  have : Nd.zero.vs.getD k 0 = 0 := by
    show ([0, 0, 0, 0, 0, 0, 0, 0] : List Int).getD k 0 = 0
    match k with
    | 0 | 1 | 2 | 3 | 4 | 5 | 6 | 7 => rfl
    | k + 8 => simp
  unfold leafEnt noEnt
  rw [this]
  show ((0 : Int), tb 0 k, tb 0 k) = _
  rw [tb_zero]
theorem kid_zero (k : Nat) : Nd.zero.kid k = Nd.zero := by simp [Nd.kid, Nd.zero, Nd.ks]
theorem look_zero : ∀ (l i : Nat), Nd.zero.look l i = noEnt
  | 0, i => leafEnt_zero _
  | l + 1, i => by rw [Nd.look, kid_zero]; exact look_zero l i

theorem absent_eq {n : Nd} (hw : Wf n) (h : n.absent = true) : n = Nd.zero := by
  have hv := hw.vs
  obtain ⟨v, t0, t1, ks⟩ := n
  simp only [Nd.absent, Nd.ks, Nd.vs, Nd.t0, Nd.t1, Bool.and_eq_true, List.isEmpty_iff, beq_iff_eq] at h hv
  obtain ⟨⟨rfl, rfl, rfl⟩, h⟩ := h
  obtain ⟨v0, v1, v2, v3, v4, v5, v6, v7, rfl⟩ := list8 hv
  simp at h
  obtain ⟨rfl, rfl, rfl, rfl, rfl, rfl, rfl, rfl⟩ := h
  rfl

theorem dig_mod (i l k : Nat) (hk : k ≤ l) : dig (i % 8 ^ (l + 1)) k = dig i k := by
  obtain ⟨r, rfl⟩ : ∃ r, l = k + r := ⟨l - k, by omega⟩
  unfold dig
  rw [show 8 ^ (k + r + 1) = 8 ^ k * 8 ^ (r + 1) by rw [← Nat.pow_add]; congr 1, Nat.mod_mul_right_div_self, Nat.mod_mod_of_dvd]
  exact ⟨8 ^ r, by rw [Nat.pow_succ, Nat.mul_comm]⟩

theorem look_mod : ∀ (l L : Nat) (n : Nd) (i : Nat), l ≤ L → n.look l (i % 8 ^ (L + 1)) = n.look l i
  | 0, L, n, i, h => by simp only [Nd.look]; rw [dig_mod i L 0 (by omega)]
  | l + 1, L, n, i, h => by
    simp only [Nd.look]
    rw [dig_mod i L (l + 1) h]
    exact look_mod l L _ i (by omega)

/-- The index j digits up, i below. -/
theorem dig_top (l j i : Nat) (hj : j < 8) (hi : i < 8 ^ (l + 1)) : dig (j * 8 ^ (l + 1) + i) (l + 1) = j := by
  unfold dig
  rw [Nat.add_comm, Nat.add_mul_div_right _ _ (Nat.pow_pos (by omega)), Nat.div_eq_of_lt hi]
  omega
theorem mod_top (l j i : Nat) (hi : i < 8 ^ (l + 1)) : (j * 8 ^ (l + 1) + i) % 8 ^ (l + 1) = i := by
  rw [Nat.add_comm, Nat.add_mul_mod_self_right, Nat.mod_eq_of_lt hi]
theorem lt_top (l j i : Nat) (hj : j < 8) (hi : i < 8 ^ (l + 1)) : j * 8 ^ (l + 1) + i < 8 ^ (l + 2) := by
  have : (j + 1) * 8 ^ (l + 1) ≤ 8 * 8 ^ (l + 1) := Nat.mul_le_mul_right _ (by omega)
  rw [Nat.add_mul, Nat.one_mul] at this
  rw [show 8 ^ (l + 2) = 8 * 8 ^ (l + 1) by rw [Nat.pow_succ, Nat.mul_comm]]
  omega
theorem look_top (l j i : Nat) (n : Nd) (hj : j < 8) (hi : i < 8 ^ (l + 1)) : n.look (l + 1) (j * 8 ^ (l + 1) + i) = (n.kid j).look l i := by
  rw [Nd.look, dig_top l j i hj hi, ← look_mod l l _ (j * 8 ^ (l + 1) + i) (Nat.le_refl _), mod_top l j i hi]

/-- Absent or well formed for a level. -/
def Good (l : Nat) (n : Nd) : Prop := Wf n ∧ (n.absent = true ∨ n.ok (l + 1) = true)

theorem ok_parts {l : Nat} {n : Nd} (h : n.ok (l + 2) = true) : n.absent = false ∧ n.ks.length = 8 ∧ (∀ j, j < 8 → kidGood (Nd.ok (l + 1)) n j = true) ∧ (∃ j, j < 8 ∧ (n.kid j).absent = false) ∧ tagOk n.t0 = true ∧ tagOk n.t1 = true := by
  simp only [Nd.ok, Bool.and_eq_true, List.all_eq_true, List.any_eq_true, beq_iff_eq, Bool.not_eq_true'] at h
  obtain ⟨⟨⟨⟨⟨h1, h2⟩, h3⟩, ⟨j, hj, h4⟩⟩, h5⟩, h6⟩ := h
  exact ⟨h1, h2, fun j hj => h3 j (by simpa using hj), ⟨j, by simpa using hj, h4⟩, h5, h6⟩

theorem good_kid {l : Nat} {n : Nd} (hw : Wf n) (h : n.ok (l + 2) = true) (j : Nat) (hj : j < 8) : Good l (n.kid j) := by
  have h8 := (ok_parts h).2.1
  have hk : n.kid j = n.ks[j] := by simp [Nd.kid, h8, hj]
  refine ⟨?_, ok_kid h hj⟩
  rw [hk]
  exact hw.kids _ (List.getElem_mem _)

theorem ok_entry : ∀ (l : Nat) (n : Nd), Wf n → n.ok (l + 1) = true → ∃ i, i < 8 ^ (l + 1) ∧ (n.look l i).1 ≠ 0
  | 0, n, hw, h => by
    simp only [Nd.ok, Nd.okLeaf, Bool.and_eq_true, List.any_eq_true, bne_iff_ne] at h
    obtain ⟨x, hx, h0⟩ := h.2.1.1.1.2
    obtain ⟨j, hj, rfl⟩ := List.mem_iff_getElem.1 hx
    have hj8 : j < 8 := by have := hw.vs; omega
    refine ⟨j, by simpa using hj8, ?_⟩
    have hd : dig j 0 = j := by unfold dig; simp; omega
    simp only [Nd.look, leafEnt, hd, List.getD_eq_getElem?_getD, List.getElem?_eq_getElem hj, Option.getD_some]
    exact h0
  | l + 1, n, hw, h => by
    obtain ⟨_, _, _, ⟨j, hj, hja⟩, _⟩ := ok_parts h
    obtain ⟨hkw, hk⟩ := good_kid hw h j hj
    rw [hja] at hk
    obtain ⟨i, hi, h0⟩ := ok_entry l _ hkw (hk.resolve_left (by simp))
    exact ⟨j * 8 ^ (l + 1) + i, lt_top l j i hj hi, by rw [look_top l j i n hj hi]; exact h0⟩

theorem vals_ext {v u : List Int} (hv : v.length = 8) (hu : u.length = 8) (h : ∀ j, j < 8 → v.getD j 0 = u.getD j 0) : v = u := by
  apply List.ext_getElem (by omega)
  intro j h1 h2
  have := h j (by omega)
  simpa [List.getD_eq_getElem?_getD, h1, h2] using this

/-- A node is determined by what lies at its indices. -/
theorem node_ext : ∀ (l : Nat) (n m : Nd), Good l n → Good l m → (∀ i, i < 8 ^ (l + 1) → n.look l i = m.look l i) → n = m := by
  intro l
  induction l with
  | zero =>
    rintro n m ⟨hn, hn2⟩ ⟨hm, hm2⟩ h
    rcases hn2 with a | a <;> rcases hm2 with b | b
    · rw [absent_eq hn a, absent_eq hm b]
    · obtain ⟨i, hi, h0⟩ := ok_entry 0 m hm b
      rw [← h i hi, absent_eq hn a, look_zero] at h0
      exact absurd rfl h0
    · obtain ⟨i, hi, h0⟩ := ok_entry 0 n hn a
      rw [h i hi, absent_eq hm b, look_zero] at h0
      exact absurd rfl h0
    · have he : ∀ j, j < 8 → leafEnt n j = leafEnt m j := fun j hj => by
        have := h j (by simpa using hj)
        have hd : dig j 0 = j := by unfold dig; simp; omega
        simpa only [Nd.look, hd] using this
      simp only [Nd.ok, Nd.okLeaf, Bool.and_eq_true, List.isEmpty_iff] at a b
      have hv := vals_ext hn.vs hm.vs (fun j hj => (Prod.mk.inj (he j hj)).1)
      have h0 := tag_ext a.2.1.1.2 b.2.1.1.2 (fun j hj => (Prod.mk.inj (Prod.mk.inj (he j hj)).2).1)
      have h1 := tag_ext a.2.1.2 b.2.1.2 (fun j hj => (Prod.mk.inj (Prod.mk.inj (he j hj)).2).2)
      have hk := a.2.2.trans b.2.2.symm
      obtain ⟨v, t0, t1, ks⟩ := n
      obtain ⟨v', t0', t1', ks'⟩ := m
      simp only [Nd.vs, Nd.t0, Nd.t1, Nd.ks] at hv h0 h1 hk
      subst hv h0 h1 hk
      rfl
  | succ l ih =>
    rintro n m ⟨hn, hn2⟩ ⟨hm, hm2⟩ h
    rcases hn2 with a | a <;> rcases hm2 with b | b
    · rw [absent_eq hn a, absent_eq hm b]
    · obtain ⟨i, hi, h0⟩ := ok_entry (l + 1) m hm b
      rw [← h i hi, absent_eq hn a, look_zero] at h0
      exact absurd rfl h0
    · obtain ⟨i, hi, h0⟩ := ok_entry (l + 1) n hn a
      rw [h i hi, absent_eq hm b, look_zero] at h0
      exact absurd rfl h0
    · have hkid : ∀ j, j < 8 → n.kid j = m.kid j := fun j hj => by
        refine ih _ _ (good_kid hn a j hj) (good_kid hm b j hj) (fun i hi => ?_)
        have := h (j * 8 ^ (l + 1) + i) (lt_top l j i hj hi)
        rwa [look_top l j i n hj hi, look_top l j i m hj hi] at this
      obtain ⟨_, a8, ag, _, at0, at1⟩ := ok_parts a
      obtain ⟨_, b8, bg, _, bt0, bt1⟩ := ok_parts b
      have hks : n.ks = m.ks := by
        apply List.ext_getElem (by omega)
        intro j h1 h2
        have := hkid j (by omega)
        simpa [Nd.kid, h1, h2] using this
      have hg : ∀ (x : Nd), (∀ j, j < 8 → kidGood (Nd.ok (l + 1)) x j = true) → ∀ j, j < 8 → x.vs.getD j 0 = 0 ∧ tb x.t0 j = ((x.kid j).t0 != 0) ∧ tb x.t1 j = ((x.kid j).t1 != 0) := fun x hx j hj => by
        have := hx j hj
        simp only [kidGood, Bool.and_eq_true, beq_iff_eq] at this
        exact ⟨this.1.1.1, this.1.2, this.2⟩
      have hv := vals_ext hn.vs hm.vs (fun j hj => by rw [(hg n ag j hj).1, (hg m bg j hj).1])
      have h0 := tag_ext at0 bt0 (fun j hj => by rw [(hg n ag j hj).2.1, (hg m bg j hj).2.1, hkid j hj])
      have h1 := tag_ext at1 bt1 (fun j hj => by rw [(hg n ag j hj).2.2, (hg m bg j hj).2.2, hkid j hj])
      obtain ⟨v, t0, t1, ks⟩ := n
      obtain ⟨v', t0', t1', ks'⟩ := m
      simp only [Nd.vs, Nd.t0, Nd.t1, Nd.ks] at hv h0 h1 hks
      subst hv h0 h1 hks
      rfl

/-- At a height. -/
def lookH (h : Nat) (n : Nd) (i : Nat) : Ent := if h = 0 ∨ 8 ^ h ≤ i then noEnt else n.look (h - 1) i
def Rx.look (r : Rx) (i : Nat) : Ent := lookH r.h.toNat r.root i
def Rx.fine (r : Rx) : Prop := Wf r.root ∧ r.check = 0

theorem fine_parts {r : Rx} (h : r.fine) : ∃ H : Nat, r.h = (H : Int) ∧ H ≤ 10 ∧ (H = 0 → r.root = Nd.zero) ∧ (∀ l, H = l + 1 → Wf r.root ∧ r.root.ok (l + 1) = true) ∧ (∀ l, H = l + 2 → ∃ j, j < 7 ∧ (r.root.kid (j + 1)).absent = false) := by
  obtain ⟨hw, hc⟩ := h
  obtain ⟨h0, h1, ha, hok⟩ := check_zero hc
  refine ⟨r.h.toNat, by omega, by omega, fun e => absent_eq hw (ha (by omega)), fun l e => ⟨hw, ?_⟩, fun l e => ?_⟩
  · have := hok (by omega)
    rwa [e] at this
  · have h2 := hok (by omega)
    unfold Rx.check at hc
    rw [if_neg (by omega), if_neg (by omega), if_neg (by rw [h2]; simp), if_neg (by omega)] at hc
    split at hc
    · rename_i hq
      rw [List.any_eq_true] at hq
      obtain ⟨j, hj, hq⟩ := hq
      exact ⟨j, by simpa using hj, by simpa using hq⟩
    · simp at hc

theorem fine_less {r s : Rx} (hr : r.fine) (hs : s.fine) (h : r.h < s.h) : ∃ i, i < 8 ^ 10 ∧ r.look i ≠ s.look i := by
  obtain ⟨H, hH, hH10, -, -, -⟩ := fine_parts hr
  obtain ⟨K, hK, hK10, -, hKok, hKk⟩ := fine_parts hs
  have hlt : H < K := by omega
  have hpow : ∀ a b : Nat, a ≤ b → 8 ^ a ≤ 8 ^ b := fun a b h => Nat.pow_le_pow_right (by omega) h
  match K, hKok, hKk with
  | 0, _, _ => omega
  | 1, hKok, _ =>
    obtain ⟨hw, hok⟩ := hKok 0 rfl
    obtain ⟨i, hi, h0⟩ := ok_entry 0 _ hw hok
    have := hpow 1 10 (by omega)
    refine ⟨i, by omega, fun e => ?_⟩
    unfold Rx.look lookH at e
    rw [if_pos (.inl (by omega)), hK, if_neg (by simp; omega)] at e
    apply h0
    have e2 : noEnt = s.root.look 0 i := e
    rw [← e2]; rfl
  | l + 2, hKok, hKk =>
    obtain ⟨hw, hok⟩ := hKok (l + 1) rfl
    obtain ⟨j, hj, hja⟩ := hKk l rfl
    obtain ⟨hkw, hk⟩ := good_kid hw hok (j + 1) (by omega)
    rw [hja] at hk
    obtain ⟨i, hi, h0⟩ := ok_entry l _ hkw (hk.resolve_left (by simp))
    have hlt2 := lt_top l (j + 1) i (by omega) hi
    have hge : 8 ^ (l + 1) ≤ (j + 1) * 8 ^ (l + 1) + i := by
      have : 1 * 8 ^ (l + 1) ≤ (j + 1) * 8 ^ (l + 1) := Nat.mul_le_mul_right _ (by omega)
      omega
    have h2 := hpow H (l + 1) (by omega)
    have h3 := hpow (l + 2) 10 (by omega)
    refine ⟨(j + 1) * 8 ^ (l + 1) + i, by omega, fun e => ?_⟩
    unfold Rx.look lookH at e
    rw [hH, if_pos (.inr (by simp only [Int.toNat_natCast]; omega)), hK, if_neg (by simp only [Int.toNat_natCast]; omega)] at e
    apply h0
    have e2 : noEnt = s.root.look (l + 1) ((j + 1) * 8 ^ (l + 1) + i) := e
    rw [look_top l (j + 1) i _ (by omega) hi] at e2
    rw [← e2]; rfl

/-- A valid tree is determined by what lies at its indices. -/
theorem rx_ext {r s : Rx} (hr : r.fine) (hs : s.fine) (h : ∀ i, i < 8 ^ 10 → r.look i = s.look i) : r = s := by
  have hh : r.h = s.h := by
    rcases Int.lt_trichotomy r.h s.h with q | q | q
    · obtain ⟨i, hi, hne⟩ := fine_less hr hs q
      exact absurd (h i hi) hne
    · exact q
    · obtain ⟨i, hi, hne⟩ := fine_less hs hr q
      exact absurd (h i hi).symm hne
  obtain ⟨H, hH, hH10, hz, hok, -⟩ := fine_parts hr
  obtain ⟨K, hK, -, kz, kok, -⟩ := fine_parts hs
  obtain rfl : H = K := by omega
  have hroot : r.root = s.root := by
    cases H with
    | zero => rw [hz rfl, kz rfl]
    | succ l =>
      refine node_ext l _ _ ⟨(hok l rfl).1, .inr (hok l rfl).2⟩ ⟨(kok l rfl).1, .inr (kok l rfl).2⟩ (fun i hi => ?_)
      have hp : 8 ^ (l + 1) ≤ 8 ^ 10 := Nat.pow_le_pow_right (by omega) (by omega)
      have := h i (by omega)
      unfold Rx.look lookH at this
      rw [hH, hK, if_neg (by simp only [Int.toNat_natCast]; omega), if_neg (by simp only [Int.toNat_natCast]; omega)] at this
      exact this
  obtain ⟨a, b⟩ := r
  obtain ⟨c, d⟩ := s
  simp only at hh hroot
  rw [hh, hroot]
end Go.Proofs.Ytmdmbnpgdkmklaa
namespace Go.Proofs.Ytmdmbnpgdkmklaa
open Go.RowKit
set_option linter.unusedVariables false
set_option linter.unusedSimpArgs false

structure LeafStep (chg : Nd → Nat → Nd) (f : Ent → Ent) (Q : Ent → Prop) : Prop where
  wf : ∀ n d, Wf n → Wf (chg n d)
  ks : ∀ n d, (chg n d).ks = n.ks
  tags : ∀ n d, d < 8 → tagOk n.t0 = true → tagOk n.t1 = true → tagOk (chg n d).t0 = true ∧ tagOk (chg n d).t1 = true
  ent : ∀ n d, d < 8 → Wf n → tagOk n.t0 = true → tagOk n.t1 = true → ∀ k, k < 8 → leafEnt (chg n d) k = if k = d then f (leafEnt n d) else leafEnt n k
  bare : ∀ e, Q e → (f e).1 = 0 → f e = noEnt

theorem set_step (x : Int) : LeafStep (setChg x) (fun e => if x = 0 then noEnt else (x, e.2)) (fun _ => True) where
  wf := fun n d h => by
    obtain ⟨v, t0, t1, ks⟩ := n
    exact .mk _ _ _ _ (by simp only [Nd.vs, List.length_set]; exact h.vs) (fun i hi => h.kids _ (List.getElem_mem _))
  ks := fun n d => rfl
  tags := fun n d hd h0 h1 => by
    by_cases hx : x = 0
    · refine ⟨?_, ?_⟩
      · show tagOk (if x = 0 then tclr n.t0 d else n.t0) = true
        rw [if_pos hx]; exact (tclr_ok h0 hd).1
      · show tagOk (if x = 0 then tclr n.t1 d else n.t1) = true
        rw [if_pos hx]; exact (tclr_ok h1 hd).1
    · refine ⟨?_, ?_⟩
      · show tagOk (if x = 0 then tclr n.t0 d else n.t0) = true
        rw [if_neg hx]; exact h0
      · show tagOk (if x = 0 then tclr n.t1 d else n.t1) = true
        rw [if_neg hx]; exact h1
  ent := fun n d hd hw h0 h1 k hk => by
    have hv := hw.vs
    have e : (n.vs.set d x).getD k 0 = if k = d then x else n.vs.getD k 0 := by
      rw [List.getD_eq_getElem?_getD, List.getD_eq_getElem?_getD, List.getElem?_set]
      by_cases q : d = k
      · subst q; rw [if_pos rfl, if_pos rfl, if_pos (by omega)]; rfl
      · rw [if_neg q, if_neg (fun h => q h.symm)]
    have c0 := (tclr_ok h0 hd).2 k hk
    have c1 := (tclr_ok h1 hd).2 k hk
    unfold leafEnt
    show ((n.vs.set d x).getD k 0, tb (if x = 0 then tclr n.t0 d else n.t0) k, tb (if x = 0 then tclr n.t1 d else n.t1) k) = _
    rw [e]
    by_cases q : k = d <;> by_cases hx : x = 0
    · rw [if_pos q, if_pos q, if_pos hx, if_pos hx, if_pos hx, c0, c1, if_pos q, if_pos q, hx]; rfl
    · rw [if_pos q, if_pos q, if_neg hx, if_neg hx, if_neg hx, q]
    · rw [if_neg q, if_neg q, if_pos hx, if_pos hx, c0, c1, if_neg q, if_neg q]
    · rw [if_neg q, if_neg q, if_neg hx, if_neg hx]
  bare := fun e _ h => by
    by_cases hx : x = 0
    · simp only [if_pos hx]
    · simp only [if_neg hx] at h; exact absurd h hx

theorem mark_step (tag : Nat) (on : Bool) : LeafStep (markChg tag on) (fun e => if tag = 0 then (e.1, on, e.2.2) else (e.1, e.2.1, on)) (fun e => e.1 ≠ 0) where
  wf := fun n d h => by
    obtain ⟨v, t0, t1, ks⟩ := n
    unfold markChg
    split
    · exact .mk _ _ _ _ h.vs (fun i hi => h.kids _ (List.getElem_mem _))
    · exact .mk _ _ _ _ h.vs (fun i hi => h.kids _ (List.getElem_mem _))
  ks := fun n d => by unfold markChg; split <;> rfl
  tags := fun n d hd h0 h1 => by
    unfold markChg
    split
    · exact ⟨(tset_ok h0 hd on).1, h1⟩
    · exact ⟨h0, (tset_ok h1 hd on).1⟩
  ent := fun n d hd hw h0 h1 k hk => by
    have c0 := (tset_ok h0 hd on).2 k hk
    have c1 := (tset_ok h1 hd on).2 k hk
    unfold leafEnt markChg
    by_cases ht : tag = 0
    · simp only [if_pos ht]
      show (n.vs.getD k 0, tb (tset n.t0 d on) k, tb n.t1 k) = _
      rw [c0]
      by_cases q : k = d
      · rw [if_pos q, if_pos q, q]
      · rw [if_neg q, if_neg q]
    · simp only [if_neg ht]
      show (n.vs.getD k 0, tb n.t0 k, tb (tset n.t1 d on) k) = _
      rw [c1]
      by_cases q : k = d
      · rw [if_pos q, if_pos q, q]
      · rw [if_neg q, if_neg q]
  bare := fun e he h => by
    by_cases ht : tag = 0
    · simp only [if_pos ht] at h; exact absurd h he
    · simp only [if_neg ht] at h; exact absurd h he

theorem kid_cases (n : Nd) (j : Nat) : n.kid j ∈ n.ks ∨ n.kid j = Nd.zero := by
  unfold Nd.kid
  rw [List.getD_eq_getElem?_getD]
  by_cases h : j < n.ks.length
  · rw [List.getElem?_eq_getElem h]; exact .inl (List.getElem_mem _)
  · rw [List.getElem?_eq_none (by omega)]; exact .inr rfl

theorem emp_kid {n : Nd} (h : n.emp = true) (j : Nat) : (n.kid j).emp = true := by
  rcases kid_cases n j with q | q
  · obtain ⟨v, t0, t1, ks⟩ := n
    simp only [Nd.emp, empL_all, Bool.and_eq_true, List.all_eq_true] at h
    exact h.2 _ q
  · rw [q]; rfl

theorem emp_look : ∀ (l : Nat) (n : Nd) (j : Nat), n.emp = true → (n.look l j).1 = 0
  | 0, n, j, h => by
    obtain ⟨v, t0, t1, ks⟩ := n
    simp only [Nd.emp, Bool.and_eq_true, List.all_eq_true, beq_iff_eq] at h
    show v.getD (dig j 0) 0 = 0
    rw [List.getD_eq_getElem?_getD]
    by_cases q : dig j 0 < v.length
    · rw [List.getElem?_eq_getElem q]; exact h.1 _ (List.getElem_mem _)
    · rw [List.getElem?_eq_none (by omega)]; rfl
  | l + 1, n, j, h => emp_look l _ j (emp_kid h _)

theorem good_clean : ∀ (l : Nat) (n : Nd) (j : Nat), Good l n → (n.look l j).1 = 0 → n.look l j = noEnt
  | l, n, j, ⟨hw, .inl h⟩, h0 => by rw [absent_eq hw h, look_zero]
  | 0, n, j, ⟨hw, .inr h⟩, h0 => by
    have hd := dig_lt j 0
    simp only [Nd.ok, Nd.okLeaf, Bool.and_eq_true, List.all_eq_true] at h
    have := h.2.1.1.1.1 (dig j 0) (by simpa using hd)
    have h0' : n.vs.getD (dig j 0) 0 = 0 := h0
    simp only [leafGood, h0', bne_self_eq_false, Bool.false_or, Bool.and_eq_true, Bool.not_eq_true'] at this
    show (n.vs.getD (dig j 0) 0, tb n.t0 (dig j 0), tb n.t1 (dig j 0)) = _
    rw [h0', this.1, this.2]; rfl
  | l + 1, n, j, ⟨hw, .inr h⟩, h0 => good_clean l _ j (good_kid hw h _ (dig_lt j _)) h0

theorem mod_top_iff (l i j : Nat) : j % 8 ^ (l + 2) = i % 8 ^ (l + 2) ↔ dig j (l + 1) = dig i (l + 1) ∧ j % 8 ^ (l + 1) = i % 8 ^ (l + 1) := by
  have hj := Nat.mod_pow_succ (x := j) (b := 8) (k := l + 1)
  have hi := Nat.mod_pow_succ (x := i) (b := 8) (k := l + 1)
  constructor
  · intro h
    refine ⟨?_, ?_⟩
    · rw [← dig_mod j (l + 1) (l + 1) (Nat.le_refl _), ← dig_mod i (l + 1) (l + 1) (Nat.le_refl _), h]
    · have h1 := Nat.mod_mod_of_dvd j (show 8 ^ (l + 1) ∣ 8 ^ (l + 2) from ⟨8, by rw [Nat.pow_succ]⟩)
      have h2 := Nat.mod_mod_of_dvd i (show 8 ^ (l + 1) ∣ 8 ^ (l + 2) from ⟨8, by rw [Nat.pow_succ]⟩)
      rw [← h1, ← h2, h]
  · rintro ⟨h1, h2⟩
    rw [show l + 2 = l + 1 + 1 from rfl, hj, hi, h2]
    unfold dig at h1
    rw [h1]

theorem tagOk_zero : tagOk 0 = true := by decide

theorem upd_step {chg : Nd → Nat → Nd} {f : Ent → Ent} {Q : Ent → Prop} (S : LeafStep chg f Q) : ∀ (l : Nat) (n : Nd) (i : Nat), Good l n → Q (n.look l i) →
    Wf (n.upd chg l i) ∧ ((n.upd chg l i).emp = true ∨ (n.upd chg l i).ok (l + 1) = true) ∧ tagOk (n.upd chg l i).t0 = true ∧ tagOk (n.upd chg l i).t1 = true ∧
      ∀ j, (n.upd chg l i).look l j = if j % 8 ^ (l + 1) = i % 8 ^ (l + 1) then f (n.look l i) else n.look l j := by
  intro l
  induction l with
  | zero =>
    intro n i hg hQ
    have hcl := fun j => good_clean 0 n j hg
    obtain ⟨hw, hn⟩ := hg
    have hd := dig_lt i 0
    have hd0 : ∀ j, dig j 0 = j % 8 := fun j => by unfold dig; simp
    have ht : tagOk n.t0 = true ∧ tagOk n.t1 = true ∧ n.ks = [] := by
      rcases hn with h | h
      · rw [absent_eq hw h]; exact ⟨tagOk_zero, tagOk_zero, rfl⟩
      · simp only [Nd.ok, Nd.okLeaf, Bool.and_eq_true, List.isEmpty_iff] at h
        exact ⟨h.2.1.1.2, h.2.1.2, h.2.2⟩
    obtain ⟨ht0, ht1, hks⟩ := ht
    have hlk : ∀ j, (chg n (dig i 0)).look 0 j = if j % 8 ^ (0 + 1) = i % 8 ^ (0 + 1) then f (n.look 0 i) else n.look 0 j := fun j => by
      show leafEnt _ (dig j 0) = _
      rw [S.ent n (dig i 0) hd hw ht0 ht1 _ (dig_lt j 0), hd0, hd0]
      simp only [Nat.zero_add, Nat.pow_one, Nd.look, hd0]
    obtain ⟨htt0, htt1⟩ := S.tags n (dig i 0) hd ht0 ht1
    refine ⟨S.wf n _ hw, ?_, htt0, htt1, hlk⟩
    show (chg n (dig i 0)).emp = true ∨ (chg n (dig i 0)).ok 1 = true
    have hcl2 : ∀ k, k < 8 → (leafEnt (chg n (dig i 0)) k).1 = 0 → leafEnt (chg n (dig i 0)) k = noEnt := fun k hk h0 => by
      have e1 : dig k 0 = k := by rw [hd0]; omega
      have hlk2 := hlk k
      simp only [Nd.look, e1] at hlk2
      have e2 : leafEnt n k = n.look 0 k := by simp only [Nd.look, e1]
      rw [hlk2] at h0 ⊢
      split at h0
      · rename_i q; rw [if_pos q]; exact S.bare _ hQ h0
      · rename_i q
        rw [if_neg q]
        rw [e2] at h0 ⊢
        exact hcl k h0
    have hks2 := (S.ks n (dig i 0)).trans hks
    have hwf2 := S.wf n (dig i 0) hw
    generalize chg n (dig i 0) = u at hks2 hcl2 htt0 htt1 hwf2
    obtain ⟨v, t0, t1, ks⟩ := u
    simp only [Nd.ks] at hks2
    subst hks2
    simp only [Nd.t0, Nd.t1] at htt0 htt1
    have hv8 := hwf2.vs
    simp only [Nd.vs] at hv8
    cases hall : v.all (· == 0) with
    | true => left; simp [Nd.emp, empL, hall]
    | false =>
      right
      have hany : v.any (· != 0) = true := by
        rw [List.all_eq_false] at hall
        obtain ⟨x, hx, h0⟩ := hall
        rw [List.any_eq_true]
        exact ⟨x, hx, by simpa using h0⟩
      simp only [Nd.ok, Nd.okLeaf, Nd.absent, Nd.ks, Nd.vs, Nd.t0, Nd.t1, hall, hany, htt0, htt1, List.isEmpty_nil, Bool.and_true, Bool.and_false, Bool.not_false, Bool.true_and, List.all_eq_true]
      intro k hk
      have hk8 : k < 8 := by simpa using hk
      unfold leafGood
      by_cases h0 : v.getD k 0 = 0
      · have := hcl2 k hk8 h0
        unfold leafEnt noEnt at this
        simp only [Nd.vs, Nd.t0, Nd.t1, Prod.mk.injEq] at this
        simp [this.2.1, this.2.2]
      · have hb : (v.getD k 0 != 0) = true := by rw [bne_iff_ne]; exact h0
        rw [hb]; rfl
  | succ l ih =>
    intro n i hg hQ
    have hcl := fun j => good_clean (l + 1) n j hg
    obtain ⟨hw, hn⟩ := hg
    obtain ⟨d, hd⟩ : ∃ d, d = dig i (l + 1) := ⟨_, rfl⟩
    have hd8 : d < 8 := by rw [hd]; exact dig_lt _ _
    -- what the node was: values zero, eight children or none, tags by the children
    have hkg : ∀ j, j < 8 → Good l (n.kid j) ∧ tb n.t0 j = ((n.kid j).t0 != 0) ∧ tb n.t1 j = ((n.kid j).t1 != 0) := fun j hj => by
      rcases hn with h | h
      · rw [absent_eq hw h, kid_zero]
        refine ⟨⟨.mk _ _ _ _ rfl (fun i hi => by simp at hi), .inl rfl⟩, ?_, ?_⟩
        · show tb 0 j = _; rw [tb_zero]; rfl
        · show tb 0 j = _; rw [tb_zero]; rfl
      · have h3 := (ok_parts h).2.2.1 j hj
        simp only [kidGood, Bool.and_eq_true, beq_iff_eq] at h3
        exact ⟨good_kid hw h j hj, h3.1.2, h3.2⟩
    have htg : tagOk n.t0 = true ∧ tagOk n.t1 = true ∧ (n.ks = [] ∨ n.ks.length = 8) ∧ n.vs.all (· == 0) = true := by
      rcases hn with h | h
      · rw [absent_eq hw h]; exact ⟨tagOk_zero, tagOk_zero, .inl rfl, rfl⟩
      · obtain ⟨_, h8, h3, _, h5, h6⟩ := ok_parts h
        refine ⟨h5, h6, .inr h8, all_true (fun j hj => ?_)⟩
        rw [hw.vs] at hj
        have := h3 j hj
        simp only [kidGood, Bool.and_eq_true, beq_iff_eq] at this
        exact this.1.1.1
    obtain ⟨ht0, ht1, hks, hvs⟩ := htg
    obtain ⟨K, hK⟩ : ∃ K, K = if n.ks = [] then List.replicate 8 Nd.zero else n.ks := ⟨_, rfl⟩
    have hK8 : K.length = 8 := by
      rw [hK]
      rcases hks with h | h
      · rw [if_pos h]; rfl
      · rw [if_neg (by intro e; rw [e] at h; simp at h)]; exact h
    have hKj : ∀ j, K.getD j Nd.zero = n.kid j := fun j => by
      rw [hK]
      rcases hks with h | h
      · rw [if_pos h]
        unfold Nd.kid
        rw [h]
        simp only [List.getD_eq_getElem?_getD, List.getElem?_replicate]
        split <;> rfl
      · rw [if_neg (by intro e; rw [e] at h; simp at h)]; rfl
    -- the child
    have hQk : Q ((n.kid d).look l i) := by have := hQ; rw [Nd.look, ← hd] at this; exact this
    obtain ⟨k1w, k1e, k1t0, k1t1, k1l⟩ := ih (n.kid d) i (hkg d hd8).1 hQk
    obtain ⟨k1, hk1⟩ : ∃ k1, k1 = (n.kid d).upd chg l i := ⟨_, rfl⟩
    rw [← hk1] at k1w k1e k1t0 k1t1 k1l
    obtain ⟨k, hk⟩ : ∃ k, k = if k1.emp = true then Nd.zero else k1 := ⟨_, rfl⟩
    have hkid_clean := fun j => good_clean l (n.kid d) j (hkg d hd8).1
    have hkgood : Good l k ∧ ∀ j, k.look l j = k1.look l j := by
      rw [hk]
      by_cases e : k1.emp = true
      · rw [if_pos e]
        refine ⟨⟨.mk _ _ _ _ rfl (fun i hi => by simp at hi), .inl rfl⟩, fun j => ?_⟩
        rw [look_zero]
        have h0 := emp_look l k1 j e
        rw [k1l j] at h0 ⊢
        split at h0
        · rename_i q; rw [if_pos q]; exact (S.bare _ hQk h0).symm
        · rename_i q; rw [if_neg q]; exact (hkid_clean j h0).symm
      · rw [if_neg e]
        exact ⟨⟨k1w, .inr (k1e.resolve_left e)⟩, fun j => rfl⟩
    obtain ⟨hkG, hkl⟩ := hkgood
    have hupd : n.upd chg (l + 1) i = .mk n.vs (tset n.t0 d (k.t0 != 0)) (tset n.t1 d (k.t1 != 0)) (K.set d k) := by
      rw [hk, hk1, ← hKj d, hK, hd]
      rfl
    rw [hupd]
    obtain ⟨u, hu⟩ : ∃ u, u = Nd.mk n.vs (tset n.t0 d (k.t0 != 0)) (tset n.t1 d (k.t1 != 0)) (K.set d k) := ⟨_, rfl⟩
    rw [← hu]
    have hukid : ∀ j, j < 8 → u.kid j = if j = d then k else n.kid j := fun j hj => by
      rw [← hKj j, hu]
      unfold Nd.kid
      simp only [Nd.ks, List.getD_eq_getElem?_getD, List.getElem?_set]
      by_cases q : d = j
      · rw [if_pos q, if_pos (by omega), if_pos q.symm]; rfl
      · rw [if_neg q, if_neg (fun h => q h.symm)]
    obtain ⟨a0, b0⟩ := tset_ok ht0 hd8 (k.t0 != 0)
    obtain ⟨a1, b1⟩ := tset_ok ht1 hd8 (k.t1 != 0)
    have huG : ∀ j, j < 8 → Good l (u.kid j) := fun j hj => by
      rw [hukid j hj]
      by_cases q : j = d
      · rw [if_pos q]; exact hkG
      · rw [if_neg q]; exact (hkg j hj).1
    have hut0 : ∀ j, j < 8 → tb u.t0 j = ((u.kid j).t0 != 0) := fun j hj => by
      rw [hukid j hj, hu]
      show tb (tset n.t0 d (k.t0 != 0)) j = _
      rw [b0 j hj]
      by_cases q : j = d
      · rw [if_pos q, if_pos q]
      · rw [if_neg q, if_neg q]; exact (hkg j hj).2.1
    have hut1 : ∀ j, j < 8 → tb u.t1 j = ((u.kid j).t1 != 0) := fun j hj => by
      rw [hukid j hj, hu]
      show tb (tset n.t1 d (k.t1 != 0)) j = _
      rw [b1 j hj]
      by_cases q : j = d
      · rw [if_pos q, if_pos q]
      · rw [if_neg q, if_neg q]; exact (hkg j hj).2.2
    have huks : u.ks.length = 8 := by rw [hu]; simp [Nd.ks, hK8]
    have huvs : u.vs.all (· == 0) = true := by rw [hu]; exact hvs
    have huw : Wf u := by
      rw [hu]
      refine .mk _ _ _ _ hw.vs (fun j hj => ?_)
      have hj8 : j < 8 := by rw [List.length_set] at hj; omega
      have e : (K.set d k)[j] = u.kid j := by rw [hu]; simp [Nd.kid, Nd.ks, hj8, hK8]
      rw [e]; exact (huG j hj8).1
    refine ⟨huw, ?_, by rw [hu]; exact a0, by rw [hu]; exact a1, ?_⟩
    · by_cases hall : ∀ j, j < 8 → (u.kid j).absent = true
      · left
        rw [show u.emp = (u.vs.all (· == 0) && empL u.ks) by cases u; rfl, huvs, empL_all, Bool.true_and, List.all_eq_true]
        intro x hx
        obtain ⟨j, hj, rfl⟩ := List.mem_iff_getElem.1 hx
        have := hall j (by omega)
        rw [show u.kid j = u.ks[j] by simp [Nd.kid, hj]] at this
        exact emp_absent this
      · right
        have hex : ∃ j, j < 8 ∧ (u.kid j).absent = false := Classical.byContradiction fun hno => hall fun j hj => by
          cases q : (u.kid j).absent with
          | true => rfl
          | false => exact absurd ⟨j, hj, q⟩ hno
        obtain ⟨j0, hj0, hj0a⟩ := hex
        have hab : u.absent = false := by
          unfold Nd.absent
          have : u.ks.isEmpty = false := by
            cases q : u.ks with
            | nil => rw [q] at huks; simp at huks
            | cons a b => rfl
          rw [this]; rfl
        have hall2 : (List.range 8).all (kidGood (Nd.ok (l + 1)) u) = true := by
          rw [List.all_eq_true]
          intro j hj
          have hj8 : j < 8 := by simpa using hj
          have hv0 : u.vs.getD j 0 = 0 := by
            have := all_getD huw.vs huvs hj8
            simpa using this
          have hG := (huG j hj8).2
          simp only [kidGood, hv0, hut0 j hj8, hut1 j hj8, BEq.rfl, Bool.and_true, Bool.true_and, Bool.or_eq_true]
          exact hG
        have hany : (List.range 8).any (fun j => !(u.kid j).absent) = true := by
          rw [List.any_eq_true]
          exact ⟨j0, by simpa using hj0, by rw [hj0a]; rfl⟩
        have h0 : tagOk u.t0 = true := by rw [hu]; exact a0
        have h1 : tagOk u.t1 = true := by rw [hu]; exact a1
        simp [Nd.ok, hab, huks, hall2, hany, h0, h1]
    · intro j
      rw [Nd.look, hukid _ (dig_lt j _)]
      by_cases q : dig j (l + 1) = d
      · rw [if_pos q, hkl j, k1l j]
        by_cases q2 : j % 8 ^ (l + 1) = i % 8 ^ (l + 1)
        · rw [if_pos q2, if_pos ((mod_top_iff l i j).2 ⟨q.trans hd, q2⟩)]
          rw [Nd.look, ← hd]
        · rw [if_neg q2, if_neg (fun h => q2 ((mod_top_iff l i j).1 h).2)]
          rw [Nd.look, q]
      · rw [if_neg q, if_neg (fun h => q (((mod_top_iff l i j).1 h).1.trans hd.symm))]
        rw [Nd.look]
end Go.Proofs.Ytmdmbnpgdkmklaa
namespace Go.Proofs.Ytmdmbnpgdkmklaa
open Go.RowKit
set_option linter.unusedVariables false
set_option linter.unusedSimpArgs false

theorem wf_zero : Wf Nd.zero := .mk _ _ _ _ rfl (fun i hi => by simp at hi)
theorem lookH_zero (h j : Nat) : lookH h Nd.zero j = noEnt := by
  unfold lookH
  split
  · rfl
  · exact look_zero _ _

theorem up_kid (n : Nd) (j : Nat) : (upNd n).kid j = if j = 0 then n else Nd.zero := by
  unfold Nd.kid upNd
  simp only [Nd.ks, List.getD_eq_getElem?_getD]
  cases j with
  | zero => rfl
  | succ j =>
    rw [if_neg (by omega), List.getElem?_cons_succ, List.getElem?_replicate]
    split <;> rfl

theorem up_ok {l : Nat} {n : Nd} (hw : Wf n) (h : n.ok (l + 1) = true) : Wf (upNd n) ∧ (upNd n).ok (l + 2) = true := by
  have hab : n.absent = false := by
    cases q : n.absent with
    | false => rfl
    | true => rw [absent_eq hw q] at h; cases l <;> simp [Nd.ok, Nd.absent, Nd.zero, Nd.ks, Nd.t0, Nd.t1, Nd.vs] at h
  obtain ⟨a0, b0⟩ := tset_ok tagOk_zero (show 0 < 8 by omega) (n.t0 != 0)
  obtain ⟨a1, b1⟩ := tset_ok tagOk_zero (show 0 < 8 by omega) (n.t1 != 0)
  refine ⟨.mk _ _ _ _ rfl (fun i hi => ?_), ?_⟩
  · cases i with
    | zero => exact hw
    | succ i => simp only [List.getElem_cons_succ, List.getElem_replicate]; exact wf_zero
  · have habu : (upNd n).absent = false := by simp [Nd.absent, upNd, Nd.ks]
    have hall : (List.range 8).all (kidGood (Nd.ok (l + 1)) (upNd n)) = true := by
      rw [List.all_eq_true]
      intro j hj
      have hj8 : j < 8 := by simpa using hj
      unfold kidGood
      rw [up_kid]
      show (([0, 0, 0, 0, 0, 0, 0, 0] : List Int).getD j 0 == 0 && _ && (tb (tset 0 0 (n.t0 != 0)) j == _) && (tb (tset 0 0 (n.t1 != 0)) j == _)) = true
      rw [b0 j hj8, b1 j hj8]
      have hv : ([0, 0, 0, 0, 0, 0, 0, 0] : List Int).getD j 0 = 0 := by
        match j, hj8 with
        | 0, _ | 1, _ | 2, _ | 3, _ | 4, _ | 5, _ | 6, _ | 7, _ => rfl
      rw [hv]
      by_cases q : j = 0
      · rw [if_pos q, if_pos q, if_pos q, h]; simp
      · rw [if_neg q, if_neg q, if_neg q, tb_zero]; rfl
    have hany : (List.range 8).any (fun i => !((upNd n).kid i).absent) = true := by
      rw [List.any_eq_true]
      exact ⟨0, by simp, by rw [up_kid, if_pos rfl, hab]; rfl⟩
    have h8 : (upNd n).ks.length = 8 := by simp [upNd, Nd.ks]
    have h0 : tagOk (upNd n).t0 = true := a0
    have h1 : tagOk (upNd n).t1 = true := a1
    simp [Nd.ok, habu, h8, hall, hany, h0, h1]

theorem up_look {l : Nat} {n : Nd} (j : Nat) : lookH (l + 2) (upNd n) j = lookH (l + 1) n j := by
  have hp : 8 ^ (l + 2) = 8 * 8 ^ (l + 1) := by rw [Nat.pow_succ, Nat.mul_comm]
  have hpos : 0 < 8 ^ (l + 1) := Nat.pow_pos (by omega)
  unfold lookH
  by_cases h2 : 8 ^ (l + 2) ≤ j
  · rw [if_pos (.inr h2), if_pos (.inr (by omega))]
  · rw [if_neg (by omega)]
    show (upNd n).look (l + 1) j = _
    rw [Nd.look, up_kid]
    have hdj : dig j (l + 1) = j / 8 ^ (l + 1) := by
      unfold dig
      exact Nat.mod_eq_of_lt (Nat.div_lt_of_lt_mul (by rw [Nat.mul_comm]; omega))
    by_cases h1 : 8 ^ (l + 1) ≤ j
    · have : 0 < j / 8 ^ (l + 1) := Nat.div_pos h1 hpos
      rw [if_neg (show ¬ dig j (l + 1) = 0 by omega), look_zero, if_pos (show l + 1 = 0 ∨ 8 ^ (l + 1) ≤ j from .inr h1)]
    · rw [if_pos (show dig j (l + 1) = 0 by rw [hdj]; exact Nat.div_eq_of_lt (by omega)), if_neg (show ¬ (l + 1 = 0 ∨ 8 ^ (l + 1) ≤ j) by omega)]
      rfl

/-- A node at a height: well formed for it; nothing at height 0. -/
def HOk (h : Nat) (n : Nd) : Prop := (n = Nd.zero) ∨ (∃ l, h = l + 1 ∧ Wf n ∧ n.ok (l + 1) = true)

theorem hok_good {l : Nat} {n : Nd} (h : HOk (l + 1) n) : Good l n := by
  rcases h with h | ⟨m, e, hw, hok⟩
  · rw [h]; exact ⟨wf_zero, .inl rfl⟩
  · obtain rfl : m = l := by omega
    exact ⟨hw, .inr hok⟩

theorem fine_hok {r : Rx} (h : r.fine) : HOk r.h.toNat r.root := by
  obtain ⟨H, hH, _, hz, hok, _⟩ := fine_parts h
  rw [hH, Int.toNat_natCast]
  cases H with
  | zero => exact .inl (hz rfl)
  | succ l => exact .inr ⟨l, rfl, (hok l rfl).1, (hok l rfl).2⟩

theorem grow_fine (i : Nat) (hi : i < 8 ^ 10) : ∀ (f h : Nat) (bl : Bool) (n : Nd), h ≤ 10 → 11 ≤ f + h → (bl = true → n = Nd.zero) → (bl = false → ∃ l, h = l + 1 ∧ Wf n ∧ n.ok (l + 1) = true) →
    HOk (growL f bl h n i).1 (growL f bl h n i).2 ∧ 1 ≤ (growL f bl h n i).1 ∧ (growL f bl h n i).1 ≤ 10 ∧ i < 8 ^ (growL f bl h n i).1 ∧ ∀ j, lookH (growL f bl h n i).1 (growL f bl h n i).2 j = lookH h n j := by
  intro f
  induction f with
  | zero => intro h bl n h1 h2; omega
  | succ f ih =>
    intro h bl n h1 h2 hb hn
    unfold growL
    by_cases hc : h = 0 ∨ 0 < i / 8 ^ h
    · rw [if_pos hc]
      have hlt : h < 10 := by
        rcases hc with rfl | hc
        · omega
        · rcases Nat.lt_or_ge h 10 with h3 | h3
          · exact h3
          · obtain rfl : h = 10 := by omega
            rw [Nat.div_eq_of_lt hi] at hc; omega
      cases bl with
      | true =>
        simp only [if_true]
        have hz := hb rfl
        subst hz
        obtain ⟨p1, p2, p3, p4, p5⟩ := ih (h + 1) true Nd.zero (by omega) (by omega) (fun _ => rfl) (by simp)
        exact ⟨p1, p2, p3, p4, fun j => by rw [p5 j, lookH_zero, lookH_zero]⟩
      | false =>
        simp only [Bool.false_eq_true, if_false]
        obtain ⟨l, rfl, hw, hok⟩ := hn rfl
        obtain ⟨uw, uo⟩ := up_ok hw hok
        obtain ⟨p1, p2, p3, p4, p5⟩ := ih (l + 2) false (upNd n) (by omega) (by omega) (by simp) (fun _ => ⟨l + 1, rfl, uw, uo⟩)
        exact ⟨p1, p2, p3, p4, fun j => by rw [p5 j, up_look]⟩
    · rw [if_neg hc]
      have h0 : h ≠ 0 := fun e => hc (.inl e)
      have hlt : i < 8 ^ h := by
        rcases Nat.lt_or_ge i (8 ^ h) with q | q
        · exact q
        · exact absurd (.inr (Nat.div_pos q (Nat.pow_pos (by omega)))) hc
      refine ⟨?_, by omega, h1, hlt, fun j => rfl⟩
      cases bl with
      | true => exact .inl (hb rfl)
      | false => exact .inr (hn rfl)

theorem check_high {l : Nat} {n : Nd} (hl : l + 1 ≤ 10) (hok : n.ok (l + 1) = true) (hk : ∀ m, l = m + 1 → ∃ j, j < 7 ∧ (n.kid (j + 1)).absent = false) : Rx.check ⟨((l + 1 : Nat) : Int), n⟩ = 0 := by
  unfold Rx.check
  simp only
  rw [if_neg (by omega), if_neg (by omega), if_neg (by rw [show ((l + 1 : Nat) : Int).toNat = l + 1 by omega, hok]; simp)]
  cases l with
  | zero => rw [if_pos (by omega)]
  | succ m =>
    rw [if_neg (by omega), if_pos]
    obtain ⟨j, hj, hja⟩ := hk m rfl
    rw [List.any_eq_true]
    exact ⟨j, by simpa using hj, by rw [hja]; rfl⟩

theorem shrink_fine : ∀ (l : Nat) (n : Nd), l + 1 ≤ 10 → Wf n → n.ok (l + 1) = true →
    Rx.fine ⟨((shrinkL (l + 1) n).1 : Int), (shrinkL (l + 1) n).2⟩ ∧ ∀ j, lookH (shrinkL (l + 1) n).1 (shrinkL (l + 1) n).2 j = lookH (l + 1) n j
  | 0, n, hl, hw, hok => ⟨⟨hw, check_high hl hok (fun m h => by omega)⟩, fun j => rfl⟩
  | l + 1, n, hl, hw, hok => by
    obtain ⟨hna, h8, hkg, ⟨j0, hj0, hj0a⟩, ht0, ht1⟩ := ok_parts hok
    unfold shrinkL
    by_cases hall : (n.ks.drop 1).all Nd.absent = true
    · rw [if_pos hall]
      have hothers : ∀ j, 1 ≤ j → j < 8 → (n.kid j).absent = true := fun j h1 h2 => by
        rw [List.all_eq_true] at hall
        refine hall _ ?_
        obtain ⟨k, rfl⟩ : ∃ k, j = k + 1 := ⟨j - 1, by omega⟩
        rw [List.mem_iff_getElem]
        exact ⟨k, by simp; omega, by simp [Nd.kid, h8, h2, Nat.add_comm 1 k]⟩
      have h0a : (n.kid 0).absent = false := by
        by_cases q : j0 = 0
        · rw [← q]; exact hj0a
        · rw [hothers j0 (by omega) hj0] at hj0a; cases hj0a
      obtain ⟨kw, kg⟩ := good_kid hw hok 0 (by omega)
      rw [h0a] at kg
      obtain ⟨p1, p2⟩ := shrink_fine l (n.kid 0) (by omega) kw (kg.resolve_left (by simp))
      refine ⟨p1, fun j => ?_⟩
      have : n.ks.getD 0 Nd.zero = n.kid 0 := rfl
      rw [this, p2 j]
      have hp : 8 ^ (l + 2) = 8 * 8 ^ (l + 1) := by rw [Nat.pow_succ, Nat.mul_comm]
      have hpos : 0 < 8 ^ (l + 1) := Nat.pow_pos (by omega)
      unfold lookH
      by_cases h2 : 8 ^ (l + 2) ≤ j
      · rw [if_pos (.inr (by omega)), if_pos (.inr h2)]
      · rw [if_neg (show ¬ (l + 1 + 1 = 0 ∨ 8 ^ (l + 1 + 1) ≤ j) by omega)]
        show _ = n.look (l + 1) j
        rw [Nd.look]
        have hdj : dig j (l + 1) = j / 8 ^ (l + 1) := by
          unfold dig
          exact Nat.mod_eq_of_lt (Nat.div_lt_of_lt_mul (by rw [Nat.mul_comm]; omega))
        by_cases h1 : 8 ^ (l + 1) ≤ j
        · have hd1 : 0 < dig j (l + 1) := by rw [hdj]; exact Nat.div_pos h1 hpos
          have hk2 := hothers _ hd1 (dig_lt j _)
          have hwk := (good_kid hw hok _ (dig_lt j (l + 1))).1
          rw [if_pos (.inr h1), absent_eq hwk hk2, look_zero]
        · rw [if_neg (by omega), hdj, Nat.div_eq_of_lt (by omega)]
          rfl
    · rw [if_neg hall]
      refine ⟨⟨hw, check_high hl hok (fun m hm => ?_)⟩, fun j => rfl⟩
      have : ∃ x ∈ n.ks.drop 1, x.absent = false := by
        have := hall
        simp only [List.all_eq_true] at this
        exact Classical.byContradiction fun hno => this fun x hx => by
          cases q : x.absent with
          | true => rfl
          | false => exact absurd ⟨x, hx, q⟩ hno
      obtain ⟨x, hx, hxa⟩ := this
      obtain ⟨j, hj, rfl⟩ := List.mem_iff_getElem.1 hx
      simp only [List.length_drop] at hj
      refine ⟨j, by omega, ?_⟩
      rw [List.getElem_drop] at hxa
      rw [show n.kid (j + 1) = n.ks[1 + j]'(by omega) by simp [Nd.kid, Nat.add_comm 1 j, show j + 1 < n.ks.length by omega]]
      exact hxa

theorem fine_empty : Rx.empty.fine := ⟨wf_zero, by decide⟩

/-- The change of one entry, at a height: what lies at every index behind it. -/
theorem upd_lookH {chg : Nd → Nat → Nd} {f : Ent → Ent} {Q : Ent → Prop} (S : LeafStep chg f Q) {l : Nat} {n : Nd} {i : Nat} (hn : Good l n) (hQ : Q (n.look l i)) (hi : i < 8 ^ (l + 1)) (j : Nat) :
    lookH (l + 1) (n.upd chg l i) j = if j = i then f (lookH (l + 1) n i) else lookH (l + 1) n j := by
  obtain ⟨_, _, _, _, hl⟩ := upd_step S l n i hn hQ
  unfold lookH
  by_cases hj : 8 ^ (l + 1) ≤ j
  · rw [if_pos (.inr hj), if_neg (by omega), if_pos (.inr hj)]
  · rw [if_neg (show ¬ (l + 1 = 0 ∨ 8 ^ (l + 1) ≤ j) by omega), if_neg (show ¬ (l + 1 = 0 ∨ 8 ^ (l + 1) ≤ j) by omega), if_neg (show ¬ (l + 1 = 0 ∨ 8 ^ (l + 1) ≤ i) by omega)]
    show (n.upd chg l i).look l j = if j = i then f (n.look l i) else n.look l j
    rw [hl j, Nat.mod_eq_of_lt (by omega), Nat.mod_eq_of_lt hi]

theorem setM_fine (H : Nat) (n : Nd) (i : Nat) (v : Int) (hi : i < 8 ^ 10) (hH : H ≤ 10) (hn : HOk H n) (hz : H = 0 → n = Nd.zero) (hz2 : n = Nd.zero → H = 0) :
    Rx.fine ⟨((setM H n i v).1 : Int), (setM H n i v).2⟩ ∧ ∀ j, lookH (setM H n i v).1 (setM H n i v).2 j = if j = i then (if v = 0 then noEnt else (v, (lookH H n i).2)) else lookH H n j := by
  obtain ⟨p1, p2, p3, p4, p5⟩ := grow_fine i hi 11 H (H == 0) n hH (by omega) (fun q => hz (by simpa using q)) (fun q => by
    rcases hn with h | h
    · have := hz2 h; simp [this] at q
    · exact h)
  unfold setM
  obtain ⟨gh, gn, hg⟩ : ∃ gh gn, growL 11 (H == 0) H n i = (gh, gn) := ⟨_, _, rfl⟩
  rw [hg] at p1 p2 p3 p4 p5 ⊢
  simp only at p1 p2 p3 p4 p5 ⊢
  obtain ⟨l, rfl⟩ : ∃ l, gh = l + 1 := ⟨gh - 1, by omega⟩
  have hG := hok_good p1
  have hlk := fun j => upd_lookH (set_step v) hG trivial p4 j
  obtain ⟨q1, q2, q3, q4, q5⟩ := upd_step (set_step v) l gn i hG trivial
  rw [show l + 1 - 1 = l from rfl]
  have hform : ∀ j, lookH (l + 1) (gn.upd (setChg v) l i) j = if j = i then (if v = 0 then noEnt else (v, (lookH H n i).2)) else lookH H n j := fun j => by
    rw [hlk j, p5, p5]
  unfold shrinkM
  by_cases he : (gn.upd (setChg v) l i).emp = true
  · rw [if_pos ⟨by omega, he⟩]
    refine ⟨fine_empty, fun j => ?_⟩
    rw [← hform j]
    show lookH 0 Nd.zero j = _
    rw [lookH_zero]
    -- an empty node has nothing anywhere
    have h0 : (lookH (l + 1) (gn.upd (setChg v) l i) j).1 = 0 := by
      unfold lookH
      split
      · rfl
      · exact emp_look _ _ _ he
    rw [hform j] at h0 ⊢
    by_cases e : j = i
    · rw [if_pos e] at h0 ⊢
      by_cases hv : v = 0
      · rw [if_pos hv]
      · rw [if_neg hv] at h0; exact absurd h0 hv
    · rw [if_neg e] at h0 ⊢
      rw [← p5 j] at h0 ⊢
      unfold lookH at h0 ⊢
      split at h0
      · rename_i q; rw [if_pos q]
      · rename_i q; rw [if_neg q]; exact (good_clean _ _ _ hG h0).symm
  · rw [if_neg (by simp [he])]
    obtain ⟨s1, s2⟩ := shrink_fine l _ p3 q1 (q2.resolve_left he)
    exact ⟨s1, fun j => by rw [s2 j, hform j]⟩
end Go.Proofs.Ytmdmbnpgdkmklaa
namespace Go.Proofs.Ytmdmbnpgdkmklaa
open Go.RowKit
set_option linter.unusedVariables false
set_option linter.unusedSimpArgs false

theorem absent_look (l : Nat) (n : Nd) (i : Nat) (h : n.absent = true) : (n.look l i).1 = 0 := emp_look l n i (emp_absent h)

theorem leafAt_look : ∀ (l : Nat) (n : Nd) (i : Nat), (match n.leafAt l i with | none => 0 | some m => m.vs.getD (dig i 0) 0) = (n.look l i).1
  | 0, n, i => rfl
  | l + 1, n, i => by
    unfold Nd.leafAt
    by_cases h : (n.kid (dig i (l + 1))).absent = true
    · rw [if_pos h]
      exact (absent_look l _ i h).symm
    · rw [if_neg h]
      exact leafAt_look l _ i

theorem get_look {r : Rx} (hr : r.fine) {i : Nat} (hi : i < 1073741824) : r.get i = (r.look i).1 := by
  obtain ⟨H, hH, hH10, hz, hok, _⟩ := fine_parts hr
  unfold Rx.get Rx.leafOf Rx.look lookH
  rw [hH, Int.toNat_natCast]
  have hq : (0 < (i : Int) / 2 ^ (3 * H)) ↔ 8 ^ H ≤ i := by
    have e : (2 : Int) ^ (3 * H) = ((8 ^ H : Nat) : Int) := by
      rw [show (8 : Nat) = 2 ^ 3 by rfl, ← Nat.pow_mul]; simp
    rw [e, ← Int.natCast_ediv, Int.natCast_pos]
    constructor
    · intro h
      rcases Nat.lt_or_ge i (8 ^ H) with q | q
      · rw [Nat.div_eq_of_lt q] at h; omega
      · exact q
    · intro h; exact Nat.div_pos h (Nat.pow_pos (by omega))
  by_cases h : H = 0 ∨ 8 ^ H ≤ i
  · rw [if_pos h, if_pos]
    · rfl
    · rcases h with h | h
      · exact .inr (.inr (.inr (.inr (by omega))))
      · exact .inr (.inr (.inr (.inl (hq.2 h))))
  · rw [if_neg h, if_neg]
    · exact leafAt_look _ _ _
    · rintro (q | q | q | q | q)
      · exact q hr.2
      · omega
      · omega
      · exact h (.inr (hq.1 q))
      · exact h (.inl (by omega))

theorem zero_not_ok (l : Nat) : Nd.zero.ok (l + 1) = false := by
  cases h : Nd.zero.ok (l + 1) with
  | false => rfl
  | true =>
    obtain ⟨i, _, h0⟩ := ok_entry l _ wf_zero h
    rw [look_zero] at h0
    exact absurd rfl h0

theorem look_clean {r : Rx} (hr : r.fine) (i : Nat) (h : (r.look i).1 = 0) : r.look i = noEnt := by
  obtain ⟨H, hH, _, hz, hok, _⟩ := fine_parts hr
  unfold Rx.look lookH at h ⊢
  rw [hH, Int.toNat_natCast] at h ⊢
  split at h
  · rename_i q; rw [if_pos q]
  · rename_i q
    rw [if_neg q]
    obtain ⟨l, rfl⟩ : ∃ l, H = l + 1 := ⟨H - 1, by omega⟩
    exact good_clean _ _ _ ⟨(hok l rfl).1, .inr (hok l rfl).2⟩ h

/-- Set on a valid tree and an index in range. -/
theorem set_fine {r : Rx} (hr : r.fine) {i : Nat} (hi : i < 1073741824) (v : Int) :
    (r.set i v).2 = 0 ∧ (r.set i v).1.fine ∧ ∀ j, (r.set i v).1.look j = if j = i then (if v = 0 then noEnt else (v, (r.look i).2)) else r.look j := by
  have hg := get_look hr hi
  unfold Rx.set
  rw [if_neg (by simp [hr.2]), if_neg (by omega)]
  by_cases hz : v = 0 ∧ r.get i = 0
  · rw [if_pos hz]
    refine ⟨rfl, hr, fun j => ?_⟩
    show r.look j = _
    by_cases e : j = i
    · rw [if_pos e, if_pos hz.1, e]
      exact look_clean hr i (by rw [← hg]; exact hz.2)
    · rw [if_neg e]
  · rw [if_neg hz]
    obtain ⟨H, hH, hH10, hz0, hok, _⟩ := fine_parts hr
    have hk := fine_hok hr
    rw [hH, Int.toNat_natCast] at hk ⊢
    rw [Int.toNat_natCast]
    obtain ⟨s1, s2⟩ := setM_fine H r.root i v (by omega) hH10 hk hz0 (fun e => by
      cases H with
      | zero => rfl
      | succ l => have := (hok l rfl).2; rw [e, zero_not_ok] at this; cases this)
    refine ⟨rfl, s1, fun j => ?_⟩
    have := s2 j
    unfold Rx.look
    rw [hH, Int.toNat_natCast]
    rw [Int.toNat_natCast]
    exact this

/-- Entries are put one after the other. -/
def putAll (f : Nat → Nat) (g : Nat → Int) (r : Rx) (l : List Nat) : Rx := l.foldl (fun a x => (a.set (f x) (g x)).1) r

theorem putAll_fine (f : Nat → Nat) (g : Nat → Int) (hg : ∀ x, g x ≠ 0) (hfg : ∀ x y, f x = f y → g x = g y) : ∀ (l : List Nat) (r : Rx), r.fine → (∀ x ∈ l, f x < 1073741824) →
    (putAll f g r l).fine ∧ (∀ x, x ∈ l → (putAll f g r l).look (f x) = (g x, (r.look (f x)).2)) ∧ ∀ j, (∀ x ∈ l, f x ≠ j) → (putAll f g r l).look j = r.look j
  | [], r, hr, _ => ⟨hr, fun x hx => by simp at hx, fun j _ => rfl⟩
  | a :: l, r, hr, hl => by
    obtain ⟨_, s2, s3⟩ := set_fine hr (hl a (by simp)) (g a)
    obtain ⟨p1, p2, p3⟩ := putAll_fine f g hg hfg l _ s2 (fun x hx => hl x (by simp [hx]))
    have hsnd : ∀ j, ((r.set (f a) (g a)).1.look j).2 = (r.look j).2 := fun j => by
      rw [s3 j]
      by_cases e : j = f a
      · rw [if_pos e, if_neg (hg a), e]
      · rw [if_neg e]
    refine ⟨p1, fun x hx => ?_, fun j hj => ?_⟩
    · show (putAll f g (r.set (f a) (g a)).1 l).look (f x) = _
      by_cases hm : ∃ y ∈ l, f y = f x
      · obtain ⟨y, hy, e⟩ := hm
        rw [← e, p2 y hy, hsnd, e, hfg y x e]
      · rw [p3 (f x) (fun y hy e => hm ⟨y, hy, e⟩), s3]
        rcases List.mem_cons.1 hx with e | e
        · rw [e, if_pos rfl, if_neg (hg a)]
        · exact absurd ⟨x, e, rfl⟩ hm
    · show (putAll f g (r.set (f a) (g a)).1 l).look j = _
      rw [p3 j (fun x hx => hj x (by simp [hx])), s3, if_neg (fun e => hj a (by simp) e.symm)]

theorem clrAll_fine (f : Nat → Nat) : ∀ (l : List Nat) (r : Rx), r.fine → (∀ x ∈ l, f x < 1073741824) →
    (putAll f (fun _ => 0) r l).fine ∧ (∀ x, x ∈ l → (putAll f (fun _ => 0) r l).look (f x) = noEnt) ∧ ∀ j, (∀ x ∈ l, f x ≠ j) → (putAll f (fun _ => 0) r l).look j = r.look j
  | [], r, hr, _ => ⟨hr, fun x hx => by simp at hx, fun j _ => rfl⟩
  | a :: l, r, hr, hl => by
    obtain ⟨_, s2, s3⟩ := set_fine hr (hl a (by simp)) 0
    obtain ⟨p1, p2, p3⟩ := clrAll_fine f l _ s2 (fun x hx => hl x (by simp [hx]))
    refine ⟨p1, fun x hx => ?_, fun j hj => ?_⟩
    · show (putAll f (fun _ => 0) (r.set (f a) 0).1 l).look (f x) = _
      by_cases hm : ∃ y ∈ l, f y = f x
      · obtain ⟨y, hy, e⟩ := hm
        rw [← e, p2 y hy]
      · rw [p3 (f x) (fun y hy e => hm ⟨y, hy, e⟩), s3]
        rcases List.mem_cons.1 hx with e | e
        · rw [e, if_pos rfl, if_pos rfl]
        · exact absurd ⟨x, e, rfl⟩ hm
    · show (putAll f (fun _ => 0) (r.set (f a) 0).1 l).look j = _
      rw [p3 j (fun x hx => hj x (by simp [hx])), s3, if_neg (fun e => hj a (by simp) e.symm)]

theorem look_empty (j : Nat) : Rx.empty.look j = noEnt := by
  unfold Rx.look lookH Rx.empty
  rw [if_pos (.inl rfl)]

/-- The order of the entries does not matter. -/
theorem order_same (l : List Nat) (hl : ∀ x ∈ l, x < 1073741824) : putAll (fun x => x) (fun x => 1 + (x : Int)) Rx.empty l = putAll (fun x => x) (fun x => 1 + (x : Int)) Rx.empty l.reverse ∧ (putAll (fun x => x) (fun x => 1 + (x : Int)) Rx.empty l).fine := by
  obtain ⟨a1, a2, a3⟩ := putAll_fine (fun x => x) (fun x => 1 + (x : Int)) (fun x => by omega) (fun x y h => by rw [h]) l Rx.empty fine_empty hl
  obtain ⟨b1, b2, b3⟩ := putAll_fine (fun x => x) (fun x => 1 + (x : Int)) (fun x => by omega) (fun x y h => by rw [h]) l.reverse Rx.empty fine_empty (fun x hx => hl x (by simpa using hx))
  refine ⟨rx_ext a1 b1 (fun j _ => ?_), a1⟩
  by_cases h : j ∈ l
  · rw [a2 j h, b2 j (by simpa using h)]
  · rw [a3 j (fun x hx e => h (e ▸ hx)), b3 j (fun x hx e => h (e ▸ by simpa using hx))]

/-- Entries that are put and then removed leave the empty tree. -/
theorem empties_same (l : List Nat) (hl : ∀ x ∈ l, x * 16384 < 1073741824) : putAll (fun x => x * 16384) (fun _ => 0) (putAll (fun x => x * 16384) (fun _ => -7) Rx.empty l) l = Rx.empty := by
  obtain ⟨a1, a2, a3⟩ := putAll_fine (fun x => x * 16384) (fun _ => -7) (fun x => by omega) (fun x y h => rfl) l Rx.empty fine_empty hl
  obtain ⟨b1, b2, b3⟩ := clrAll_fine (fun x => x * 16384) l _ a1 hl
  refine rx_ext b1 fine_empty (fun j _ => ?_)
  rw [look_empty]
  by_cases h : ∃ x ∈ l, x * 16384 = j
  · obtain ⟨x, hx, rfl⟩ := h
    exact b2 x hx
  · rw [b3 j (fun x hx e => h ⟨x, hx, e⟩), a3 j (fun x hx e => h ⟨x, hx, e⟩), look_empty]

theorem next_empty (a t : Int) : Rx.empty.next a t = -1 := by
  unfold Rx.next Rx.entsT
  simp [Rx.empty]
end Go.Proofs.Ytmdmbnpgdkmklaa
