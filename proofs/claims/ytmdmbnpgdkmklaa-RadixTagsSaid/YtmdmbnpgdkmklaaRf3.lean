/- The reference's shape of a node at a leaf and above: the same plain test as radix.valid's. -/
import Derived.Test.YtmdmbnpgdkmklaaRf1
import Derived.Test.YtmdmbnpgdkmklaaSa
namespace Go.Proofs.Ytmdmbnpgdkmklaa
open Go.RowKit
set_option linter.unusedVariables false
set_option linter.unusedSimpArgs false

theorem tagOk_iff {t : Int} : tagOk t = true ↔ 0 ≤ t ∧ t < 256 := by simp [tagOk]

/-- What shape asks of a node's tags before all else. -/
theorem ok_tags {l : Nat} {n : Nd} (h : (tagOk n.t0 && tagOk n.t1) = false) : n.ok (l + 1) = false := by
  rw [Bool.and_eq_false_iff] at h
  cases l with
  | zero => rcases h with h | h <;> simp [Nd.ok, Nd.okLeaf, h]
  | succ l => rcases h with h | h <;> simp [Nd.ok, h]

theorem ok_absent {l : Nat} {n : Nd} (h : n.absent = true) : n.ok (l + 1) = false := by
  cases l with
  | zero => simp [Nd.ok, h]
  | succ l => simp [Nd.ok, h]

set_option maxRecDepth 100000 in
set_option maxHeartbeats 4000000 in
/-- Where the tags are out of range. -/
theorem shape_tags {w : World} {n : Nd} {c : Array Value} (L : Int) (h : IsN w n c) (ht : (tagOk n.t0 && tagOk n.t1) = false) :
    Calls Try.prog 70 #[.agg c, .int .i64 L] w fun e w' => e = .returned (.bool false) ∧ Below w.heap.size w w' := by
  have hrow := rowAt_new w c 26
  cases h with
  | mk v t0 t1 ks a b o cap f hv hvb h0 h1 haa hl hcp hf hk =>
    obtain ⟨v0, v1, v2, v3, v4, v5, v6, v7, rfl⟩ := list8 hv
    simp only [ndCells, List.map_cons, List.map_nil, List.cons_append, List.nil_append] at hrow ⊢
    clear hrow hv hvb hf hk haa h0 h1
    replace ht : (tagOk t0 && tagOk t1) = false := ht
    by_cases p0 : t0 < 0
    · clear ht
      go_enter Try.func70, Try.ntmps70
      go_wp2_with fail
      go_ret
      exact ⟨rfl, (Below.refl _ _).alloc (Nat.le_refl _) _⟩
    · by_cases p1 : 255 < t0
      · clear ht
        go_enter Try.func70, Try.ntmps70
        go_wp2_with fail
        go_ret
        exact ⟨rfl, (Below.refl _ _).alloc (Nat.le_refl _) _⟩
      · by_cases p2 : t1 < 0
        · clear ht
          go_enter Try.func70, Try.ntmps70
          go_wp2_with fail
          go_ret
          exact ⟨rfl, (Below.refl _ _).alloc (Nat.le_refl _) _⟩
        · by_cases p3 : 255 < t1
          · clear ht
            go_enter Try.func70, Try.ntmps70
            go_wp2_with fail
            go_ret
            exact ⟨rfl, (Below.refl _ _).alloc (Nat.le_refl _) _⟩
          · exfalso
            unfold tagOk at ht
            simp at ht
            omega

set_option maxRecDepth 100000 in
set_option maxHeartbeats 4000000 in
theorem shape_absent {w : World} {n : Nd} {c : Array Value} (L : Int) (h : IsN w n c) (ha : n.absent = true) :
    Calls Try.prog 70 #[.agg c, .int .i64 L] w fun e w' => e = .returned (.bool false) ∧ Below w.heap.size w w' := by
  obtain ⟨z0, z1⟩ := absent_tags ha
  have hab := Absent_spec (h.keeps (Keeps.alloc w (.cells c 26)))
  rw [ha] at hab
  cases h with
  | mk v t0 t1 ks a b o cap f hv hvb h0 h1 haa hl hcp hf hk =>
    obtain rfl : t0 = 0 := z0
    obtain rfl : t1 = 0 := z1
    obtain ⟨v0, v1, v2, v3, v4, v5, v6, v7, rfl⟩ := list8 hv
    simp only [ndCells, List.map_cons, List.map_nil, List.cons_append, List.nil_append] at hab ⊢
    have Hab := Lib.hid hab
    clear hv hvb hf hk haa h0 h1 hab ha
    go_enter Try.func70, Try.ntmps70
    go_wp2_with fail
    (with_reducible refine Hab.out.mono ?_)
    rintro e w' ⟨rfl, hB⟩
    go_wp2_with fail
    go_ret
    exact ⟨rfl, ((Below.refl w.heap.size w).alloc (Nat.le_refl _) _).trans (hB.mono (by simp))⟩

set_option maxRecDepth 100000 in
set_option maxHeartbeats 4000000 in
theorem shape_leaf {w : World} {n : Nd} {c : Array Value} (h : IsN w n c) (ha : n.absent = false) (ht0 : tagOk n.t0 = true) (ht1 : tagOk n.t1 = true) :
    Calls Try.prog 70 #[.agg c, .int .i64 1] w fun e w' => e = .returned (.bool (n.ok 1)) ∧ Below w.heap.size w w' := by
  have hok : n.ok 1 = (n.ks.isEmpty && n.leafB) := by
    simp only [Nd.ok, Nd.okLeaf, Nd.leafB, ha, ht0, ht1, Bool.not_false, Bool.true_and, Bool.and_true]
    rw [Bool.and_comm]
  rw [hok]
  have hab := Absent_spec (h.keeps (Keeps.alloc w (.cells c 26)))
  rw [ha] at hab
  have hlf := fun (W : World) (k : Keeps w W) => leaf_spec (h.keeps k)
  have hrow := rowAt_new w c 26
  cases h with
  | mk v t0 t1 ks a b o cap f hv hvb h0 h1 haa hl hcp hf hk =>
    replace ht0 : 0 ≤ t0 ∧ t0 < 256 := tagOk_iff.1 ht0
    replace ht1 : 0 ≤ t1 ∧ t1 < 256 := tagOk_iff.1 ht1
    obtain ⟨p0, p1⟩ := ht0
    obtain ⟨p2, p3⟩ := ht1
    obtain ⟨v0, v1, v2, v3, v4, v5, v6, v7, rfl⟩ := list8 hv
    simp only [ndCells, List.map_cons, List.map_nil, List.cons_append, List.nil_append] at hab hlf hrow ⊢
    simp only [Nd.ks]
    generalize (Nd.mk [v0, v1, v2, v3, v4, v5, v6, v7] t0 t1 ks).leafB = lb at *
    have Hab := Lib.hid hab
    have Hlf := Lib.hid hlf
    have Hrow := Lib.hid hrow
    clear hv hvb hf hk haa h0 h1 hab ha hlf hrow hok
    go_enter Try.func70, Try.ntmps70
    go_wp2_with fail
    (with_reducible refine Hab.out.mono ?_)
    rintro e w' ⟨rfl, hB⟩
    have hc10 : w'.cell? ⟨w.heap.size, 10, none⟩ = some (.slice a ks.length cap) := (Keeps.of_below hB) _ _ (Hrow.out 10 (by simp))
    have hkw : Keeps w w' := (Keeps.alloc w _).trans (Keeps.of_below hB)
    have hz : w.heap.size < w'.heap.size := by have := hB.size; simp at this; omega
    have hbb : Below w.heap.size w w' := ((Below.refl w.heap.size w).alloc (Nat.le_refl _) _).trans (hB.mono (by simp))
    have hrw : RowAt w' w.heap.size 0 _ := Hrow.out.keeps (Keeps.of_below hB)
    have Hrw := Lib.hid hrw
    have Hkw := Lib.hid hkw
    clear hB hrw hkw Hrow
    by_cases hks : ks = []
    · have hq : ((ks.length : Int) == 0) = true := by simp [hks]
      have he : ks.isEmpty = true := by simp [hks]
      have He := Lib.hid he
      clear hks he
      go_wp2_with (first | (refine wpList_load_nd _ rfl rfl w.heap.size 0 rfl _ rfl Hrw.out ?_))
      (with_reducible refine (Hlf.out _ Hkw.out).mono ?_)
      rintro e w2 ⟨rfl, hB2⟩
      go_wp2_with fail
      all_goals go_ret
      all_goals exact ⟨ret_bool (by rw [He.out]; simp), hbb.trans (hB2.mono (Nat.le_of_lt hz))⟩
    · have hq : ((ks.length : Int) == 0) = false := by simp [hks]
      have he : ks.isEmpty = false := by simp [hks]
      have He := Lib.hid he
      clear hks he
      go_wp2_with fail
      go_ret
      exact ⟨ret_bool (by rw [He.out]; simp), hbb⟩
end Go.Proofs.Ytmdmbnpgdkmklaa
