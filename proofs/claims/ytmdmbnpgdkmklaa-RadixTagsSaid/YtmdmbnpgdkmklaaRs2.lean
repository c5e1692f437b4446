/- The reference's entries: a leaf's entries are listed in ascending order. -/
import Derived.Test.YtmdmbnpgdkmklaaRs1
import Derived.Test.YtmdmbnpgdkmklaaRi3
import Derived.Test.YtmdmbnpgdkmklaaRp6
import Derived.Test.YtmdmbnpgdkmklaaRj2
namespace Go.Proofs.Ytmdmbnpgdkmklaa
open Go.RowKit
set_option linter.unusedVariables false
set_option linter.unusedSimpArgs false

/-- The cells of a list of entries. -/
def enCells (l : List En) : List Value := l.flatMap fun e => [.int .i64 (e.i : Int), .int .i64 e.v, .int .i64 e.t]
theorem enCells_append (l m : List En) : enCells (l ++ m) = enCells l ++ enCells m := List.flatMap_append ..
theorem enCells_length (l : List En) : (enCells l).length = l.length * 3 := by
  unfold enCells
  induction l with
  | nil => rfl
  | cons a l ih => rw [List.flatMap_cons, List.length_append, ih]; simp; omega

theorem info83 : (Try.prog.info? 83).map (fun i => (i.zero, i.size, i.bytes)) = some (some (.agg #[.int .i64 0, .int .i64 0, .int .i64 0]), 3, 24) := by kernel_rfl

/-- The result of entries. -/
def Listed (W : World) (l : List En) (e : Ending) (W' : World) : Prop :=
  ∃ v, e = .returned v ∧ W'.ownsRow W.heap.size 83 3 v l.length (enCells l) ∧ Below W.heap.size W W'

theorem ownsRow_mono {w : World} {base base' : Nat} {e : TypeId} {size : Nat} {v : Value} {n : Nat} {xs : List Value} (h : w.ownsRow base e size v n xs) (hb : base' ≤ base) : w.ownsRow base' e size v n xs := by
  obtain ⟨h1, h2⟩ := h
  refine ⟨h1, ?_⟩
  rcases h2 with h2 | ⟨g, cap, cur, a, b, c⟩
  · exact .inl h2
  · exact .inr ⟨g, cap, cur, a, Nat.le_trans hb b, c⟩

theorem leafEnts_length (V : List Int) (t0 t1 : Int) (first : Nat) : ∀ k, (leafEnts V t0 t1 first k).length ≤ k
  | 0 => by simp [leafEnts]
  | k + 1 => by
    rw [leafEnts_succ, List.length_append]
    have := leafEnts_length V t0 t1 first k
    split <;> simp <;> omega

set_option maxRecDepth 100000 in
set_option maxHeartbeats 8000000 in
theorem entries_leaf {W : World} {n : Nd} {c : Array Value} (h : IsN W n c) (first : Nat) (hfirst : first + 8 ≤ 1073741824) :
    Calls Try.prog 101 #[.agg c, .int .i64 1, .int .i64 first] W (Listed W (n.ents 0 first)) := by
  have hrow := rowAt_new W c 26
  cases h with
  | mk v t0 t1 ks a b o cap f hv hvb h0 h1 haa hl hcp hf hk =>
    have hents : (Nd.mk v t0 t1 ks).ents 0 first = leafEnts v t0 t1 first 8 := rfl
    rw [hents]
    obtain ⟨v0, v1, v2, v3, v4, v5, v6, v7, rfl⟩ := list8 hv
    simp only [ndCells, List.map_cons, List.map_nil, List.cons_append, List.nil_append] at hrow ⊢
    obtain ⟨V, hV⟩ : ∃ V, V = [v0, v1, v2, v3, v4, v5, v6, v7] := ⟨_, rfl⟩
    have hcellV := fun (W' : World) (k : Nat) (hk : k < 8) (hr : RowAt W' W.heap.size 0 _) => cellV (b := W.heap.size) (v0 := v0) (v1 := v1) (v2 := v2) (v3 := v3) (v4 := v4) (v5 := v5) (v6 := v6) (v7 := v7) (c8 := .int .i64 t0) (c9 := .int .i64 t1) (c10 := .slice a ks.length cap) hr hk
    rw [← hV] at hv hcellV ⊢
    obtain ⟨post, hpost⟩ : ∃ post, post = Listed W (leafEnts V t0 t1 first 8) := ⟨_, rfl⟩
    have HP : Hid (∀ e W', Listed W (leafEnts V t0 t1 first 8) e W' → post e W') := Lib.hid (by rw [hpost]; exact fun e W' a => a)
    rw [← hpost]
    have Hcell := Lib.hid hcellV
    obtain ⟨W1, hW1⟩ : ∃ W1, W1 = W.alloc (.cells #[.int .i64 v0, .int .i64 v1, .int .i64 v2, .int .i64 v3, .int .i64 v4, .int .i64 v5, .int .i64 v6, .int .i64 v7, .int .i64 t0, .int .i64 t1, .slice a ks.length cap] 26) := ⟨_, rfl⟩
    have HW1 := Lib.hid hW1
    have hB1 : Below W.heap.size W W1 := by rw [hW1]; exact (Below.refl _ _).alloc (Nat.le_refl _) _
    have hz1 : W1.heap.size = W.heap.size + 1 := by rw [hW1]; simp
    rw [← hW1] at hrow
    have Hrow := Lib.hid hrow
    have HB1 := Lib.hid hB1
    have Hz1 := Lib.hid hz1
    obtain ⟨i0, hi0, hz0, hzs, hzb⟩ := info_parts info83
    clear hrow hcellV hV hvb hf hk haa hcp hl h0 h1 hpost hents hB1 hW1 hz1
    go_enter Try.func101, Try.ntmps101
    go_wp2_with fail
    rw [← HW1.out]
    go_loopw [7, 8] (fun ov i wr => ∃ k : Nat, k ≤ 8 ∧ i = .int .i64 k ∧ Hid (wr.ownsRow (W.heap.size + 1) 83 3 ov (leafEnts V t0 t1 first k).length (enCells (leafEnts V t0 t1 first k))) ∧ Hid (Below (W.heap.size + 1) W1 wr)) (fun _ i _ => 8 - (intOf i).toNat)
    case atStart => exact ⟨0, by omega, rfl, Lib.hid (World.ownsRow_nil _ _ _ _), Lib.hid (Below.refl _ _)⟩
    case round =>
      obtain ⟨k, hk8, rfl, Hown, Hbe⟩ := hrel
      have hkeep : Keeps W1 wr := Keeps.of_below (by rw [Hz1.out]; exact Hbe.out)
      have hrow2 := Hrow.out.keeps hkeep
      obtain ⟨hc0, hc8, hc9, hc10⟩ := cells11 hrow2
      by_cases hlt : k < 8
      · have hcell := Hcell.out wr k hlt hrow2
        clear hrow2 Hcell hkeep
        obtain ⟨x, hx⟩ : ∃ x, x = V.getD k 0 := ⟨_, rfl⟩
        rw [← hx] at hcell
        have Hx := Lib.hid hx
        clear hx
        have hkk : ((k : Int)) < 8 := by omega
        by_cases hx0 : x = 0
        · subst hx0
          have Hnext : Hid (wr.ownsRow (W.heap.size + 1) 83 3 u7 (leafEnts V t0 t1 first (k + 1)).length (enCells (leafEnts V t0 t1 first (k + 1)))) := Lib.hid (by rw [leafEnts_succ, if_pos Hx.out.symm, List.append_nil]; exact Hown.out)
          go_wp2_with fail
          go_roundw
          case rel => exact ⟨k + 1, by omega, by go_num, Hnext, Hbe⟩
          case measure => simp [intOf]; omega
        · have hx1 : (x != 0) = true := by simpa using hx0
          obtain ⟨q0, hq0⟩ : ∃ q, bits .and .i64 (t0 / 2 ^ k) 1 = q := ⟨_, rfl⟩
          obtain ⟨q1, hq1⟩ : ∃ q, bits .and .i64 (t1 / 2 ^ k) 1 = q := ⟨_, rfl⟩
          have hb0 : 0 ≤ q0 ∧ q0 ≤ 1 := by rw [← hq0]; exact bit01_bd t0 k
          have hb1 : 0 ≤ q1 ∧ q1 ≤ 1 := by rw [← hq1]; exact bit01_bd t1 k
          have hor : bits .or .i64 q0 (q1 * 2) = q0 + q1 * 2 := by
            have h0 : q0 = 0 ∨ q0 = 1 := by omega
            have h1 : q1 = 0 ∨ q1 = 1 := by omega
            rcases h0 with rfl | rfl <;> rcases h1 with rfl | rfl <;> decide
          obtain ⟨hb01, hb02⟩ := hb0
          obtain ⟨hb11, hb12⟩ := hb1
          have Hnx : Hid (leafEnts V t0 t1 first (k + 1) = leafEnts V t0 t1 first k ++ [⟨first + k, x, q0 + q1 * 2⟩]) := Lib.hid (by
            rw [leafEnts_succ, ← Hx.out, if_neg hx0]; unfold bit01; rw [hq0, hq1])
          have Hln := Lib.hid (leafEnts_length V t0 t1 first k)
          have hsz : W.heap.size + 1 ≤ wr.heap.size := by have := Hbe.out.size; have := Hz1.out; omega
          have HownA := Lib.hid (Hown.out.alloc (.cells #[.int .i64 ((first : Int) + (k : Int)), .int .i64 x, .int .i64 (q0 + q1 * 2)] 83))
          have Hz2 := Lib.hid (show W.heap.size + 1 ≤ (wr.alloc (.cells #[.int .i64 ((first : Int) + (k : Int)), .int .i64 x, .int .i64 (q0 + q1 * 2)] 83)).heap.size by simp; omega)
          have hl1 := Hln.out
          have Hm := Lib.hid (show (leafEnts V t0 t1 first k).length + 1 ≤ maxLen by unfold maxLen; omega)
          have Hm2 := Lib.hid (show ((leafEnts V t0 t1 first k).length + 1) * 24 ≤ 140737488355328 by omega)
          clear hx0 hl1
          go_wp2_with (first
            | (refine wpList_append_own _ (by rfl) (.tmp 39) (.tmp 49) 79 (by rfl) (W.heap.size + 1) 83 i0 _ 3 24 Try.underlying79 hi0 hz0 hzs hzb (by rfl) (by omega) u7 _ _ (by rfl) (by with_reducible exact HownA.out)
                ⟨wr.heap.size, 0, none⟩ 1 1 [.int .i64 ((first : Int) + (k : Int)), .int .i64 x, .int .i64 (q0 + q1 * 2)] (by rfl) (by rfl) (World.news_of_block (heap_alloc_new wr _)) (by simp [Value.oneCell']) (by with_reducible exact Hm.out) (by with_reducible exact Hm2.out) (by with_reducible exact Hz2.out) ?_
               intro v' w' hown' hgrow hnil'))
          have hlt8 := fun j hj => Hown.out.lt j hj
          have hown2 : w'.ownsRow (W.heap.size + 1) 83 3 v' (leafEnts V t0 t1 first (k + 1)).length (enCells (leafEnts V t0 t1 first (k + 1))) := by
            rw [Hnx.out, enCells_append, List.length_append]
            have e : enCells [⟨first + k, x, q0 + q1 * 2⟩] = [.int .i64 ((first : Int) + (k : Int)), .int .i64 x, .int .i64 (q0 + q1 * 2)] := by
              simp [enCells]
            rw [e]
            exact hown'
          have hb2 : Below (W.heap.size + 1) W1 w' := (Hbe.out.alloc hsz _).grown hgrow (by simp; omega) (fun j hj => (hlt8 j hj).1)
          have Hown2 := Lib.hid hown2
          have Hb2 := Lib.hid hb2
          clear hown2 hb2 hown' hgrow hnil' hlt8
          go_wp2_with fail
          go_roundw
          case rel => exact ⟨k + 1, by omega, by go_num, Hown2, Hb2⟩
          case measure => simp [intOf]; omega
      · obtain rfl : k = 8 := by omega
        have Hfin := Lib.hid (HP.out (.returned u7) wr ⟨u7, rfl, ownsRow_mono Hown.out (Nat.le_succ _), HB1.out.trans (Hbe.out.mono (Nat.le_succ _))⟩)
        go_wp2_with fail
        exact Hfin.out
end Go.Proofs.Ytmdmbnpgdkmklaa
