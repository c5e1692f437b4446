/- radix.empty answers whether a tree holds no value. -/
import Derived.Test.YtmdmbnpgdkmklaaRk1
import Derived.Handy
namespace Go.Proofs.Ytmdmbnpgdkmklaa
open Go.RowKit
set_option linter.unusedVariables false
set_option linter.unusedSimpArgs false

mutual
def Nd.emp : Nd → Bool
  | .mk v _ _ ks => v.all (· == 0) && empL ks
def empL : List Nd → Bool
  | [] => true
  | n :: ks => n.emp && empL ks
end

theorem empL_all (ks : List Nd) : empL ks = ks.all Nd.emp := by
  induction ks with
  | nil => rfl
  | cons n ks ih => simp [empL, ih]

theorem empL_take (ks : List Nd) (j : Nat) (hj : j < ks.length) : empL (ks.take (j + 1)) = (empL (ks.take j) && ks[j].emp) := by
  rw [empL_all, empL_all, List.take_succ_eq_append_getElem hj, List.all_append]
  simp

theorem empL_false (ks : List Nd) (j : Nat) (hj : j < ks.length) (h : ks[j].emp = false) : empL ks = false := by
  rw [empL_all, List.all_eq_false]
  exact ⟨ks[j], List.getElem_mem hj, by simp [h]⟩

theorem neqArr (w : World) (t : TypeId) (n : Nat) (ht : Try.prog.underlying t = some (.array n 3)) (xs ys : List Int) (hx : xs.length = n) (hy : ys.length = n) :
    (binOp .neq t (.agg (xs.map (Value.int .i64)).toArray) (.agg (ys.map (Value.int .i64)).toArray)).run Try.prog w = .ok (.bool (!(xs == ys))) w := by
  have h := eqlArr w t n ht xs ys hx hy
  rw [run_eql_struct] at h
  rw [run_neq_struct]
  clear ht hx hy
  generalize (Op.equalIn 10000 t (.agg (xs.map (Value.int .i64)).toArray) (.agg (ys.map (Value.int .i64)).toArray)).run Try.prog w = r at h ⊢
  cases r with
  | ok b w' =>
    change Result.ok (Value.bool b) w' = _ at h
    change Result.ok (Value.bool (!b)) w' = _
    injection h with h1 h2
    injection h1 with h3
    rw [h2, h3]
  | halt s w' =>
    change Result.halt _ _ = _ at h
    cases h

set_option maxRecDepth 100000 in
set_option maxHeartbeats 2000000 in
theorem empty_spec {w : World} {n : Nd} {c : Array Value} (h : IsN w n c) : ∀ (W : World), Keeps w W →
    Calls Try.prog 100 #[.agg c] W fun e w' => e = .returned (.bool n.emp) ∧ Below W.heap.size W w' := by
  induction h with
  | mk v t0 t1 ks a b o cap f hv hvb h0 h1 haa hl hcp hf hk ih =>
    intro W hK
    obtain ⟨v0, v1, v2, v3, v4, v5, v6, v7, rfl⟩ := list8 hv
    have he8 := fun (w : World) => neqArr w 22 8 Try.underlying22 [v0, v1, v2, v3, v4, v5, v6, v7] [0, 0, 0, 0, 0, 0, 0, 0] rfl rfl
    have hall : ([v0, v1, v2, v3, v4, v5, v6, v7] == [0, 0, 0, 0, 0, 0, 0, 0]) = [v0, v1, v2, v3, v4, v5, v6, v7].all (· == 0) := by simp
    rw [hall] at he8
    simp only [ndCells, List.map_cons, List.map_nil, List.cons_append, List.nil_append] at he8 ⊢
    have hrow := rowAt_new W #[.int .i64 v0, .int .i64 v1, .int .i64 v2, .int .i64 v3, .int .i64 v4, .int .i64 v5, .int .i64 v6, .int .i64 v7, .int .i64 t0, .int .i64 t1, .slice a ks.length cap] 26
    have hc10 : (W.alloc (.cells #[.int .i64 v0, .int .i64 v1, .int .i64 v2, .int .i64 v3, .int .i64 v4, .int .i64 v5, .int .i64 v6, .int .i64 v7, .int .i64 t0, .int .i64 t1, .slice a ks.length cap] 26)).cell? ⟨W.heap.size, 10, none⟩ = some (.slice a ks.length cap) := hrow 10 (by simp)
    rw [Nd.emp]
    obtain ⟨al, hal⟩ : ∃ al, al = [v0, v1, v2, v3, v4, v5, v6, v7].all (· == 0) := ⟨_, rfl⟩
    rw [← hal] at he8 ⊢
    obtain ⟨W1, hW1⟩ : ∃ W1, W1 = W.alloc (.cells #[.int .i64 v0, .int .i64 v1, .int .i64 v2, .int .i64 v3, .int .i64 v4, .int .i64 v5, .int .i64 v6, .int .i64 v7, .int .i64 t0, .int .i64 t1, .slice a ks.length cap] 26) := ⟨_, rfl⟩
    have hB1 : Below W.heap.size W W1 := by rw [hW1]; exact (Below.refl _ _).alloc (Nat.le_refl _) _
    have hz1 : W.heap.size < W1.heap.size := by rw [hW1]; simp
    have HW1 := Lib.hid hW1
    have Hf := Lib.hid hf
    have Hk := Lib.hid hk
    have Ih := Lib.hid ih
    have Haa := Lib.hid haa
    rw [← hW1] at hrow hc10
    clear hv hvb hf hk ih haa h0 h1 hW1 hall hrow hal
    obtain ⟨post, hpost⟩ : ∃ post : Ending → World → Prop, post = fun e w' => e = .returned (.bool (al && empL ks)) ∧ Below W.heap.size W w' := ⟨_, rfl⟩
    have HP : Hid (∀ (x : Bool) W', x = (al && empL ks) → Below W.heap.size W W' → post (.returned (.bool x)) W') := Lib.hid (by rw [hpost]; exact fun x W' a b => ⟨by rw [a], b⟩)
    rw [← hpost]
    clear hpost
    cases al with
    | false =>
      go_enter Try.func100, Try.ntmps100
      go_wp2_with fail
      exact HP.out _ _ rfl (by first | exact hB1 | (rw [← HW1.out]; exact hB1))
    | true =>
      go_enter Try.func100, Try.ntmps100
      go_wp2_with fail
      rw [← HW1.out]
      go_loopw [12] (fun i wr => ∃ (j : Nat), j ≤ ks.length ∧ i = .int .i64 j ∧ Hid (empL (ks.take j) = true) ∧ Below W1.heap.size W1 wr) (fun i _ => ks.length - (intOf i).toNat)
      case atStart => exact ⟨0, by omega, rfl, Lib.hid rfl, Below.refl _ _⟩
      case round =>
        obtain ⟨j, hj, rfl, Hinv, hbe⟩ := hrel
        have hcl := (Keeps.of_below hbe) _ _ hc10
        have hzz := hbe.size
        have hend : Below W.heap.size W wr := hB1.trans (hbe.mono (Nat.le_of_lt hz1))
        by_cases hlt : j < ks.length
        · obtain rfl : a = some ⟨b, o, none⟩ := Haa.out (by rintro rfl; simp at hlt)
          have hkeep : Keeps w wr := hK.trans ((Keeps.of_below hB1).trans (Keeps.of_below hbe))
          have hn := (Hk.out j hlt)
          have hr := (Hf.out j hlt).keeps hkeep
          have hB2 : Below wr.heap.size wr (wr.alloc (.cells (f j) 26)) := (Below.refl _ _).alloc (Nat.le_refl _) _
          have hcall := Ih.out j hlt (wr.alloc (.cells (f j) 26)) (hkeep.trans (Keeps.of_below hB2))
          obtain ⟨x0, x1, x2, x3, x4, x5, x6, x7, xp, xl, xc, hx⟩ := hn.lit
          rw [hx] at hr hcall hB2
          generalize (ks[j]).t0 = kt0 at *
          generalize (ks[j]).t1 = kt1 at *
          have Hr := Lib.hid hr
          have Hcall := Lib.hid hcall
          have Hx := Lib.hid hx
          have HB2 := Lib.hid hB2
          clear hr hcall hkeep hn hx hB2
          obtain ⟨em, hem⟩ : ∃ em, em = (ks[j]).emp := ⟨_, rfl⟩
          have Hem := Lib.hid hem
          clear hem
          have hlenb : (j : Int) < (ks.length : Int) := by omega
          go_wp2_with (first | (refine wpList_load_nd (.tmp 14) rfl rfl b (o + j * 11) rfl _ rfl Hr.out ?_))
          (with_reducible refine Hcall.out.mono ?_)
          rw [← Hem.out]
          rintro e w2 ⟨rfl, hB3⟩
          have hbe2 : Below wr.heap.size wr w2 := HB2.out.trans (hB3.mono (by simp))
          have hend2 : Below W.heap.size W w2 := hend.trans (hbe2.mono (by have := hB1.size; omega))
          have Hend2 := Lib.hid hend2
          clear hB3 hend2
          cases em with
          | false =>
            go_wp2_with fail
            exact HP.out _ _ (by rw [empL_false _ _ hlt Hem.out.symm]; rfl) Hend2.out
          | true =>
            go_wp2_with fail
            go_roundw
            case rel => exact ⟨j + 1, by omega, by go_num, Lib.hid (by rw [empL_take _ _ hlt, Hinv.out, ← Hem.out]; rfl), hbe.trans (hbe2.mono (by omega))⟩
            case measure => simp [intOf]; omega
        · obtain rfl : j = ks.length := by omega
          go_wp2_with fail
          exact HP.out _ _ (by have := Hinv.out; rw [List.take_length] at this; rw [this]; rfl) hend
end Go.Proofs.Ytmdmbnpgdkmklaa
