/- The number of nodes; trees as plain data; New, Few. -/
import Derived.Test.YtmdmbnpgdkmklaaSa
import Derived.Handy
namespace Go.Proofs.Ytmdmbnpgdkmklaa
open Go.RowKit
set_option linter.unusedVariables false
set_option linter.unusedSimpArgs false

mutual
def nodesM : Nd → Int → Int
  | .mk _ _ _ ks, m => nodesL ks m 1
def nodesL : List Nd → Int → Int → Int
  | [], _, k => k
  | n :: ks, m, k => if k ≤ m then nodesL ks m (k + nodesM n (m - k)) else k
end

theorem nodesL_done (ks : List Nd) (m k : Int) (h : m < k) : nodesL ks m k = k := by
  cases ks with
  | nil => simp [nodesL]
  | cons n ks => simp [nodesL, Int.not_le.2 h]

theorem nodesL_step (ks : List Nd) (m k : Int) (j : Nat) (hj : j < ks.length) (h : k ≤ m) : nodesL (ks.drop j) m k = nodesL (ks.drop (j + 1)) m (k + nodesM ks[j] (m - k)) := by
  rw [List.drop_eq_getElem_cons hj, nodesL, if_pos h]

theorem nodes_bd : (∀ (n : Nd) (m : Int), 0 ≤ m → 1 ≤ nodesM n m ∧ nodesM n m ≤ m + 1) := by
  intro n
  refine Nd.rec (motive_1 := fun n => ∀ m : Int, 0 ≤ m → 1 ≤ nodesM n m ∧ nodesM n m ≤ m + 1)
    (motive_2 := fun ks => ∀ m k : Int, 0 ≤ m → 1 ≤ k → k ≤ m + 1 → 1 ≤ nodesL ks m k ∧ nodesL ks m k ≤ m + 1) ?_ ?_ ?_ n
  · intro v t0 t1 ks ih m hm
    rw [nodesM]
    exact ih m 1 hm (by omega) (by omega)
  · intro m k hm h1 h2
    rw [nodesL]; exact ⟨h1, h2⟩
  · intro n ks ihn ihk m k hm h1 h2
    rw [nodesL]
    split
    · have := ihn (m - k) (by omega)
      exact ihk m _ hm (by omega) (by omega)
    · exact ⟨h1, h2⟩

/-- Whether a tree is small enough for the statements. -/
def Nd.few (n : Nd) : Bool := decide (nodesM n 400 ≤ 400)

set_option maxRecDepth 100000 in
set_option maxHeartbeats 2000000 in
theorem nodes_spec {w : World} {n : Nd} {c : Array Value} (h : IsN w n c) : ∀ (W : World) (m : Int), Keeps w W → 0 ≤ m → m ≤ 400 →
    Calls Try.prog 66 #[.agg c, .int .i64 m] W fun e w' => e = .returned (.int .i64 (nodesM n m)) ∧ Below W.heap.size W w' := by
  induction h with
  | mk v t0 t1 ks a b o cap f hv hvb h0 h1 haa hl hcp hf hk ih =>
    intro W m hK hm0 hm4
    have hrow := rowAt_new W (ndCells v t0 t1 (.slice a ks.length cap)) 26
    have hc10 : (W.alloc (.cells (ndCells v t0 t1 (.slice a ks.length cap)) 26)).cell? ⟨W.heap.size, 10, none⟩ = some (.slice a ks.length cap) := by
      obtain ⟨v0, v1, v2, v3, v4, v5, v6, v7, rfl⟩ := list8 hv
      exact hrow 10 (by simp [ndCells])
    rw [nodesM]
    obtain ⟨W1, hW1⟩ : ∃ W1, W1 = W.alloc (.cells (ndCells v t0 t1 (.slice a ks.length cap)) 26) := ⟨_, rfl⟩
    have hB1 : Below W.heap.size W W1 := by rw [hW1]; exact (Below.refl _ _).alloc (Nat.le_refl _) _
    have hz1 : W.heap.size < W1.heap.size := by rw [hW1]; simp
    have HW1 := Lib.hid hW1
    have Hf := Lib.hid hf
    have Hk := Lib.hid hk
    have Ih := Lib.hid ih
    have Haa := Lib.hid haa
    rw [← hW1] at hc10
    clear hrow hv hvb hf hk ih haa h0 h1 hW1
    go_enter Try.func66, Try.ntmps66
    go_wp2_with fail
    rw [← HW1.out]
    go_loopw [5, 6] (fun s i wr => ∃ (j : Nat) (K : Int), j ≤ ks.length ∧ i = .int .i64 j ∧ s = .int .i64 K ∧ 1 ≤ K ∧ K ≤ m + 1 ∧ Hid (nodesL (ks.drop j) m K = nodesL ks m 1) ∧ Below W1.heap.size W1 wr) (fun _ i _ => ks.length - (intOf i).toNat)
    case atStart => exact ⟨0, 1, by omega, rfl, rfl, by omega, by omega, Lib.hid (by simp), Below.refl _ _⟩
    case round =>
      obtain ⟨j, K, hj, rfl, rfl, hK1, hK2, Hinv, hbe⟩ := hrel
      have hcl := (Keeps.of_below hbe) _ _ hc10
      have hzz := hbe.size
      have hend : Below W.heap.size W wr := hB1.trans (hbe.mono (Nat.le_of_lt hz1))
      by_cases hlt : j < ks.length
      · obtain rfl : a = some ⟨b, o, none⟩ := Haa.out (by rintro rfl; simp at hlt)
        by_cases hKm : K ≤ m
        · have hkeep : Keeps w wr := hK.trans ((Keeps.of_below hB1).trans (Keeps.of_below hbe))
          have hn := (Hk.out j hlt)
          have hr := (Hf.out j hlt).keeps hkeep
          have hcall := Ih.out j hlt wr (m - K) hkeep (by omega) (by omega)
          have hbd := (nodes_bd ks[j] (m - K) (by omega))
          have hs := hn.size
          have Hr := Lib.hid hr
          have Hs := Lib.hid hs
          have Hcall := Lib.hid hcall
          have Hstep := Lib.hid (nodesL_step ks m K j hlt hKm)
          clear hr hcall hkeep hs hn
          obtain ⟨N, hN⟩ : ∃ N, N = nodesM ks[j] (m - K) := ⟨_, rfl⟩
          rw [← hN] at hbd
          have HN := Lib.hid hN
          clear hN
          go_wp2_with (first | (refine wpList_load_nd _ rfl rfl b (o + j * 11) rfl (f j) Hs.out Hr.out ?_))
          (with_reducible refine Hcall.out.mono ?_)
          rw [← HN.out]
          rintro e w2 ⟨rfl, hB2⟩
          go_wp2_with fail
          go_roundw
          case rel => exact ⟨j + 1, K + N, by omega, by go_num, rfl, by omega, by omega, Lib.hid (by rw [← Hinv.out, Hstep.out, ← HN.out]), hbe.trans (hB2.mono (by omega))⟩
          case measure => simp [intOf]; omega
        · go_wp2_with fail
          go_ret
          exact ⟨ret_int (by rw [← Hinv.out, nodesL_done _ _ _ (by omega)]), hend⟩
      · obtain rfl : j = ks.length := by omega
        go_wp2_with fail
        go_ret
        exact ⟨ret_int (by rw [← Hinv.out]; simp [nodesL]), hend⟩
end Go.Proofs.Ytmdmbnpgdkmklaa
namespace Go.Proofs.Ytmdmbnpgdkmklaa
open Go.RowKit
set_option linter.unusedVariables false
set_option linter.unusedSimpArgs false

structure Rx where
  h : Int
  root : Nd

/-- The cells 'c' are a tree. -/
def IsR (w : World) (r : Rx) (c : Array Value) : Prop := inI64 r.h ∧ ∃ nc, c = #[.int .i64 r.h] ++ nc ∧ IsN w r.root nc

theorem IsR.keeps {w w' : World} {r : Rx} {c : Array Value} (h : IsR w r c) (k : Keeps w w') : IsR w' r c :=
  ⟨h.1, let ⟨nc, e, hn⟩ := h.2; ⟨nc, e, hn.keeps k⟩⟩

theorem rowAt_tail {w : World} {b o : Nat} {x : Value} {nc : Array Value} (h : RowAt w b o (#[x] ++ nc)) : RowAt w b (o + 1) nc := fun i hi => by
  have := h (i + 1) (by simp; omega)
  rw [show o + 1 + i = o + (i + 1) by omega, this]
  simp [Array.getElem_append]

theorem rowAt_head {w : World} {b o : Nat} {x : Value} {nc : Array Value} (h : RowAt w b o (#[x] ++ nc)) : w.cell? ⟨b, o, none⟩ = some x := by
  have := h 0 (by simp; omega)
  simpa using this

/-- The zero tree. -/
def Rx.empty : Rx := ⟨0, Nd.zero⟩

theorem isN_zero (w : World) : IsN w Nd.zero #[.int .i64 0, .int .i64 0, .int .i64 0, .int .i64 0, .int .i64 0, .int .i64 0, .int .i64 0, .int .i64 0, .int .i64 0, .int .i64 0, .slice none 0 0] := by
  have z : inI64 0 := by unfold inI64; omega
  exact IsN.mk (w := w) [0, 0, 0, 0, 0, 0, 0, 0] 0 0 [] none 0 0 0 (fun _ => #[]) rfl (fun x hx => by simp at hx; subst hx; exact z) z z (fun h => absurd rfl h) (by simp) (by simp) (fun i hi => by simp at hi) (fun i hi => by simp at hi)

def emptyCells : Array Value := #[.int .i64 0, .int .i64 0, .int .i64 0, .int .i64 0, .int .i64 0, .int .i64 0, .int .i64 0, .int .i64 0, .int .i64 0, .int .i64 0, .int .i64 0, .slice none 0 0]

theorem isR_empty (w : World) : IsR w Rx.empty emptyCells := ⟨by unfold inI64 Rx.empty; simp, _, rfl, isN_zero w⟩

set_option maxRecDepth 100000 in
theorem New_spec (w : World) : Calls Try.prog 22 #[] w fun e w' => e = .returned (.agg emptyCells) ∧ Below w.heap.size w w' := by
  go_enter Try.func22, Try.ntmps22
  go_wp2_with fail
  exact bodyPost_ret (v := .agg emptyCells) (by simp [results, Try.results22, go_sem, emptyCells]) rfl ⟨rfl, (Below.refl _ _).alloc (Nat.le_refl _) _⟩

set_option maxRecDepth 100000 in
set_option maxHeartbeats 1000000 in
theorem Few_spec {w : World} {r : Rx} {c : Array Value} (h : IsR w r c) :
    Calls Try.prog 18 #[.agg c] w fun e w' => e = .returned (.bool r.root.few) ∧ Below w.heap.size w w' := by
  obtain ⟨hh, nc, rfl, hn⟩ := h
  have hrow := rowAt_tail (rowAt_new w (#[.int .i64 r.h] ++ nc) 28)
  have hs := hn.size
  have hk := Keeps.alloc w (.cells (#[.int .i64 r.h] ++ nc) 28)
  have hc := nodes_spec hn _ 400 hk (by omega) (by omega)
  have Hrow := Lib.hid hrow
  have Hc := Lib.hid hc
  have Hs := Lib.hid hs
  clear hrow hc hs hn hk
  go_enter Try.func18, Try.ntmps18
  go_wp2_with (first | (refine wpList_load_nd _ rfl rfl w.heap.size (0 + 1) rfl _ Hs.out Hrow.out ?_))
  (with_reducible refine Hc.out.mono ?_)
  rintro e w2 ⟨rfl, hB2⟩
  go_wp2_with fail
  go_ret
  exact ⟨rfl, ((Below.refl w.heap.size w).alloc (Nat.le_refl _) _).trans (hB2.mono (by simp))⟩
end Go.Proofs.Ytmdmbnpgdkmklaa
