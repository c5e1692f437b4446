/- A tree of the call's own behind the blocks that came in: made, grown, changed, shrunk, given back. -/
import Derived.Test.YtmdmbnpgdkmklaaRl6
namespace Go.Proofs.Ytmdmbnpgdkmklaa
open Go.RowKit
set_option linter.unusedVariables false
set_option linter.unusedSimpArgs false

theorem setAt_new {W3 w2 w5 : World} {n : Nd} {c : Array Value} {S : Nat → Prop} {H : Nat} (hB2 : Below W3.heap.size W3 w2) (hB5 : Below w2.drew.heap.size w2.drew w5) (hO : Owns w5 n c S) (hS : ∀ k, S k → w2.drew.heap.size ≤ k) :
    SetAt W3 w5.heap.size H n (w5.alloc (.cells (#[.int .i64 H] ++ c) 28)) := by
  have h1 := hB2.size
  have h2 : w2.heap.size ≤ w5.heap.size := hB5.size
  have hA : Below w5.heap.size w5 (w5.alloc (.cells (#[.int .i64 H] ++ c) 28)) := (Below.refl _ _).alloc (Nat.le_refl _) _
  refine ⟨S, ⟨c, heap_alloc_new _ _, hO.kept hA, fun h => ?_⟩, fun k hk => Nat.le_trans h1 (hS k hk), by omega, ?_⟩
  · have := hO.lt _ h; omega
  · exact (hB2.drew.trans (hB5.mono h1)).trans (hA.mono (by omega))

theorem setAt_put {W3 w2 w5 : World} {o : Obj} {old : Array Value} {n : Nd} {c : Array Value} {S : Nat → Prop} {H : Nat} (hB2 : Below W3.heap.size W3 w2) (hB5 : Below (w2.alloc o).drew.heap.size (w2.alloc o).drew w5) (hg : w5.heap[w2.heap.size]? = some (.cells old 28 (0, 0)))
    (hO : Owns w5 n c S) (hS : ∀ k, S k → (w2.alloc o).drew.heap.size ≤ k) :
    SetAt W3 w2.heap.size H n (w5.setRow w2.heap.size (#[.int .i64 H] ++ c)) := by
  have h1 := hB2.size
  have h2 : (w2.alloc o).heap.size ≤ w5.heap.size := hB5.size
  have h3 : (w2.alloc o).drew.heap.size = w2.heap.size + 1 := by show (w2.alloc o).heap.size = _; simp
  have hn : ¬ S w2.heap.size := fun h => by have := hS _ h; omega
  refine ⟨S, ⟨c, setRow_heap _ _ _ _ _ _ hg, hO.other hn (fun k hk => setRow_other _ _ _ _ hk), hn⟩, fun k hk => by have := hS k hk; omega, h1, ?_⟩
  have hA : Below W3.heap.size W3 (w2.alloc o).drew := (hB2.alloc h1 o).drew
  exact Below.putRow (hA.trans (hB5.mono (by omega))) h1 _

theorem setCells12 {w : World} {g : Nat} {t : TypeId} {o0 o1 o2 o3 o4 o5 o6 o7 o8 o9 o10 o11 : Value} (hg : w.heap[g]? = some (.cells #[o0, o1, o2, o3, o4, o5, o6, o7, o8, o9, o10, o11] t (0, 0))) (a0 a1 a2 a3 a4 a5 a6 a7 a8 a9 a10 a11 : Value) :
    ((((((((((((w.setCell ⟨g, 0, none⟩ a0).setCell ⟨g, 1, none⟩ a1).setCell ⟨g, 2, none⟩ a2).setCell ⟨g, 3, none⟩ a3).setCell ⟨g, 4, none⟩ a4).setCell ⟨g, 5, none⟩ a5).setCell ⟨g, 6, none⟩ a6).setCell ⟨g, 7, none⟩ a7).setCell ⟨g, 8, none⟩ a8).setCell ⟨g, 9, none⟩ a9).setCell ⟨g, 10, none⟩ a10).setCell ⟨g, 11, none⟩ a11) =
      w.setRow g #[a0, a1, a2, a3, a4, a5, a6, a7, a8, a9, a10, a11] := by
  have step : ∀ (cs : Array Value) (W : World) (i : Nat) (v : Value), W = w.setRow g cs → W.setCell ⟨g, i, none⟩ v = w.setRow g (cs.setIfInBounds i v) := fun cs W i v h => by
    subst h
    rw [setCell_eq_setRow _ g i cs t (0, 0) v (setRow_heap w g _ cs t _ hg), setRow_setRow]
  have h0 := step _ w 0 a0 (setRow_self w g _ t _ hg).symm
  have h1 := step _ _ 1 a1 h0
  have h2 := step _ _ 2 a2 h1
  have h3 := step _ _ 3 a3 h2
  have h4 := step _ _ 4 a4 h3
  have h5 := step _ _ 5 a5 h4
  have h6 := step _ _ 6 a6 h5
  have h7 := step _ _ 7 a7 h6
  have h8 := step _ _ 8 a8 h7
  have h9 := step _ _ 9 a9 h8
  have h10 := step _ _ 10 a10 h9
  have h11 := step _ _ 11 a11 h10
  rw [h11]
  simp only [List.setIfInBounds_toArray, List.set_cons_zero, List.set_cons_succ]

theorem SetAt.kept {w0 w w' : World} {g h : Nat} {n : Nd} (s : SetAt w0 g h n w) (hb : Below w.heap.size w w') : SetAt w0 g h n w' := by
  obtain ⟨S, t, hS, hg, hB⟩ := s
  exact ⟨S, t.kept hb, hS, hg, hB.trans (hb.mono hB.size)⟩

theorem SetAt.below {w0 w : World} {g h : Nat} {n : Nd} (s : SetAt w0 g h n w) : Below w0.heap.size w0 w := by
  obtain ⟨S, t, hS, hg, hB⟩ := s
  exact hB

theorem SetAt.cell0 {w0 w : World} {g h : Nat} {n : Nd} (s : SetAt w0 g h n w) : w.cell? ⟨g, 0, none⟩ = some (.int .i64 h) := by
  obtain ⟨S, t, hS, hg, hB⟩ := s
  exact t.cell0

theorem SetAt.frozen {w0 w : World} {g h : Nat} {n : Nd} (s : SetAt w0 g h n w) (j : Nat) : w.frozen? ⟨g, j, none⟩ = false := by
  obtain ⟨S, t, hS, hg, hB⟩ := s
  exact t.node.frozen j

theorem SetAt.lt {w0 w : World} {g h : Nat} {n : Nd} (s : SetAt w0 g h n w) : g < w.heap.size := by
  obtain ⟨S, t, hS, hg, hB⟩ := s
  exact t.node.lt

theorem SetAt.setH {w0 w : World} {g h : Nat} {n : Nd} (s : SetAt w0 g h n w) (h' : Nat) : SetAt w0 g h' n (w.setCell ⟨g, 0, none⟩ (.int .i64 h')) := by
  obtain ⟨S, t, hS, hg, hB⟩ := s
  refine ⟨S, t.setH h', hS, hg, ?_⟩
  exact hB.trans ⟨rfl, rfl, rfl, by simp [World.setCell], fun k hk => Below.heap_setCell _ _ _ _ (by show k ≠ g; omega)⟩

theorem TreeAt.isR {w : World} {g h : Nat} {n : Nd} {S : Nat → Prop} (t : TreeAt w g h n S) (hh : h ≤ 10) : ∃ cs, w.heap[g]? = some (.cells cs 28 (0, 0)) ∧ cs.size = 12 ∧ cs.all (·.oneCell') = true ∧ (∀ B, (∀ k, S k → B ≤ k) → ∀ k, k ≠ g → ¬ S k → ∀ c', OwnR (w.setRow k c') B ⟨h, n⟩ cs) := by
  obtain ⟨c, hg, ho, hn⟩ := t
  have hsz := ho.size
  refine ⟨_, hg, by simp; omega, ?_, ?_⟩
  · have := ho.isN.one
    rw [Array.all_append, this]
    simp [Value.oneCell']
  · intro B hB k hk hS c'
    exact ⟨(show inI64 (h : Int) from ⟨by omega, by omega⟩), c, S, rfl, ho.other (g := k) hS (fun j hj => setRow_other w k j c' hj), hB⟩

/-- The tree is given back: copied into a variable that was there. -/
theorem SetAt.fin {w0 w : World} {g h b : Nat} {n : Nd} (s : SetAt w0 g h n w) (hh : h ≤ 10) (hb : b < w0.heap.size) :
    ∃ cs, w.heap[g]? = some (.cells cs 28 (0, 0)) ∧ cs.size = 12 ∧ cs.all (·.oneCell') = true ∧ OwnR (w.setRow b cs) w0.heap.size ⟨h, n⟩ cs := by
  obtain ⟨S, t, hS, hg, hB⟩ := s
  obtain ⟨cs, h1, h2, h3, h4⟩ := t.isR hh
  exact ⟨cs, h1, h2, h3, h4 _ hS b (by omega) (fun hk => by have := hS b hk; omega) cs⟩

/-- One level more: the node above the root is made, takes the root in, and becomes the root. -/
theorem SetAt.up {w0 w : World} {g h : Nat} {n : Nd} (s : SetAt w0 g h n w) :
    ∃ c S2, c.size = 11 ∧ RowAt (upW w) g 1 c ∧ c.all (·.oneCell') = true ∧ (upW w).there w.heap.size 0 c.size ∧
      NodeAt ((upW w).setCells w.heap.size 0 c.toList) (w.heap.size + 1) 0 26 (upNd0 n) S2 ∧
      ∀ w3 n', Turned (w.heap.size + 1) 0 (fun _ => False) ((upW w).setCells w.heap.size 0 c.toList) w3 → NodeAt w3 (w.heap.size + 1) 0 26 n' S2 →
        ∃ c', c'.size = 11 ∧ RowAt w3 (w.heap.size + 1) 0 c' ∧ c'.all (·.oneCell') = true ∧ w3.there g 1 c'.size ∧ SetAt w0 g h n' (w3.setCells g 1 c'.toList) := by
  obtain ⟨S, t, hS, hg, hB⟩ := s
  have ht := t
  obtain ⟨c, hgc, ho, hn⟩ := t
  obtain ⟨h1, h2, h3⟩ := up_make ho
  have hglt := ht.node.lt
  have hr : RowAt (upW w) g 1 c := by
    intro q hq
    rw [cell_of_row _ _ _ _ 28 (0, 0) (((upW_old w).block g hglt).trans hgc), Array.getElem?_append_right (by simp)]
    simp [Nat.add_comm 1 q, hq]
  refine ⟨c, _, ho.size, hr, ho.isN.one, h1, h2, ?_⟩
  intro w3 n' hT hN
  have hB3 : Below w.heap.size w w3 := by
    refine h3.trans ?_
    exact ⟨hT.os, hT.tape, hT.output, hT.size, fun k hk => hT.block k (Nat.lt_of_lt_of_le hk h3.size) (by omega) (fun h => h)⟩
  obtain ⟨c', q1, q2, q3, q4, q5, q6⟩ := grow_end ht hB3 hN (fun k hk => by
    rcases hk with hk | hk
    · exact .inr (by omega)
    · exact .inl hk)
  refine ⟨c', q1, q2, q3, q4, _, q5, ?_, hg, q6.below hB hg hB.size⟩
  intro k hk
  have := hB.size
  rcases hk with hk | hk
  · omega
  · exact hS k hk

theorem SetAt.update {w0 W : World} {g l : Nat} {n : Nd} {fid : Nat} {capt : Array Value} {K : Nat → Prop} {C : World → Prop} {chg : Nd → Nat → Nd} (hchg : Changes fid capt K C chg) (hC : ∀ W W', (∀ k, K k → W'.heap[k]? = W.heap[k]?) → C W → C W') (hf : fid = 75 ∨ fid = 107)
    (hC0 : C w0) (hK : ∀ k, K k → k < w0.heap.size) (i : Nat) (hi : i ≤ 1073741824) (hl : l ≤ 9) (s : SetAt w0 g (l + 1) n W) (hfit : n.fit l) :
    Calls Try.prog 74 #[.pointer (some ⟨g, 1, none⟩), .int .i64 ((l : Int) + 1), .int .i64 i, .func (.func fid) #[] capt] W fun e W' => e = .returned (.tuple #[]) ∧ SetAt w0 g (l + 1) (n.upd chg l i) W' := by
  obtain ⟨S, t, hS, hg, hB⟩ := s
  have hsz := hB.size
  refine (update_spec hchg hC hf i hi l hl W g 1 28 n S (hC w0 W (fun k hk => hB.block k (hK k hk)) hC0) (fun h => by have := hK g h; omega) (fun k hk hk2 => by have := hK k hk; have := hS k hk2; omega) (fun k hk => by have := hK k hk; omega) hfit t.node).mono ?_
  rintro e W' ⟨rfl, hT, S', hN, hS'⟩
  refine ⟨rfl, S', t.turned hT hN, fun k hk => ?_, hg, ?_⟩
  · rcases hS' k hk with q | q
    · exact hS k q
    · omega
  · exact hB.trans ⟨hT.os, hT.tape, hT.output, hT.size, fun k hk => hT.block k (by omega) (by omega) (fun h => by have := hS k h; omega)⟩

theorem SetAt.shrink {w0 W : World} {g h : Nat} {n : Nd} (s : SetAt w0 g h n W) (hlow : n.emp = false → n.low h) (hh : h ≤ 10) :
    Calls Try.prog 76 #[.pointer (some ⟨g, 0, none⟩)] W fun e W' => e = .returned (.tuple #[]) ∧ SetAt w0 g (shrinkM h n).1 (shrinkM h n).2 W' := by
  obtain ⟨S, t, hS, hg, hB⟩ := s
  have hsz := hB.size
  refine (shrink_spec t hlow hh).mono ?_
  rintro e W' ⟨rfl, h1, h2, h3, h4, h5, S', ht, hS'⟩
  refine ⟨rfl, S', ht, fun k hk => ?_, hg, ?_⟩
  · rcases hS' k hk with q | q
    · exact hS k q
    · omega
  · exact hB.trans ⟨h1, h2, h3, h4, fun k hk => h5 k (by omega) (by omega)⟩

theorem shrink_le (h : Nat) : ∀ n : Nd, (shrinkL h n).1 ≤ h := by
  match h with
  | 0 => intro n; exact Nat.le_refl _
  | 1 => intro n; exact Nat.le_refl _
  | h + 2 =>
    intro n
    unfold shrinkL
    split
    · exact Nat.le_trans (shrink_le (h + 1) _) (by omega)
    · exact Nat.le_refl _
theorem shrinkM_le (h : Nat) (n : Nd) : (shrinkM h n).1 ≤ h := by
  unfold shrinkM
  split
  · exact Nat.zero_le _
  · exact shrink_le h n
end Go.Proofs.Ytmdmbnpgdkmklaa
