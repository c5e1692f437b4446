/- radix.List: the indices of all entries, in ascending order. -/
import Derived.Test.YtmdmbnpgdkmklaaSh
import Derived.Test.YtmdmbnpgdkmklaaRs10
namespace Go.Proofs.Ytmdmbnpgdkmklaa
open Go.RowKit
set_option linter.unusedVariables false
set_option linter.unusedSimpArgs false

def natCells (s : List Nat) : List Value := s.map fun (i : Nat) => Value.int .i64 (i : Int)

/-- The list so far lies in the cell at bv, its row behind base. -/
def ListJ (bv base : Nat) (s : List Nat) (W : World) : Prop :=
  ∃ v, W.cell? ⟨bv, 0, none⟩ = some v ∧ W.frozen? ⟨bv, 0, none⟩ = false ∧ bv < base ∧ W.ownsRow base 3 1 v s.length (natCells s) ∧ base ≤ W.heap.size

theorem listJ_stays (bv base : Nat) : Stays (ListJ bv base) := fun s W W' ⟨v, a, b, c, d, e⟩ h =>
  ⟨v, (Keeps.of_below h) _ _ a, frozen_below h (lt_of_cell a) b, c, ownsRow_below d h, Nat.le_trans e h.size⟩

theorem rowOf_own {W : World} {bv base k : Nat} {v : Value} {n : Nat} {xs : List Value} (hc : W.cell? ⟨bv, 0, none⟩ = some v) (ho : W.ownsRow base 3 1 v n xs) : rowOf W bv k ↔ v.ownBlock = some k := by
  unfold rowOf
  rw [hc]
  rcases ho.2 with ⟨rfl, _⟩ | ⟨g, cap, cur, rfl, _⟩
  · constructor
    · rintro ⟨n, cap, q⟩; cases q
    · intro q; cases q
  · constructor
    · rintro ⟨n, cap, q⟩
      simp only [Option.some.injEq, Value.slice.injEq, Addr.mk.injEq] at q
      show some g = some k
      rw [q.1.1]
    · intro q
      have : g = k := Option.some.inj q
      subst this
      exact ⟨_, _, rfl⟩

theorem listJ_inb (w0 : World) (bv base : Nat) (h : w0.heap.size ≤ base) : Inb w0 bv (ListJ bv base) := fun s W ⟨v, a, b, c, d, e⟩ k q => by
  have := d.lt k ((rowOf_own a d).1 q)
  exact ⟨by omega, this.2⟩

theorem own_one {W : World} {base : Nat} {v : Value} {n : Nat} {xs : List Value} (ho : W.ownsRow base 3 1 v n xs) : v.oneCell' = true := by
  rcases ho.2 with ⟨rfl, _⟩ | ⟨_, _, _, rfl, _⟩ <;> rfl

set_option maxRecDepth 100000 in
set_option maxHeartbeats 2000000 in
theorem list1_spec (w0 : World) (bv base : Nat) (hb0 : w0.heap.size ≤ base) :
    YieldsI w0 bv 90 #[.pointer (some ⟨bv, 0, none⟩)] (ListJ bv base) (fun s _ => s.length < 1073741824) (fun s i => (true, s ++ [i])) := by
  intro s W i hi hpre ⟨v, hc, hf, hbb, hown, hbs⟩ hW hb
  show Calls Try.prog 90 #[.int .i64 i, .pointer (some ⟨bv, 0, none⟩)] W _
  obtain ⟨post, hpost⟩ : ∃ post : Ending → World → Prop, post = fun e W' => e = .returned (.bool true) ∧ ListJ bv base (s ++ [i]) W' ∧ Mo bv W W' := ⟨_, rfl⟩
  have HP : Hid (∀ W', ListJ bv base (s ++ [i]) W' → Mo bv W W' → post (.returned (.bool true)) W') := Lib.hid (by rw [hpost]; exact fun W' a b => ⟨rfl, a, b⟩)
  show Calls Try.prog 90 #[.int .i64 i, .pointer (some ⟨bv, 0, none⟩)] W fun e W' => e = .returned (.bool true) ∧ ListJ bv base (s ++ [i]) W' ∧ Mo bv W W'
  rw [← hpost]
  obtain ⟨i0, hi0, hz0, hzs, hzb⟩ := info_parts info3
  have hone := own_one hown
  have HoA := Lib.hid (hown.alloc (.cells #[.int .i64 (i : Int)] 3))
  have Hown := Lib.hid hown
  have Hm := Lib.hid (show s.length + 1 ≤ maxLen by unfold maxLen; omega)
  have Hm2 := Lib.hid (show (s.length + 1) * 8 ≤ 140737488355328 by omega)
  have Hz2 := Lib.hid (show base ≤ (W.alloc (.cells #[.int .i64 (i : Int)] 3)).heap.size by simp; omega)
  have Hsz := Lib.hid (sizeA' W (.cells #[.int .i64 (i : Int)] 3))
  have hne : (some bv : Option Nat) ≠ v.ownBlock := fun e => by have := (hown.lt bv e.symm).1; omega
  have Hne := Lib.hid hne
  have Hc := Lib.hid hc
  have Hf := Lib.hid hf
  have Hbb := Lib.hid hbb
  have Hbs := Lib.hid hbs
  have Hfar : Hid (∀ w' : World, (W.alloc (.cells #[.int .i64 (i : Int)] 3)).grownBy w' v.ownBlock → w'.cell? ⟨bv, 0, none⟩ = some v ∧ w'.frozen? ⟨bv, 0, none⟩ = false) := Lib.hid (fun w' hg => by
    refine ⟨?_, ?_⟩
    · rw [hg.cell_far _ (by simp; omega) hne]; exact (Keeps.alloc _ _) _ _ hc
    · rw [hg.frozen_far _ (by simp; omega) hne]; exact frozen_below ((Below.refl _ _).alloc (Nat.le_refl _) _) hb hf)
  clear hown hpre hne hf hbb hbs hpost hW hi
  go_enter Try.func90, Try.ntmps90
  go_wp2_with (first
    | (refine wpList_append_lies _ (by rfl) (.tmp 4) (.tmp 6) 52 (by rfl) base 3 i0 _ 1 8 Try.underlying52 hi0 hz0 hzs hzb (by rfl) (by omega) v _ _ (by rfl) (by with_reducible exact HoA.out)
        ⟨W.heap.size, 0, none⟩ 1 1 [.int .i64 (i : Int)] (by rfl) (by rfl) (World.news_of_block (heap_alloc_new W _)) (by simp [Value.oneCell']) (by omega) (by with_reducible exact Hm.out) (by with_reducible exact Hm2.out) (by with_reducible exact Hz2.out) (W.heap.size + 1) (by with_reducible exact Hsz.out) ?_
       intro g' cap' w' hown' hgrow hat hlt'
       obtain ⟨hc2, hf2⟩ := Hfar.out w' hgrow
       have hfin : post (.returned (.bool true)) (w'.setCell ⟨bv, 0, none⟩ (.slice (some ⟨g', 0, none⟩) (s.length + 1) cap')) := by
         have hoth : ∀ k, k ≠ bv → (w'.setCell ⟨bv, 0, none⟩ (.slice (some ⟨g', 0, none⟩) (s.length + 1) cap')).heap[k]? = w'.heap[k]? := fun k hk => Below.heap_setCell _ _ _ _ hk
         have hsame : (w'.setCell ⟨bv, 0, none⟩ (.slice (some ⟨g', 0, none⟩) (s.length + 1) cap')).cell? ⟨bv, 0, none⟩ = some (.slice (some ⟨g', 0, none⟩) (s.length + 1) cap') := World.cell?_setCell_same' _ _ _ (by rw [hc2]; rfl)
         have hsize : W.heap.size ≤ w'.heap.size := by have := hgrow.size; simp at this; omega
         have hAB : Below W.heap.size W (W.alloc (.cells #[.int .i64 (i : Int)] 3)) := (Below.refl _ _).alloc (Nat.le_refl _) _
         refine HP.out _ ⟨_, hsame, by rw [World.frozen?_setCell]; exact hf2, Hbb.out, ?_, ?_⟩ ⟨hgrow.os, hgrow.tape, hgrow.output, by simpa [World.setCell] using hsize, fun _ k hk hne hr => ?_, fun _ k hk => ?_⟩
         · have e : natCells (s ++ [i]) = natCells s ++ [.int .i64 (i : Int)] := by unfold natCells; rw [List.map_append]; rfl
           rw [e, List.length_append]
           exact ownsRow_put hown' Hbb.out hoth
         · have := Hbs.out
           simp only [World.setCell]
           simp
           omega
         · rw [hoth k hne, hgrow.block k (by simp; omega) (fun e => hr ((rowOf_own Hc.out Hown.out).2 e.symm)), hAB.block k hk]
         · obtain ⟨n, cap, q⟩ := hk
           rw [hsame] at q
           simp only [Option.some.injEq, Value.slice.injEq, Addr.mk.injEq] at q
           obtain ⟨⟨rfl, _⟩, _⟩ := q
           rcases hat with q | q
           · exact .inl ((rowOf_own Hc.out Hown.out).2 q)
           · exact .inr (by omega)
       have Hfin := Lib.hid hfin
       clear hfin hown' hgrow hat hlt'))
  exact Hfin.out

theorem feed_list : ∀ (l : List En) (s : List Nat), feed (fun s i _ => ((true, s ++ [i]) : Bool × List Nat)) s l = (true, s ++ l.map (·.i))
  | [], s => by simp [feed]
  | e :: l, s => by
    rw [feed]
    simp only [if_true]
    rw [feed_list l]
    simp

theorem okf_list : ∀ (l : List En) (s : List Nat), s.length + l.length ≤ 1073741824 → Okf (fun (s : List Nat) _ _ => s.length < 1073741824) (fun s i _ => ((true, s ++ [i]) : Bool × List Nat)) s l
  | [], s, _ => trivial
  | e :: l, s, h => ⟨by simp at h; omega, fun _ => okf_list l _ (by simp at h ⊢; omega)⟩

set_option maxRecDepth 100000 in
set_option maxHeartbeats 4000000 in
theorem List_spec {w : World} {r : Rx} {c : Array Value} (h : IsR w r c) :
    Calls Try.prog 43 #[.agg c] w fun e w' => ∃ v, e = .returned v ∧ w'.ownsRow w.heap.size 3 1 v r.all.length (ixCells r.all) ∧ Below w.heap.size w w' := by
  obtain ⟨post, hpost⟩ : ∃ post : Ending → World → Prop, post = fun e w' => ∃ v, e = .returned v ∧ w'.ownsRow w.heap.size 3 1 v r.all.length (ixCells r.all) ∧ Below w.heap.size w w' := ⟨_, rfl⟩
  have HP : Hid (∀ v w', w'.ownsRow w.heap.size 3 1 v r.all.length (ixCells r.all) → Below w.heap.size w w' → post (.returned v) w') := Lib.hid (by rw [hpost]; exact fun v w' a b => ⟨v, rfl, a, b⟩)
  rw [← hpost]
  have hR := h
  have hlen := entsT_length r (-1)
  rw [all_entsT] at HP
  obtain ⟨hh, nc, rfl, hn⟩ := h
  obtain ⟨x0, x1, x2, x3, x4, x5, x6, x7, xp, xl, xc, rfl⟩ := hn.lit
  simp only [List.append_toArray, List.cons_append, List.nil_append] at hR ⊢
  obtain ⟨H, root⟩ := r
  simp only at hR ⊢
  obtain ⟨l, hl⟩ : ∃ l, l = (⟨H, root⟩ : Rx).entsT (-1) := ⟨_, rfl⟩
  rw [← hl] at HP hlen
  have Hl := Lib.hid hl
  have HR := Lib.hid hR
  have Hlen := Lib.hid hlen
  clear hR hn hh hl hlen hpost
  go_enter Try.func43, Try.ntmps43
  go_wp2_with fail
  have hbig : Below w.heap.size w ((w.alloc (.cells #[.int .i64 H, .int .i64 x0, .int .i64 x1, .int .i64 x2, .int .i64 x3, .int .i64 x4, .int .i64 x5, .int .i64 x6, .int .i64 x7, .int .i64 root.t0, .int .i64 root.t1, .slice xp xl xc] 28)).alloc (.cells #[.slice none 0 0] 52)) :=
    ((Below.refl w.heap.size w).alloc (Nat.le_refl _) _).alloc (by simp) _
  have h1 := (heap_alloc2_new w (.cells #[.int .i64 H, .int .i64 x0, .int .i64 x1, .int .i64 x2, .int .i64 x3, .int .i64 x4, .int .i64 x5, .int .i64 x6, .int .i64 x7, .int .i64 root.t0, .int .i64 root.t1, .slice xp xl xc] 28) (.cells #[.slice none 0 0] 52))
  have hj : ListJ (w.heap.size + 1) (w.heap.size + 2) [] ((w.alloc (.cells #[.int .i64 H, .int .i64 x0, .int .i64 x1, .int .i64 x2, .int .i64 x3, .int .i64 x4, .int .i64 x5, .int .i64 x6, .int .i64 x7, .int .i64 root.t0, .int .i64 root.t1, .slice xp xl xc] 28)).alloc (.cells #[.slice none 0 0] 52)) :=
    ⟨.slice none 0 0, by rw [cell_of_row _ _ _ _ _ _ h1]; rfl, frozen_of_row _ _ _ _ _ h1, by omega, World.ownsRow_nil _ _ _ _, by simp⟩
  have hcall := each_spec (w0 := w) (bv := w.heap.size + 1) (list1_spec w (w.heap.size + 1) (w.heap.size + 2) (by omega)) (listJ_stays _ _) (listJ_inb w _ _ (by omega)) (by omega) (.inr (.inr rfl)) HR.out (-1) (by unfold inI64; omega) [] _ (okf_list _ _ (by rw [← Hl.out]; have := Hlen.out; simp; omega)) hj hbig (by simp)
  (with_reducible refine hcall.mono ?_)
  clear hcall h1
  rintro e w4 ⟨rfl, hJ4, hM4⟩
  rw [← Hl.out, feed_list, List.nil_append] at hJ4
  obtain ⟨v, hc4, _, _, hown, _⟩ := hJ4
  have hend := hM4.below hbig (by omega) (by simp; omega) (by simp) (fun k q => by have := (listJ_inb w _ _ (by omega) _ _ hj k q).1; exact this)
  have hone := own_one hown
  have hfin : post (.returned v) w4 := HP.out v w4 (by
    have := ownsRow_mono hown (show w.heap.size ≤ w.heap.size + 2 by omega)
    rw [List.length_map] at this
    have e : natCells (l.map (·.i)) = ixCells l := by unfold natCells ixCells; rw [List.map_map]; rfl
    rw [e] at this
    exact this) hend
  have Hfin := Lib.hid hfin
  clear hM4 hbig hj hend hown hfin
  go_wp2_with fail
  exact Hfin.out
end Go.Proofs.Ytmdmbnpgdkmklaa
