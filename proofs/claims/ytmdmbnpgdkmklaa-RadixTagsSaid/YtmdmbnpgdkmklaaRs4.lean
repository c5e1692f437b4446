/- The reference's Entries: the entries of a valid tree in ascending order, none of an invalid one. -/
import Derived.Test.YtmdmbnpgdkmklaaRs3
namespace Go.Proofs.Ytmdmbnpgdkmklaa
open Go.RowKit
set_option linter.unusedVariables false
set_option linter.unusedSimpArgs false

theorem entries_spec (l : Nat) : l ≤ 9 → ∀ (W : World) (n : Nd) (c : Array Value), IsN W n c → n.ok (l + 1) = true → ∀ (first : Nat), first + 8 ^ (l + 1) ≤ 1073741824 → Calls Try.prog 101 #[.agg c, .int .i64 ((l : Int) + 1), .int .i64 first] W (Listed W (n.ents l first)) := by
  induction l with
  | zero => intro _ W n c h _ first hf; exact entries_leaf h first (by simpa using hf)
  | succ l ih =>
    intro hl W n c h hok first hf
    have := entries_inner l (by omega) (ih (by omega)) h hok first hf
    rw [show (((l + 1 : Nat) : Int) + 1) = (l : Int) + 2 by omega]
    exact this

/-- All entries of a tree; none if it is not valid. -/
def Rx.all (r : Rx) : List En := if r.check ≠ 0 ∨ r.h = 0 then [] else r.root.ents (r.h.toNat - 1) 0

set_option maxRecDepth 100000 in
set_option maxHeartbeats 4000000 in
theorem Entries_spec {w : World} {r : Rx} {c : Array Value} (h : IsR w r c) : Calls Try.prog 78 #[.agg c] w (Listed w r.all) := by
  obtain ⟨post, hpost⟩ : ∃ post, post = Listed w r.all := ⟨_, rfl⟩
  have HP : Hid (∀ e W', Listed w r.all e W' → post e W') := Lib.hid (by rw [hpost]; exact fun e W' a => a)
  rw [← hpost]
  have hrc := fun (W : World) (k : Keeps w W) => RCheck_spec (h.keeps k)
  obtain ⟨ck, hck⟩ : ∃ ck, ck = r.check := ⟨_, rfl⟩
  rw [← hck] at hrc
  have hcz := fun q : ck = 0 => check_zero (hck ▸ q)
  have hall : r.all = if ck ≠ 0 ∨ r.h = 0 then [] else r.root.ents (r.h.toNat - 1) 0 := by rw [hck]; rfl
  obtain ⟨hh, nc, rfl, hn0⟩ := h
  obtain ⟨x0, x1, x2, x3, x4, x5, x6, x7, xp, xl, xc, rfl⟩ := hn0.lit
  simp only [List.append_toArray, List.cons_append, List.nil_append] at hrc ⊢
  have hen := fun (W : World) (k : Keeps w W) (l : Nat) (hl : l ≤ 9) (hok : r.root.ok (l + 1) = true) (hf : 0 + 8 ^ (l + 1) ≤ 1073741824) => entries_spec l hl W _ _ (hn0.keeps k) hok 0 hf
  have Hrc := Lib.hid hrc
  have Hen := Lib.hid hen
  have Hall := Lib.hid hall
  have Hcz := Lib.hid hcz
  clear hrc hen hall hcz hck hn0 hh hpost
  have hg := heap_alloc_new w (.cells #[.int .i64 r.h, .int .i64 x0, .int .i64 x1, .int .i64 x2, .int .i64 x3, .int .i64 x4, .int .i64 x5, .int .i64 x6, .int .i64 x7, .int .i64 r.root.t0, .int .i64 r.root.t1, .slice xp xl xc] 28)
  have Hg := Lib.hid hg
  clear hg
  go_enter Try.func78, Try.ntmps78
  go_wp2_with fail
  (with_reducible refine (Hrc.out _ (Keeps.alloc _ _)).mono ?_)
  rintro e w2 ⟨rfl, hB2⟩
  have hbb : Below w.heap.size w w2 := ((Below.refl w.heap.size w).alloc (Nat.le_refl _) _).trans (hB2.mono (by simp))
  have hg2 := (hB2.block w.heap.size (by simp)).trans Hg.out
  have Hkw := Lib.hid (Keeps.of_below hbb)
  have Hbb := Lib.hid hbb
  have hca := fun q => cell_of_row w2 w.heap.size q _ _ _ hg2
  have hd0 : w2.cell? ⟨w.heap.size, 0, none⟩ = some (.int .i64 r.h) := hca 0
  have hd1 : w2.cell? ⟨w.heap.size, 1, none⟩ = some (.int .i64 x0) := hca 1
  have hd2 : w2.cell? ⟨w.heap.size, 2, none⟩ = some (.int .i64 x1) := hca 2
  have hd3 : w2.cell? ⟨w.heap.size, 3, none⟩ = some (.int .i64 x2) := hca 3
  have hd4 : w2.cell? ⟨w.heap.size, 4, none⟩ = some (.int .i64 x3) := hca 4
  have hd5 : w2.cell? ⟨w.heap.size, 5, none⟩ = some (.int .i64 x4) := hca 5
  have hd6 : w2.cell? ⟨w.heap.size, 6, none⟩ = some (.int .i64 x5) := hca 6
  have hd7 : w2.cell? ⟨w.heap.size, 7, none⟩ = some (.int .i64 x6) := hca 7
  have hd8 : w2.cell? ⟨w.heap.size, 8, none⟩ = some (.int .i64 x7) := hca 8
  have hd9 : w2.cell? ⟨w.heap.size, 9, none⟩ = some (.int .i64 r.root.t0) := hca 9
  have hd10 : w2.cell? ⟨w.heap.size, 10, none⟩ = some (.int .i64 r.root.t1) := hca 10
  have hd11 : w2.cell? ⟨w.heap.size, 11, none⟩ = some (.slice xp xl xc) := hca 11
  clear hca hg2 hbb hB2
  by_cases h0 : ck = 0
  · by_cases hz : r.h = 0
    · have hnil : r.all = [] := by rw [Hall.out, if_pos (.inr hz)]
      have Hfin := Lib.hid (HP.out (.returned (.slice none 0 0)) w2 ⟨_, rfl, by rw [hnil]; exact World.ownsRow_nil _ _ _ _, Hbb.out⟩)
      have hz' : (r.h == 0) = true := by simpa using hz
      subst h0
      clear hnil
      go_wp2_with fail
      exact Hfin.out
    · obtain ⟨a1, a2, a3, a4⟩ := Hcz.out h0
      have hok := a4 (by omega)
      have hz' : (r.h == 0) = false := by simpa using hz
      obtain ⟨l, hl⟩ : ∃ l : Nat, r.h = (l : Int) + 1 := ⟨(r.h - 1).toNat, by omega⟩
      rw [show r.h.toNat = l + 1 by omega] at hok
      have hp : 8 ^ (l + 1) ≤ 8 ^ 10 := Nat.pow_le_pow_right (by omega) (by omega)
      have hp2 : 0 + 8 ^ (l + 1) ≤ 1073741824 := by
        have h10 : (8 : Nat) ^ 10 = 1073741824 := by decide
        omega
      have hcall := Hen.out w2 Hkw.out l (by omega) hok hp2
      rw [← hl, show ((0 : Nat) : Int) = 0 from rfl] at hcall
      have hnil : r.all = r.root.ents l 0 := by rw [Hall.out, if_neg (by rintro (q | q); exact q h0; exact hz q), show r.h.toNat - 1 = l by omega]
      have Hnil := Lib.hid hnil
      have Hcall := Lib.hid hcall
      subst h0
      clear hok hcall hnil hp hl a1 a2 a3 a4
      go_wp2_with fail
      (with_reducible refine Hcall.out.mono ?_)
      rintro e w3 ⟨v, rfl, hv, hB3⟩
      have Hfin := Lib.hid (HP.out (.returned v) w3 ⟨v, rfl, by rw [Hnil.out]; exact ownsRow_mono hv Hbb.out.size, Hbb.out.trans (hB3.mono Hbb.out.size)⟩)
      clear hv hB3
      go_wp2_with fail
      exact Hfin.out
  · have h0' : (ck == 0) = false := by simpa using h0
    have hnil : r.all = [] := by rw [Hall.out, if_pos (.inl h0)]
    have Hfin := Lib.hid (HP.out (.returned (.slice none 0 0)) w2 ⟨_, rfl, by rw [hnil]; exact World.ownsRow_nil _ _ _ _, Hbb.out⟩)
    clear hnil
    go_wp2_with fail
    exact Hfin.out
end Go.Proofs.Ytmdmbnpgdkmklaa
