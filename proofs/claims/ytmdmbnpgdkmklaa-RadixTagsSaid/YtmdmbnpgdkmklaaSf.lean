/- Set on plain trees; its errors; a tree of the call's own behind the blocks that came in. -/
import Derived.Test.YtmdmbnpgdkmklaaSe
import Derived.Test.YtmdmbnpgdkmklaaRh3
import Derived.Test.YtmdmbnpgdkmklaaRf1
import Derived.Test.YtmdmbnpgdkmklaaRj2
import Derived.Deep.CutRange
import Derived.Deep.RegionWith
namespace Go.Proofs.Ytmdmbnpgdkmklaa
open Go.RowKit
set_option linter.unusedVariables false
set_option linter.unusedSimpArgs false

/-- Levels are added above the root until the index fits. -/
def growL : Nat → Bool → Nat → Nd → Nat → Nat × Nd
  | 0, _, h, n, _ => (h, n)
  | f + 1, bl, h, n, i => if h = 0 ∨ 0 < i / 8 ^ h then growL f bl (h + 1) (if bl = true then n else upNd n) i else (h, n)

/-- The tree behind a change of the entry i. -/
def setM (h : Nat) (n : Nd) (i : Nat) (v : Int) : Nat × Nd :=
  let g := growL 11 (h == 0) h n i
  shrinkM g.1 (g.2.upd (setChg v) (g.1 - 1) i)

def Rx.set (r : Rx) (i v : Int) : Rx × Int :=
  if r.check ≠ 0 then (Rx.empty, r.check) else if i < 0 ∨ 1073741824 ≤ i then (Rx.empty, 2)
  else if v = 0 ∧ r.get i = 0 then (r, 0) else (⟨((setM r.h.toNat r.root i.toNat v).1 : Int), (setM r.h.toNat r.root i.toNat v).2⟩, 0)

/-- Every node has eight values. -/
inductive Wf : Nd → Prop where
  | mk (v : List Int) (t0 t1 : Int) (ks : List Nd) (hv : v.length = 8) (hk : ∀ i (h : i < ks.length), Wf ks[i]) : Wf (.mk v t0 t1 ks)

theorem IsN.wf {w : World} {n : Nd} {c : Array Value} (h : IsN w n c) : Wf n := by
  induction h with
  | mk v t0 t1 ks a b o cap f hv hvb h0 h1 ha hl hcp hf hk ih => exact .mk v t0 t1 ks hv ih

theorem Wf.vs {n : Nd} (h : Wf n) : n.vs.length = 8 := by cases h; assumption
theorem Wf.kids {n : Nd} (h : Wf n) : ∀ k ∈ n.ks, Wf k := by
  cases h with
  | mk v t0 t1 ks hv hk =>
    intro k hm
    obtain ⟨i, hi, rfl⟩ := List.mem_iff_getElem.1 hm
    exact hk i hi

/-- Inner nodes have no values, and no children or eight of them. -/
def Nd.nice : Nat → Nd → Prop
  | 0, _ => True
  | l + 1, n => n.vs.all (· == 0) = true ∧ (n.ks = [] ∨ (n.ks.length = 8 ∧ ∀ k ∈ n.ks, Nd.nice l k))

theorem nice_zero : ∀ l, Nd.zero.nice l
  | 0 => trivial
  | l + 1 => ⟨rfl, .inl rfl⟩

theorem nice_fit (l : Nat) : ∀ n : Nd, n.nice l → n.fit l := by
  induction l with
  | zero => intro n _; trivial
  | succ l ih =>
    intro n h
    rcases h.2 with h | ⟨h, hk⟩
    · exact .inl h
    · exact .inr ⟨h, fun k hm => ih k (hk k hm)⟩

theorem nice_absent {n : Nd} (h : n.absent = true) : ∀ l, n.nice l := by
  intro l
  cases l with
  | zero => trivial
  | succ l =>
    simp only [Nd.absent, Bool.and_eq_true, List.isEmpty_iff] at h
    exact ⟨h.2, .inl h.1.1⟩

theorem nice_ok (l : Nat) : ∀ n : Nd, Wf n → n.ok (l + 1) = true → n.nice l := by
  induction l with
  | zero => intro n _ _; trivial
  | succ l ih =>
    intro n hw h
    have h8 := ok_len h
    have hg : ∀ i, i < 8 → kidGood (Nd.ok (l + 1)) n i = true := by
      have := h
      simp only [Nd.ok, Bool.and_eq_true, List.all_eq_true] at this
      intro i hi
      exact this.1.1.1.2 i (by simpa using hi)
    refine ⟨?_, .inr ⟨h8, ?_⟩⟩
    · apply all_true
      intro j hj
      rw [hw.vs] at hj
      have := hg j hj
      simp only [kidGood, Bool.and_eq_true, beq_iff_eq] at this
      exact this.1.1.1
    · intro k hm
      obtain ⟨i, hi, rfl⟩ := List.mem_iff_getElem.1 hm
      have hk : n.kid i = n.ks[i] := by simp [Nd.kid, hi]
      rcases ok_kid h (show i < 8 by omega) with h2 | h2
      · rw [hk] at h2; exact nice_absent h2 l
      · rw [hk] at h2; exact ih _ (hw.kids _ hm) h2

theorem nice_up {l : Nat} {n : Nd} (h : n.nice l) : (upNd n).nice (l + 1) := by
  refine ⟨rfl, .inr ⟨by simp [upNd, Nd.ks], ?_⟩⟩
  intro k hm
  simp only [upNd, Nd.ks, List.mem_cons, List.mem_replicate] at hm
  rcases hm with rfl | ⟨_, rfl⟩
  · exact h
  · exact nice_zero l

theorem nice_upd {chg : Nd → Nat → Nd} (l : Nat) : ∀ (n : Nd) (i : Nat), n.nice l → (n.upd chg l i).nice l := by
  induction l with
  | zero => intro n i _; trivial
  | succ l ih =>
    intro n i h
    have hks : ∀ k ∈ (if n.ks = [] then List.replicate 8 Nd.zero else n.ks), k.nice l := by
      intro k hm
      by_cases e : n.ks = []
      · rw [if_pos e, List.mem_replicate] at hm
        rw [hm.2]; exact nice_zero l
      · rw [if_neg e] at hm
        rcases h.2 with h | ⟨_, h⟩
        · exact absurd h e
        · exact h k hm
    have hlen : (if n.ks = [] then List.replicate 8 Nd.zero else n.ks).length = 8 := by
      by_cases e : n.ks = []
      · rw [if_pos e]; rfl
      · rw [if_neg e]
        rcases h.2 with h | ⟨h, _⟩
        · exact absurd h e
        · exact h
    have hd := dig_lt i (l + 1)
    refine ⟨h.1, .inr ⟨by simp only [Nd.upd, Nd.ks, List.length_set]; exact hlen, ?_⟩⟩
    intro k hm
    obtain ⟨k1, hk1⟩ : ∃ k1, k1 = ((if n.ks = [] then List.replicate 8 Nd.zero else n.ks).getD (dig i (l + 1)) Nd.zero).upd chg l i := ⟨_, rfl⟩
    replace hm : k ∈ (if n.ks = [] then List.replicate 8 Nd.zero else n.ks).set (dig i (l + 1)) (if k1.emp = true then Nd.zero else k1) := by rw [hk1]; exact hm
    have hn : k1.nice l := by
      rw [hk1]
      refine ih _ i (hks _ ?_)
      rw [List.getD_eq_getElem?_getD, List.getElem?_eq_getElem (by omega), Option.getD_some]
      exact List.getElem_mem _
    rcases List.mem_or_eq_of_mem_set hm with hm | hm
    · exact hks k hm
    · by_cases e : k1.emp = true
      · rw [if_pos e] at hm; rw [hm]; exact nice_zero l
      · rw [if_neg e] at hm; rw [hm]; exact hn

theorem emp_absent {n : Nd} (h : n.absent = true) : n.emp = true := by
  obtain ⟨v, t0, t1, ks⟩ := n
  simp only [Nd.absent, Nd.ks, Nd.vs, Bool.and_eq_true, List.isEmpty_iff] at h
  obtain ⟨⟨rfl, -⟩, h⟩ := h
  simp [Nd.emp, empL, h]

theorem low_nice : ∀ (h : Nat) (n : Nd), n.nice (h - 1) → n.emp = false → n.low h
  | 0, _, _, _ => trivial
  | 1, _, _, _ => trivial
  | h + 2, n, hn, he => by
    obtain ⟨v, t0, t1, ks⟩ := n
    obtain ⟨hv, hk⟩ := hn
    simp only [Nd.ks, Nd.vs] at hv hk
    rcases hk with rfl | ⟨h8, hk⟩
    · simp [Nd.emp, empL, hv] at he
    · refine ⟨h8, fun ha => ?_⟩
      simp only [Nd.ks] at ha ⊢
      obtain ⟨k0, kr, rfl⟩ : ∃ k0 kr, ks = k0 :: kr := by
        cases ks with
        | nil => simp at h8
        | cons a b => exact ⟨a, b, rfl⟩
      simp only [List.drop_succ_cons, List.drop_zero] at ha
      have hr : kr.all Nd.emp = true := by
        rw [List.all_eq_true] at ha ⊢
        exact fun x hx => emp_absent (ha x hx)
      have h0 : k0.emp = false := by
        simp only [Nd.emp, empL, hv, empL_all, hr, Bool.true_and, Bool.and_true] at he
        exact he
      exact low_nice (h + 1) k0 (hk k0 (by simp)) h0

/-- The growth ends at a height where the index fits. -/
theorem growL_spec (i : Nat) (hi : i < 8 ^ 10) : ∀ (f h : Nat) (bl : Bool) (n : Nd), h ≤ 10 → n.nice (h - 1) → (h = 0 → n.absent = true) → (bl = true → ∀ l, n.nice l) →
    (growL f bl h n i).2.nice ((growL f bl h n i).1 - 1) ∧ (growL f bl h n i).1 ≤ 10 := by
  intro f
  induction f with
  | zero => intro h bl n hh hn _ _; exact ⟨hn, hh⟩
  | succ f ih =>
    intro h bl n hh hn h0 hb
    unfold growL
    by_cases hc : h = 0 ∨ 0 < i / 8 ^ h
    · rw [if_pos hc]
      have hlt : h < 10 := by
        rcases hc with rfl | hc
        · omega
        · rcases Nat.lt_or_ge h 10 with h1 | h1
          · exact h1
          · obtain rfl : h = 10 := by omega
            rw [Nat.div_eq_of_lt hi] at hc; omega
      cases bl with
      | true => simp only [if_true]; exact ih (h + 1) true n (by omega) (hb rfl _) (by omega) hb
      | false =>
        simp only [Bool.false_eq_true, if_false]
        refine ih (h + 1) false (upNd n) (by omega) ?_ (by omega) (by simp)
        rcases Nat.eq_zero_or_pos h with rfl | hp
        · trivial
        · have := nice_up hn
          rwa [show h - 1 + 1 = h + 1 - 1 by omega] at this
    · rw [if_neg hc]; exact ⟨hn, hh⟩
end Go.Proofs.Ytmdmbnpgdkmklaa
namespace Go.Proofs.Ytmdmbnpgdkmklaa
open Go.RowKit
set_option linter.unusedVariables false
set_option linter.unusedSimpArgs false

/-- The cells c are a tree whose nodes lie in blocks of the call's own, from block B on. -/
def OwnR (w : World) (B : Nat) (r : Rx) (c : Array Value) : Prop := inI64 r.h ∧ ∃ nc S, c = #[.int .i64 r.h] ++ nc ∧ Owns w r.root nc S ∧ ∀ k, S k → B ≤ k

theorem OwnR.isR {w : World} {B : Nat} {r : Rx} {c : Array Value} (h : OwnR w B r c) : IsR w r c := by
  obtain ⟨hh, nc, S, rfl, ho, hS⟩ := h
  exact ⟨hh, nc, rfl, ho.isN⟩
theorem OwnR.mono {w : World} {B B' : Nat} {r : Rx} {c : Array Value} (h : OwnR w B r c) (hb : B' ≤ B) : OwnR w B' r c := by
  obtain ⟨hh, nc, S, rfl, ho, hS⟩ := h
  exact ⟨hh, nc, S, rfl, ho, fun k hk => Nat.le_trans hb (hS k hk)⟩
theorem OwnR.put {w : World} {B b : Nat} {r : Rx} {c : Array Value} (h : OwnR w B r c) (hb : b < B) (c' : Array Value) : OwnR (w.setRow b c') B r c := by
  obtain ⟨hh, nc, S, rfl, ho, hS⟩ := h
  exact ⟨hh, nc, S, rfl, ho.other (g := b) (fun h => by have := hS _ h; omega) (fun j hj => setRow_other w b j c' hj), hS⟩
theorem ownR_empty (w : World) (B : Nat) : OwnR w B Rx.empty emptyCells := ⟨by unfold inI64 Rx.empty; simp, zeroNd, _, rfl, owns_zero w, fun k hk => hk.elim⟩
theorem OwnR.size {w : World} {B : Nat} {r : Rx} {c : Array Value} (h : OwnR w B r c) : c.size = 12 := by
  obtain ⟨hh, nc, S, rfl, ho, hS⟩ := h
  have := ho.size
  simp; omega
theorem OwnR.one {w : World} {B : Nat} {r : Rx} {c : Array Value} (h : OwnR w B r c) : c.all (·.oneCell') = true := by
  obtain ⟨hh, nc, S, rfl, ho, hS⟩ := h
  rw [Array.all_append, ho.isN.one]
  simp [Value.oneCell']

/-- A call that gives back a tree and an error. -/
def RPost (w : World) (x : Rx × Int) (e : Ending) (w' : World) : Prop :=
  (∃ c', e = .returned (.tuple #[.agg c', .int .i64 x.2]) ∧ OwnR w' w.heap.size x.1 c') ∧ Below w.heap.size w w'

/-- A tree of the call's own, behind the blocks of w0. -/
def SetAt (w0 : World) (g h : Nat) (n : Nd) (w : World) : Prop :=
  ∃ S, TreeAt w g h n S ∧ (∀ k, S k → w0.heap.size ≤ k) ∧ w0.heap.size ≤ g ∧ Below w0.heap.size w0 w

theorem boxes3 (w : World) (A B C : Obj) : Below w.heap.size w (((w.alloc A).alloc B).alloc C) ∧ (((w.alloc A).alloc B).alloc C).heap.size = w.heap.size + 3 ∧
    (((w.alloc A).alloc B).alloc C).heap[w.heap.size]? = some A ∧ (((w.alloc A).alloc B).alloc C).heap[w.heap.size + 1]? = some B ∧ (((w.alloc A).alloc B).alloc C).heap[w.heap.size + 2]? = some C :=
  ⟨(((Below.refl _ _).alloc (Nat.le_refl _) _).alloc (by simp) _).alloc (by simp; omega) _, by simp, heap_alloc_old3 w A B C⟩

set_option maxRecDepth 100000 in
set_option maxHeartbeats 8000000 in
theorem Set_err {w : World} {r : Rx} {c : Array Value} {i v : Int} (h : IsR w r c) (hi : inI64 i) (hv : inI64 v) (hc : r.check ≠ 0 ∨ i < 0 ∨ 1073741824 ≤ i) :
    Calls Try.prog 24 #[.agg c, .int .i64 i, .int .i64 v] w (RPost w (Rx.empty, if r.check ≠ 0 then r.check else 2)) := by
  obtain ⟨ck, hck⟩ : ∃ ck, r.check = ck := ⟨_, rfl⟩
  have hR := h
  have hch := fun (W : World) (k : Keeps w W) => Check_spec (h.keeps k)
  rw [hck] at hch hc ⊢
  obtain ⟨hh, nc, rfl, hn0⟩ := h
  obtain ⟨x0, x1, x2, x3, x4, x5, x6, x7, xp, xl, xc, rfl⟩ := hn0.lit
  simp only [List.append_toArray, List.cons_append, List.nil_append] at hch ⊢
  have Hch := Lib.hid hch
  have Hc := Lib.hid hc
  clear hch hn0 hh hck hR hc
  unfold inI64 at hi hv
  obtain ⟨hi1, hi2⟩ := hi
  obtain ⟨hv1, hv2⟩ := hv
  have hone : emptyCells.all (·.oneCell') = true := by simp [emptyCells, Value.oneCell']
  have hsz28 : (Try.prog.info? 28).map (·.size) = some emptyCells.size := size28
  have hb3 := boxes3 w (.cells #[.int .i64 r.h, .int .i64 x0, .int .i64 x1, .int .i64 x2, .int .i64 x3, .int .i64 x4, .int .i64 x5, .int .i64 x6, .int .i64 x7, .int .i64 r.root.t0, .int .i64 r.root.t1, .slice xp xl xc] 28) (.cells #[.int .i64 v] 3) (.cells emptyCells 28)
  have Hb3 := Lib.hid hb3
  clear hb3
  by_cases h0 : ck = 0
  · subst h0
    have hor : (decide (i < 0) = true) ∨ (decide (i < 0) = false ∧ decide (1073741824 ≤ i) = true) := by
      have := Hc.out.resolve_left (fun h => h rfl)
      by_cases q : i < 0
      · exact .inl (by simpa using q)
      · exact .inr ⟨by simpa using q, by simpa using this.resolve_left q⟩
    rw [if_neg (by simp)]
    rcases hor with hx | ⟨hx, hy⟩
    · go_enter Try.func24, Try.ntmps24
      go_wp2_with fail
      (with_reducible refine (Hch.out _ ((Keeps.alloc _ _).trans ((Keeps.alloc _ _).trans (Keeps.alloc _ _)))).mono ?_)
      rintro e w2 ⟨rfl, hB2⟩
      have hg : w2.heap[w.heap.size + 2]? = some (.cells emptyCells 28 (0, 0)) := (hB2.block (w.heap.size + 2) (by simp)).trans Hb3.out.2.2.2.2
      have hbb : Below w.heap.size w w2 := Hb3.out.1.trans (hB2.mono (by simp; omega))
      have Hg := Lib.hid hg
      clear hg hB2
      go_wp2_with (first | (refine wpList_store_row (by rfl) 28 (.tmp 6) (.tmp 24) (by rfl) (w.heap.size + 2) emptyCells (by rfl) (by rfl) 28 _ (by with_reducible exact Hg.out) hsz28 (by rfl) hone ?_))
      exact bodyPost_ret (results_cell_tmp rfl _ _ (w.heap.size + 2) _ rfl (load28 (setRow_heap _ _ _ _ _ _ Hg.out) rfl)) rfl ⟨⟨_, rfl, ownR_empty _ _⟩, Below.putRow hbb (by omega) _⟩
    · go_enter Try.func24, Try.ntmps24
      go_wp2_with fail
      (with_reducible refine (Hch.out _ ((Keeps.alloc _ _).trans ((Keeps.alloc _ _).trans (Keeps.alloc _ _)))).mono ?_)
      rintro e w2 ⟨rfl, hB2⟩
      have hg : w2.heap[w.heap.size + 2]? = some (.cells emptyCells 28 (0, 0)) := (hB2.block (w.heap.size + 2) (by simp)).trans Hb3.out.2.2.2.2
      have hbb : Below w.heap.size w w2 := Hb3.out.1.trans (hB2.mono (by simp; omega))
      have Hg := Lib.hid hg
      clear hg hB2
      go_wp2_with (first | (refine wpList_store_row (by rfl) 28 (.tmp 6) (.tmp 24) (by rfl) (w.heap.size + 2) emptyCells (by rfl) (by rfl) 28 _ (by with_reducible exact Hg.out) hsz28 (by rfl) hone ?_))
      exact bodyPost_ret (results_cell_tmp rfl _ _ (w.heap.size + 2) _ rfl (load28 (setRow_heap _ _ _ _ _ _ Hg.out) rfl)) rfl ⟨⟨_, rfl, ownR_empty _ _⟩, Below.putRow hbb (by omega) _⟩
  · rw [if_pos h0]
    have h0' : (ck == 0) = false := by simpa using h0
    go_enter Try.func24, Try.ntmps24
    go_wp2_with fail
    (with_reducible refine (Hch.out _ ((Keeps.alloc _ _).trans ((Keeps.alloc _ _).trans (Keeps.alloc _ _)))).mono ?_)
    rintro e w2 ⟨rfl, hB2⟩
    have hg : w2.heap[w.heap.size + 2]? = some (.cells emptyCells 28 (0, 0)) := (hB2.block (w.heap.size + 2) (by simp)).trans Hb3.out.2.2.2.2
    have hbb : Below w.heap.size w w2 := Hb3.out.1.trans (hB2.mono (by simp; omega))
    have Hg := Lib.hid hg
    clear hg hB2
    go_wp2_with (first | (refine wpList_store_row (by rfl) 28 (.tmp 6) (.tmp 16) (by rfl) (w.heap.size + 2) emptyCells (by rfl) (by rfl) 28 _ (by with_reducible exact Hg.out) hsz28 (by rfl) hone ?_))
    exact bodyPost_ret (results_cell_tmp rfl _ _ (w.heap.size + 2) _ rfl (load28 (setRow_heap _ _ _ _ _ _ Hg.out) rfl)) rfl ⟨⟨_, rfl, ownR_empty _ _⟩, Below.putRow hbb (by omega) _⟩
end Go.Proofs.Ytmdmbnpgdkmklaa
namespace Go.Proofs.Ytmdmbnpgdkmklaa
open Go.RowKit
set_option linter.unusedVariables false
set_option linter.unusedSimpArgs false

theorem setAt_new {W3 w2 w5 : World} {n : Nd} {c : Array Value} {S : Nat → Prop} {H : Nat} (hB2 : Below W3.heap.size W3 w2) (hB5 : Below w2.drew.heap.size w2.drew w5) (hO : Owns w5 n c S) (hS : ∀ k, S k → w2.drew.heap.size ≤ k) :
    SetAt W3 w5.heap.size H n (w5.alloc (.cells (#[.int .i64 H] ++ c) 28)) := by
  have h1 := hB2.size
  have h2 : w2.heap.size ≤ w5.heap.size := hB5.size
  have hA : Below w5.heap.size w5 (w5.alloc (.cells (#[.int .i64 H] ++ c) 28)) := (Below.refl _ _).alloc (Nat.le_refl _) _
  refine ⟨S, ⟨c, heap_alloc_new _ _, hO.kept hA, fun h => ?_⟩, fun k hk => Nat.le_trans h1 (hS k hk), by omega, ?_⟩
  · have := hO.lt _ h; omega
  · exact (hB2.drew.trans (hB5.mono h1)).trans (hA.mono (by omega))

theorem setAt_put {W3 w2 w5 : World} {o : Obj} {old : Array Value} {n : Nd} {c : Array Value} {S : Nat → Prop} {H : Nat} (hB2 : Below W3.heap.size W3 w2) (hB5 : Below (w2.alloc o).drew.heap.size (w2.alloc o).drew w5) (hg : w5.heap[w2.heap.size]? = some (.cells old 28 (0, 0)))
    (hO : Owns w5 n c S) (hS : ∀ k, S k → (w2.alloc o).drew.heap.size ≤ k) :
    SetAt W3 w2.heap.size H n (w5.setRow w2.heap.size (#[.int .i64 H] ++ c)) := by
  have h1 := hB2.size
  have h2 : (w2.alloc o).heap.size ≤ w5.heap.size := hB5.size
  have h3 : (w2.alloc o).drew.heap.size = w2.heap.size + 1 := by show (w2.alloc o).heap.size = _; simp
  have hn : ¬ S w2.heap.size := fun h => by have := hS _ h; omega
  refine ⟨S, ⟨c, setRow_heap _ _ _ _ _ _ hg, hO.other hn (fun k hk => setRow_other _ _ _ _ hk), hn⟩, fun k hk => by have := hS k hk; omega, h1, ?_⟩
  have hA : Below W3.heap.size W3 (w2.alloc o).drew := (hB2.alloc h1 o).drew
  exact Below.putRow (hA.trans (hB5.mono (by omega))) h1 _

theorem setCells12 {w : World} {g : Nat} {t : TypeId} {o0 o1 o2 o3 o4 o5 o6 o7 o8 o9 o10 o11 : Value} (hg : w.heap[g]? = some (.cells #[o0, o1, o2, o3, o4, o5, o6, o7, o8, o9, o10, o11] t (0, 0))) (a0 a1 a2 a3 a4 a5 a6 a7 a8 a9 a10 a11 : Value) :
    ((((((((((((w.setCell ⟨g, 0, none⟩ a0).setCell ⟨g, 1, none⟩ a1).setCell ⟨g, 2, none⟩ a2).setCell ⟨g, 3, none⟩ a3).setCell ⟨g, 4, none⟩ a4).setCell ⟨g, 5, none⟩ a5).setCell ⟨g, 6, none⟩ a6).setCell ⟨g, 7, none⟩ a7).setCell ⟨g, 8, none⟩ a8).setCell ⟨g, 9, none⟩ a9).setCell ⟨g, 10, none⟩ a10).setCell ⟨g, 11, none⟩ a11) =
      w.setRow g #[a0, a1, a2, a3, a4, a5, a6, a7, a8, a9, a10, a11] := by
  have step : ∀ (cs : Array Value) (W : World) (i : Nat) (v : Value), W = w.setRow g cs → W.setCell ⟨g, i, none⟩ v = w.setRow g (cs.setIfInBounds i v) := fun cs W i v h => by
    subst h
    rw [setCell_eq_setRow _ g i cs t (0, 0) v (setRow_heap w g _ cs t _ hg), setRow_setRow]
  have h0 := step _ w 0 a0 (setRow_self w g _ t _ hg).symm
  have h1 := step _ _ 1 a1 h0
  have h2 := step _ _ 2 a2 h1
  have h3 := step _ _ 3 a3 h2
  have h4 := step _ _ 4 a4 h3
  have h5 := step _ _ 5 a5 h4
  have h6 := step _ _ 6 a6 h5
  have h7 := step _ _ 7 a7 h6
  have h8 := step _ _ 8 a8 h7
  have h9 := step _ _ 9 a9 h8
  have h10 := step _ _ 10 a10 h9
  have h11 := step _ _ 11 a11 h10
  rw [h11]
  simp only [List.setIfInBounds_toArray, List.set_cons_zero, List.set_cons_succ]

theorem SetAt.kept {w0 w w' : World} {g h : Nat} {n : Nd} (s : SetAt w0 g h n w) (hb : Below w.heap.size w w') : SetAt w0 g h n w' := by
  obtain ⟨S, t, hS, hg, hB⟩ := s
  exact ⟨S, t.kept hb, hS, hg, hB.trans (hb.mono hB.size)⟩

theorem SetAt.below {w0 w : World} {g h : Nat} {n : Nd} (s : SetAt w0 g h n w) : Below w0.heap.size w0 w := by
  obtain ⟨S, t, hS, hg, hB⟩ := s
  exact hB

theorem SetAt.cell0 {w0 w : World} {g h : Nat} {n : Nd} (s : SetAt w0 g h n w) : w.cell? ⟨g, 0, none⟩ = some (.int .i64 h) := by
  obtain ⟨S, t, hS, hg, hB⟩ := s
  exact t.cell0

theorem SetAt.frozen {w0 w : World} {g h : Nat} {n : Nd} (s : SetAt w0 g h n w) (j : Nat) : w.frozen? ⟨g, j, none⟩ = false := by
  obtain ⟨S, t, hS, hg, hB⟩ := s
  exact t.node.frozen j

theorem SetAt.lt {w0 w : World} {g h : Nat} {n : Nd} (s : SetAt w0 g h n w) : g < w.heap.size := by
  obtain ⟨S, t, hS, hg, hB⟩ := s
  exact t.node.lt

theorem SetAt.setH {w0 w : World} {g h : Nat} {n : Nd} (s : SetAt w0 g h n w) (h' : Nat) : SetAt w0 g h' n (w.setCell ⟨g, 0, none⟩ (.int .i64 h')) := by
  obtain ⟨S, t, hS, hg, hB⟩ := s
  refine ⟨S, t.setH h', hS, hg, ?_⟩
  exact hB.trans ⟨rfl, rfl, rfl, by simp [World.setCell], fun k hk => Below.heap_setCell _ _ _ _ (by show k ≠ g; omega)⟩

theorem TreeAt.isR {w : World} {g h : Nat} {n : Nd} {S : Nat → Prop} (t : TreeAt w g h n S) (hh : h ≤ 10) : ∃ cs, w.heap[g]? = some (.cells cs 28 (0, 0)) ∧ cs.size = 12 ∧ cs.all (·.oneCell') = true ∧ (∀ B, (∀ k, S k → B ≤ k) → ∀ k, k ≠ g → ¬ S k → ∀ c', OwnR (w.setRow k c') B ⟨h, n⟩ cs) := by
  obtain ⟨c, hg, ho, hn⟩ := t
  have hsz := ho.size
  refine ⟨_, hg, by simp; omega, ?_, ?_⟩
  · have := ho.isN.one
    rw [Array.all_append, this]
    simp [Value.oneCell']
  · intro B hB k hk hS c'
    exact ⟨(show inI64 (h : Int) from ⟨by omega, by omega⟩), c, S, rfl, ho.other (g := k) hS (fun j hj => setRow_other w k j c' hj), hB⟩

/-- The tree is given back: copied into a variable that was there. -/
theorem SetAt.fin {w0 w : World} {g h b : Nat} {n : Nd} (s : SetAt w0 g h n w) (hh : h ≤ 10) (hb : b < w0.heap.size) :
    ∃ cs, w.heap[g]? = some (.cells cs 28 (0, 0)) ∧ cs.size = 12 ∧ cs.all (·.oneCell') = true ∧ OwnR (w.setRow b cs) w0.heap.size ⟨h, n⟩ cs := by
  obtain ⟨S, t, hS, hg, hB⟩ := s
  obtain ⟨cs, h1, h2, h3, h4⟩ := t.isR hh
  exact ⟨cs, h1, h2, h3, h4 _ hS b (by omega) (fun hk => by have := hS b hk; omega) cs⟩

/-- One level more: the node above the root is made, takes the root in, and becomes the root. -/
theorem SetAt.up {w0 w : World} {g h : Nat} {n : Nd} (s : SetAt w0 g h n w) :
    ∃ c S2, c.size = 11 ∧ RowAt (upW w) g 1 c ∧ c.all (·.oneCell') = true ∧ (upW w).there w.heap.size 0 c.size ∧
      NodeAt ((upW w).setCells w.heap.size 0 c.toList) (w.heap.size + 1) 0 26 (upNd0 n) S2 ∧
      ∀ w3 n', Turned (w.heap.size + 1) 0 (fun _ => False) ((upW w).setCells w.heap.size 0 c.toList) w3 → NodeAt w3 (w.heap.size + 1) 0 26 n' S2 →
        ∃ c', c'.size = 11 ∧ RowAt w3 (w.heap.size + 1) 0 c' ∧ c'.all (·.oneCell') = true ∧ w3.there g 1 c'.size ∧ SetAt w0 g h n' (w3.setCells g 1 c'.toList) := by
  obtain ⟨S, t, hS, hg, hB⟩ := s
  have ht := t
  obtain ⟨c, hgc, ho, hn⟩ := t
  obtain ⟨h1, h2, h3⟩ := up_make ho
  have hglt := ht.node.lt
  have hr : RowAt (upW w) g 1 c := by
    intro q hq
    rw [cell_of_row _ _ _ _ 28 (0, 0) (((upW_old w).block g hglt).trans hgc), Array.getElem?_append_right (by simp)]
    simp [Nat.add_comm 1 q, hq]
  refine ⟨c, _, ho.size, hr, ho.isN.one, h1, h2, ?_⟩
  intro w3 n' hT hN
  have hB3 : Below w.heap.size w w3 := by
    refine h3.trans ?_
    exact ⟨hT.os, hT.tape, hT.output, hT.size, fun k hk => hT.block k (Nat.lt_of_lt_of_le hk h3.size) (by omega) (fun h => h)⟩
  obtain ⟨c', q1, q2, q3, q4, q5, q6⟩ := grow_end ht hB3 hN (fun k hk => by
    rcases hk with hk | hk
    · exact .inr (by omega)
    · exact .inl hk)
  refine ⟨c', q1, q2, q3, q4, _, q5, ?_, hg, q6.below hB hg hB.size⟩
  intro k hk
  have := hB.size
  rcases hk with hk | hk
  · omega
  · exact hS k hk

theorem SetAt.update {w0 W : World} {g l : Nat} {n : Nd} {fid : Nat} {capt : Array Value} {K : Nat → Prop} {C : World → Prop} {chg : Nd → Nat → Nd} (hchg : Changes fid capt K C chg) (hC : ∀ W W', (∀ k, K k → W'.heap[k]? = W.heap[k]?) → C W → C W') (hf : fid = 75 ∨ fid = 107)
    (hC0 : C w0) (hK : ∀ k, K k → k < w0.heap.size) (i : Nat) (hi : i ≤ 1073741824) (hl : l ≤ 9) (s : SetAt w0 g (l + 1) n W) (hfit : n.fit l) :
    Calls Try.prog 74 #[.pointer (some ⟨g, 1, none⟩), .int .i64 ((l : Int) + 1), .int .i64 i, .func (.func fid) #[] capt] W fun e W' => e = .returned (.tuple #[]) ∧ SetAt w0 g (l + 1) (n.upd chg l i) W' := by
  obtain ⟨S, t, hS, hg, hB⟩ := s
  have hsz := hB.size
  refine (update_spec hchg hC hf i hi l hl W g 1 28 n S (hC w0 W (fun k hk => hB.block k (hK k hk)) hC0) (fun h => by have := hK g h; omega) (fun k hk hk2 => by have := hK k hk; have := hS k hk2; omega) (fun k hk => by have := hK k hk; omega) hfit t.node).mono ?_
  rintro e W' ⟨rfl, hT, S', hN, hS'⟩
  refine ⟨rfl, S', t.turned hT hN, fun k hk => ?_, hg, ?_⟩
  · rcases hS' k hk with q | q
    · exact hS k q
    · omega
  · exact hB.trans ⟨hT.os, hT.tape, hT.output, hT.size, fun k hk => hT.block k (by omega) (by omega) (fun h => by have := hS k h; omega)⟩

theorem SetAt.shrink {w0 W : World} {g h : Nat} {n : Nd} (s : SetAt w0 g h n W) (hlow : n.emp = false → n.low h) (hh : h ≤ 10) :
    Calls Try.prog 76 #[.pointer (some ⟨g, 0, none⟩)] W fun e W' => e = .returned (.tuple #[]) ∧ SetAt w0 g (shrinkM h n).1 (shrinkM h n).2 W' := by
  obtain ⟨S, t, hS, hg, hB⟩ := s
  have hsz := hB.size
  refine (shrink_spec t hlow hh).mono ?_
  rintro e W' ⟨rfl, h1, h2, h3, h4, h5, S', ht, hS'⟩
  refine ⟨rfl, S', ht, fun k hk => ?_, hg, ?_⟩
  · rcases hS' k hk with q | q
    · exact hS k q
    · omega
  · exact hB.trans ⟨h1, h2, h3, h4, fun k hk => h5 k (by omega) (by omega)⟩

theorem shrink_le (h : Nat) : ∀ n : Nd, (shrinkL h n).1 ≤ h := by
  match h with
  | 0 => intro n; exact Nat.le_refl _
  | 1 => intro n; exact Nat.le_refl _
  | h + 2 =>
    intro n
    unfold shrinkL
    split
    · exact Nat.le_trans (shrink_le (h + 1) _) (by omega)
    · exact Nat.le_refl _
theorem shrinkM_le (h : Nat) (n : Nd) : (shrinkM h n).1 ≤ h := by
  unfold shrinkM
  split
  · exact Nat.zero_le _
  · exact shrink_le h n
end Go.Proofs.Ytmdmbnpgdkmklaa
