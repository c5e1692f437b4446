/- The ground: radix nodes as plain trees, loads and stores of whole nodes, drawing regions with calls. -/
import Derived.Test.YtmdmbnpgdkmklaaRows
import Derived.WalkKit
import Derived.WalkSpells
import Derived.WalkLawsBesides
import Derived.Lib.Hide
import Derived.Handy
import Derived.BigQuiet
namespace Go.Proofs.Ytmdmbnpgdkmklaa
open Go.RowKit

/-- A node of a radix tree: eight values, two tags, children. -/
inductive Nd where
  | mk (v : List Int) (t0 t1 : Int) (ks : List Nd)

def Nd.vs : Nd → List Int | .mk v _ _ _ => v
def Nd.t0 : Nd → Int | .mk _ t _ _ => t
def Nd.t1 : Nd → Int | .mk _ _ t _ => t
def Nd.ks : Nd → List Nd | .mk _ _ _ k => k

/-- The eleven cells of a node. -/
def ndCells (v : List Int) (t0 t1 : Int) (s : Value) : Array Value := (v.map (Value.int .i64) ++ [.int .i64 t0, .int .i64 t1, s]).toArray

/-- All cells that were there hold what they held. -/
def Keeps (w w' : World) : Prop := ∀ a v, w.cell? a = some v → w'.cell? a = some v

theorem Keeps.refl (w : World) : Keeps w w := fun _ _ h => h
theorem Keeps.trans {a b c : World} (h : Keeps a b) (k : Keeps b c) : Keeps a c := fun p v x => k p v (h p v x)
theorem Keeps.of_below {w w' : World} (h : Below w.heap.size w w') : Keeps w w' := fun a v hc => by
  rw [h.cell (p := a) (block_lt_of_cell hc)]; exact hc

def inI64 (x : Int) : Prop := -9223372036854775808 ≤ x ∧ x ≤ 9223372036854775807

/-- The row of n cells from address (b, o) on. -/
def RowAt (w : World) (b o : Nat) (cs : Array Value) : Prop := ∀ i (h : i < cs.size), w.cell? ⟨b, o + i, none⟩ = some cs[i]

theorem RowAt.keeps {w w' : World} {b o : Nat} {cs : Array Value} (h : RowAt w b o cs) (k : Keeps w w') : RowAt w' b o cs := fun i hi => k _ _ (h i hi)

/-- The cells 'cs' are a node that stands for the tree. -/
inductive IsN (w : World) : Nd → Array Value → Prop where
  | mk (v : List Int) (t0 t1 : Int) (ks : List Nd) (a : Option Addr) (b o cap : Nat) (f : Nat → Array Value)
      (hv : v.length = 8) (hvb : ∀ x ∈ v, inI64 x) (h0 : inI64 t0) (h1 : inI64 t1)
      (ha : ks ≠ [] → a = some ⟨b, o, none⟩) (hl : ks.length ≤ 9223372036854775807) (hcp : ks.length ≤ cap ∧ cap ≤ 9223372036854775807)
      (hf : ∀ i, i < ks.length → RowAt w b (o + i * 11) (f i))
      (hk : ∀ i (h : i < ks.length), IsN w ks[i] (f i)) :
      IsN w (.mk v t0 t1 ks) (ndCells v t0 t1 (.slice a ks.length cap))

theorem IsN.keeps {w w' : World} {n : Nd} {c : Array Value} (h : IsN w n c) (k : Keeps w w') : IsN w' n c := by
  induction h with
  | mk v t0 t1 ks a b o cap f hv hvb h0 h1 ha hl hcp hf hk ih => exact .mk v t0 t1 ks a b o cap f hv hvb h0 h1 ha hl hcp (fun i hi => (hf i hi).keeps k) ih

theorem list8 {α : Type} {l : List α} (h : l.length = 8) : ∃ a b c d e f g i, l = [a, b, c, d, e, f, g, i] := by
  match l, h with
  | [a, b, c, d, e, f, g, i], _ => exact ⟨a, b, c, d, e, f, g, i, rfl⟩

theorem size3 (w : World) : (sizeOf 3).run Try.prog w = .ok 1 w := by kernel_rfl
theorem part3 (w : World) (cs : Array Value) (i : Nat) (k : IntKind) (x : Int) (h : cs[i]? = some (.int k x)) : (part 3 cs i).run Try.prog w = .ok (.int k x) w := by
  unfold part
  simp [go_sem, h]
theorem eqLoop (w : World) (xs ys : List Int) (n : Nat) (hx : xs.length = n) (hy : ys.length = n) : ∀ (m i : Nat), i + m = n →
    (forIn (List.range' i m) ((none : Option Bool), ()) fun i (_ : Option Bool × Unit) => (do
                  let x ← part 3 (xs.map (Value.int .i64)).toArray (i * 1)
                  let y ← part 3 (ys.map (Value.int .i64)).toArray (i * 1)
                  let r ← Op.equalIn 9999 3 x y
                  if (!r) = true then pure (ForInStep.done (some false, ()))
                    else pure (ForInStep.yield (none, ())) : Sem (ForInStep (Option Bool × Unit)))).run Try.prog w = .ok (if xs.drop i == ys.drop i then (none, ()) else (some false, ())) w
  | 0, i, h => by
    simp [List.drop_of_length_le (show xs.length ≤ i by omega), List.drop_of_length_le (show ys.length ≤ i by omega)]
  | m + 1, i, h => by
    have hxi : i < xs.length := by omega
    have hyi : i < ys.length := by omega
    have px := part3 w (xs.map (Value.int .i64)).toArray (i * 1) .i64 xs[i] (by simp [hxi])
    have py := part3 w (ys.map (Value.int .i64)).toArray (i * 1) .i64 ys[i] (by simp [hyi])
    have e := run_equalIn_int (P := Try.prog) w 9998 3 .i64 .i64 xs[i] ys[i] Try.underlying3
    rw [List.range'_succ, List.forIn_cons, Sem.run_bind, Sem.run_bind, px]
    simp only [Result.andThen_ok, Sem.run_bind, py, e]
    have dx := List.drop_eq_getElem_cons hxi
    have dy := List.drop_eq_getElem_cons hyi
    have ih := eqLoop w xs ys n hx hy m (i + 1) (by omega)
    by_cases hq : xs[i] = ys[i]
    · simp only [hq, BEq.rfl, Bool.not_true, Bool.false_eq_true, if_false, Sem.run_pure, Result.andThen_ok, ih]
      rw [dx, dy, hq, List.cons_beq_cons, BEq.rfl, Bool.true_and]
    · have hq' : (xs[i] == ys[i]) = false := by simpa using hq
      rw [dx, dy, List.cons_beq_cons, hq']; simp
theorem eqlArr (w : World) (t : TypeId) (n : Nat) (ht : Try.prog.underlying t = some (.array n 3)) (xs ys : List Int) (hx : xs.length = n) (hy : ys.length = n) :
    (binOp .eql t (.agg (xs.map (Value.int .i64)).toArray) (.agg (ys.map (Value.int .i64)).toArray)).run Try.prog w = .ok (.bool (xs == ys)) w := by
  rw [run_eql_struct]
  rw [show (10000 : Nat) = 9999 + 1 from rfl, Op.equalIn]
  have h := eqLoop w xs ys n hx hy n 0 (by omega)
  simp only [Sem.run_bind, run_underlying ht, Result.andThen_ok, size3, Std.Legacy.Range.forIn_eq_forIn_range', Std.Legacy.Range.size, Nat.sub_zero, Nat.add_sub_cancel, Nat.div_one, h]
  simp only [List.drop_zero]
  by_cases e : (xs == ys) = true
  · simp [e]
  · simp [e]

end Go.Proofs.Ytmdmbnpgdkmklaa
namespace Go.Proofs.Ytmdmbnpgdkmklaa
open Go.RowKit
def Nd.absent (n : Nd) : Bool := n.ks.isEmpty && (n.t0 == 0 && n.t1 == 0) && n.vs.all (· == 0)

theorem ret_bool {a b : Bool} (h : a = b) : Ending.returned (.bool a) = .returned (.bool b) := by rw [h]
theorem ret_int {a b : Int} (h : a = b) : Ending.returned (.int .i64 a) = .returned (.int .i64 b) := by rw [h]

set_option maxRecDepth 100000 in
set_option maxHeartbeats 400000 in
theorem absent_spec {w : World} {n : Nd} {c : Array Value} (h : IsN w n c) :
    Calls Try.prog 67 #[.agg c] w fun e w' => e = .returned (.bool n.absent) ∧ Below w.heap.size w w' := by
  have he2 : ∀ (w : World) a b c d, (binOp .eql 23 (.agg #[.int .i64 a, .int .i64 b]) (.agg #[.int .i64 c, .int .i64 d])).run Try.prog w = .ok (.bool ([a, b] == [c, d])) w :=
    fun w a b c d => eqlArr w 23 2 Try.underlying23 [a, b] [c, d] rfl rfl
  cases h with
  | mk v t0 t1 ks a b o cap f hv hvb h0 h1 ha hl hcp hf hk =>
    obtain ⟨v0, v1, v2, v3, v4, v5, v6, v7, rfl⟩ := list8 hv
    have he8 := fun (w : World) => eqlArr w 22 8 Try.underlying22 [v0, v1, v2, v3, v4, v5, v6, v7] [0, 0, 0, 0, 0, 0, 0, 0] rfl rfl
    clear hvb hf hk ha
    simp only [ndCells, List.map_cons, List.map_nil, List.cons_append, List.nil_append] at he8 ⊢
    by_cases hks : ks = []
    · subst hks
      by_cases ht : t0 = 0 ∧ t1 = 0
      · obtain ⟨rfl, rfl⟩ := ht
        go_enter Try.func67, Try.ntmps67
        go_wp2
        go_ret
        exact ⟨ret_bool (by simp [Nd.absent, Nd.ks, Nd.t0, Nd.t1, Nd.vs]), (Below.refl _ _).alloc (Nat.le_refl _) _⟩
      · have hb : ([t0, t1] == [0, 0]) = false := by simpa using ht
        have he2' : ∀ (w : World), (binOp .eql 23 (.agg #[.int .i64 t0, .int .i64 t1]) (.agg #[.int .i64 0, .int .i64 0])).run Try.prog w = .ok (.bool false) w := fun w => hb ▸ he2 w t0 t1 0 0
        clear he2 hb
        have ht' := Lib.hid ht
        clear ht
        go_enter Try.func67, Try.ntmps67
        go_wp2
        go_ret
        have ht := ht'.out
        exact ⟨ret_bool (by simp [Nd.absent, Nd.ks, Nd.t0, Nd.t1, Nd.vs]; intro a b; exact absurd ⟨a, b⟩ ht), (Below.refl _ _).alloc (Nat.le_refl _) _⟩
    · have hn : ks.length ≠ 0 := by simpa using hks
      go_enter Try.func67, Try.ntmps67
      go_wp2
      go_ret
      exact ⟨ret_bool (by simp [Nd.absent, Nd.ks, hks]), (Below.refl _ _).alloc (Nat.le_refl _) _⟩
end Go.Proofs.Ytmdmbnpgdkmklaa
namespace Go.Proofs.Ytmdmbnpgdkmklaa
open Go.RowKit
set_option linter.unusedVariables false
set_option linter.unusedSimpArgs false

/-- Bit i of a mask, as Go's 'mask>>i&1 == 1' has it. -/
def tb (m : Int) (i : Nat) : Bool := bits .and .i64 (m / 2 ^ i) 1 == 1

/-- The eleven cells of a box, one by one. -/
theorem cells11 {w : World} {b : Nat} {c0 c1 c2 c3 c4 c5 c6 c7 c8 c9 c10 : Value} (h : RowAt w b 0 #[c0, c1, c2, c3, c4, c5, c6, c7, c8, c9, c10]) :
    w.cell? ⟨b, 0, none⟩ = some c0 ∧ w.cell? ⟨b, 8, none⟩ = some c8 ∧ w.cell? ⟨b, 9, none⟩ = some c9 ∧ w.cell? ⟨b, 10, none⟩ = some c10 :=
  ⟨h 0 (by simp), h 8 (by simp), h 9 (by simp), h 10 (by simp)⟩

theorem rowAt_new (w : World) (c : Array Value) (t : TypeId) : RowAt (w.alloc (.cells c t)) w.heap.size 0 c := fun i hi => by
  have h := heap_alloc_new w (.cells c t)
  simp only [World.cell?, h, Nat.zero_add]
  simp [hi]

theorem Keeps.alloc (w : World) (o : Obj) : Keeps w (w.alloc o) := Keeps.of_below ((Below.refl _ w).alloc (Nat.le_refl _) o)

theorem index2 (w : World) (x y : Value) : (Instr.index 23 (.agg #[x, y]) (.int .i64 0)).run Try.prog w = .ok x w ∧ (Instr.index 23 (.agg #[x, y]) (.int .i64 1)).run Try.prog w = .ok y w :=
  ⟨by kernel_rfl, by kernel_rfl⟩

/-- One of the first eight cells. -/
theorem cellV {w : World} {b k : Nat} {v0 v1 v2 v3 v4 v5 v6 v7 : Int} {c8 c9 c10 : Value} (h : RowAt w b 0 #[.int .i64 v0, .int .i64 v1, .int .i64 v2, .int .i64 v3, .int .i64 v4, .int .i64 v5, .int .i64 v6, .int .i64 v7, c8, c9, c10]) (hk : k < 8) :
    w.cell? ⟨b, k, none⟩ = some (.int .i64 ([v0, v1, v2, v3, v4, v5, v6, v7].getD k 0)) := by
  have := h k (by simp; omega)
  rw [Nat.zero_add] at this
  rw [this]
  match k, hk with
  | 0, _ | 1, _ | 2, _ | 3, _ | 4, _ | 5, _ | 6, _ | 7, _ => rfl

def leafGood (v : List Int) (t0 t1 : Int) (k : Nat) : Bool := v.getD k 0 != 0 || (!tb t0 k && !tb t1 k)
def tagOk (t : Int) : Bool := decide (0 ≤ t) && decide (t < 256)
def Nd.okLeaf (n : Nd) : Bool := (List.range 8).all (leafGood n.vs n.t0 n.t1) && n.vs.any (· != 0) && tagOk n.t0 && tagOk n.t1 && n.ks.isEmpty

/-- Three groups of numbers: a round's tests, the rest. -/
theorem take_any (v : List Int) (hv : v.length = 8) (k : Nat) (hk : k < 8) : (v.take (k + 1)).any (· != 0) = ((v.take k).any (· != 0) || (v.getD k 0 != 0)) := by
  rw [List.take_succ_eq_append_getElem (by omega), List.any_append]
  simp [List.getD, show k < v.length by omega]

theorem okLeaf_false {V : List Int} {t0 t1 : Int} {ks : List Nd} {k : Nat} (hk : k < 8) (h : leafGood V t0 t1 k = false) : (Nd.mk V t0 t1 ks).okLeaf = false := by
  have : (List.range 8).all (leafGood V t0 t1) = false := by
    rw [List.all_eq_false]; exact ⟨k, by simpa using hk, by simp [h]⟩
  simp [Nd.okLeaf, Nd.vs, Nd.t0, Nd.t1, this]
theorem okLeaf_end {V : List Int} {t0 t1 : Int} {ks : List Nd} (hv : V.length = 8) (h : ∀ j, j < 8 → leafGood V t0 t1 j = true) :
    (Nd.mk V t0 t1 ks).okLeaf = ((V.take 8).any (· != 0) && tagOk t0 && tagOk t1 && ks.isEmpty) := by
  have : (List.range 8).all (leafGood V t0 t1) = true := by
    rw [List.all_eq_true]; intro j hj; exact h j (by simpa using hj)
  rw [List.take_of_length_le (by omega)]
  simp [Nd.okLeaf, Nd.vs, Nd.t0, Nd.t1, Nd.ks, this]


theorem wp_load_nd {o : Oper} {a : Act} {w : World} {K : Act → World → Prop} {Q : Exit → Act → World → Prop} (x : Operand) (ho : o.op = .load 26 x)
    (b off : Nat) (hx : a.eval x = .pointer (some ⟨b, off, none⟩)) (cs : Array Value) (hs : cs.size = 11) (hr : RowAt w b off cs)
    (h : K (a.put o.dst (.agg cs)) w) : o.wp Try.prog a w K Q := by
  have hl : (loadCells ⟨b, off, none⟩ cs.toList.length).run Try.prog w = .ok cs.toList.toArray w :=
    run_loadCells_list (P := Try.prog) w ⟨b, off, none⟩ cs.toList (fun j v hv => by
      have hadd : (⟨b, off, none⟩ : Addr).add j = ⟨b, off + j, none⟩ := by unfold Addr.add; split <;> simp_all
      rw [hadd]
      have hj : j < cs.size := by
        rcases Nat.lt_or_ge j cs.size with q | q
        · exact q
        · simp [Array.getElem?_eq_none q] at hv
      have := hr j hj
      rw [this]; simpa [hj] using hv)
  simp only [Array.length_toList, Array.toArray_toList, hs] at hl
  have hsz : (sizeOf 26).run Try.prog w = .ok 11 w := by kernel_rfl
  have hagg : (isAgg 26).run Try.prog w = .ok true w := by kernel_rfl
  have hv : (loadVar 26 ⟨b, off, none⟩).run Try.prog w = .ok (.agg cs) w := by
    simp [loadVar, Sem.run_bind, hagg, hsz, hl]
  unfold Oper.wp execOp
  simp only [ho, hx, Instr.loadAt, Instr.sureAddr, Sem.run_bind, Sem.run_pure, Result.andThen_ok, hv]
  exact h

/-- A node's row, loaded whole (the operation may bear a guard that says yes). -/
theorem wpList_load_nd {ops : Array Oper} {rest : List Oper} {o : Oper} {a : Act} {w : World} {Q : Exit → Act → World → Prop} (x : Operand) (ho : o.op = .load 26 x)
    (hw : Region.wanted o (yielded ops a.tmps) = true)
    (b off : Nat) (hx : a.eval x = .pointer (some ⟨b, off, none⟩)) (cs : Array Value) (hs : cs.size = 11) (hr : RowAt w b off cs)
    (h : wpList Try.prog ops Q rest (a.put o.dst (.agg cs)) w) : wpList Try.prog ops Q (o :: rest) a w := by
  unfold wpList
  rw [if_pos hw]
  exact .inl (wp_load_nd x ho b off hx cs hs hr h)

theorem IsN.size {w : World} {n : Nd} {c : Array Value} (h : IsN w n c) : c.size = 11 := by
  cases h with
  | mk v t0 t1 ks a b o cap f hv hvb h0 h1 haa hl hcp hf hk => simp [ndCells, hv]

/-- What a call that keeps all that was there leaves: old cells and old marks read as before. -/
theorem bcell {W w1 : World} (hb : Below W.heap.size W w1) : (∀ b o, b < W.heap.size → w1.cell? ⟨b, o, none⟩ = W.cell? ⟨b, o, none⟩) ∧ (∀ b o, b < W.heap.size → w1.frozen? ⟨b, o, none⟩ = W.frozen? ⟨b, o, none⟩) :=
  ⟨fun b o h => hb.cell (p := ⟨b, o, none⟩) h, fun b o h => hb.frozen (p := ⟨b, o, none⟩) h⟩

theorem absent_tags {n : Nd} (h : n.absent = true) : n.t0 = 0 ∧ n.t1 = 0 := by
  unfold Nd.absent at h
  simp only [Bool.and_eq_true, beq_iff_eq] at h
  exact h.1.2

theorem lt_of_cell {w : World} {b o : Nat} {v : Value} (h : w.cell? ⟨b, o, none⟩ = some v) : b < w.heap.size := block_lt_of_cell h

end Go.Proofs.Ytmdmbnpgdkmklaa
namespace Go.Proofs.Ytmdmbnpgdkmklaa
open Go.RowKit
set_option linter.unusedVariables false
set_option linter.unusedSimpArgs false

def Nd.zero : Nd := .mk [0, 0, 0, 0, 0, 0, 0, 0] 0 0 []
def Nd.kid (n : Nd) (i : Nat) : Nd := n.ks.getD i Nd.zero

def kidGood (okk : Nd → Bool) (n : Nd) (i : Nat) : Bool :=
  n.vs.getD i 0 == 0 && ((n.kid i).absent || okk (n.kid i)) && (tb n.t0 i == ((n.kid i).t0 != 0)) && (tb n.t1 i == ((n.kid i).t1 != 0))

/-- Whether a node is well formed for a level. -/
def Nd.ok : Nat → Nd → Bool
  | 0, _ => false
  | 1, n => !n.absent && n.okLeaf
  | l + 2, n => !n.absent && n.ks.length == 8 && (List.range 8).all (kidGood (Nd.ok (l + 1)) n) && (List.range 8).any (fun i => !(n.kid i).absent) && tagOk n.t0 && tagOk n.t1

/-- A child's row: where it lies, and that it stands for the child; its two tags. -/
theorem kid_tags {w : World} {n : Nd} {c : Array Value} {b o : Nat} (h : IsN w n c) (hr : RowAt w b o c) :
    w.cell? ⟨b, o + 8, none⟩ = some (.int .i64 n.t0) ∧ w.cell? ⟨b, o + 8 + 1, none⟩ = some (.int .i64 n.t1) := by
  cases h with
  | mk v t0 t1 ks a b o cap f hv hvb h0 h1 haa hl hcp hf hk =>
    obtain ⟨v0, v1, v2, v3, v4, v5, v6, v7, rfl⟩ := list8 hv
    exact ⟨hr 8 (by simp [ndCells]), hr 9 (by simp [ndCells])⟩

theorem ok_false {l : Nat} {n : Nd} {k : Nat} (hk : k < 8) (h : kidGood (Nd.ok (l + 1)) n k = false) : n.ok (l + 2) = false := by
  have : (List.range 8).all (kidGood (Nd.ok (l + 1)) n) = false := by
    rw [List.all_eq_false]; exact ⟨k, by simpa using hk, by simp [h]⟩
  simp [Nd.ok, this]
theorem ok_end {l : Nat} {n : Nd} (ha : n.absent = false) (h8 : n.ks.length = 8) (h : ∀ j, j < 8 → kidGood (Nd.ok (l + 1)) n j = true) :
    n.ok (l + 2) = ((List.range 8).any (fun i => !(n.kid i).absent) && tagOk n.t0 && tagOk n.t1) := by
  have : (List.range 8).all (kidGood (Nd.ok (l + 1)) n) = true := by
    rw [List.all_eq_true]; intro j hj; exact h j (by simpa using hj)
  simp [Nd.ok, this, ha, h8]


end Go.Proofs.Ytmdmbnpgdkmklaa
namespace Go.Proofs.Ytmdmbnpgdkmklaa
open Go.RowKit
set_option linter.unusedVariables false
set_option linter.unusedSimpArgs false

/-- All worlds in which what there was in w0 stays, as the values of one function. -/
theorem world_class (w0 : World) : ∃ (ι : Type) (F : ι → World), (∀ i, Below w0.heap.size w0 (F i)) ∧ (∀ W, Below w0.heap.size w0 W → ∃ i, W = F i) :=
  ⟨{W : World // Below w0.heap.size w0 W}, Subtype.val, fun i => i.2, fun W h => ⟨⟨W, h⟩, rfl⟩⟩

theorem wp_region_class {ι : Type} (F : ι → World) {id : Nat} {Q : Exit → Act → World → Prop} {a : Act} {w : World} {l : List Oper} (hB : Region.lexB .any l.toArray = true) (hC : ∃ i, w.drew = F i)
    (h : wpQuiet Try.prog l.toArray (fun W => ∃ i, W = F i) (fun a' => ∀ w', (∃ i, w' = F i) → Q .normal a' w') l a) : (Code.region id l.toArray true).wp Try.prog Q a w :=
  wp_region_quiet (C := fun W => ∃ i, W = F i) (by kernel_rfl) hB hC (by simpa using h)

/-- A callee's contract, met in a world of the class. -/
theorem Calls.class_of {ι : Type} {F : ι → World} {w0 : World} (hF : Hid (∀ i, Below w0.heap.size w0 (F i))) (hG : Hid (∀ W, Below w0.heap.size w0 W → ∃ i, W = F i)) {f : FuncId} {args : Array Value} {i : ι} {v : Value}
    (h : Calls Try.prog f args (F i) fun e w' => e = .returned v ∧ Below (F i).heap.size (F i) w') : Calls Try.prog f args (F i) fun e w'' => e = .returned v ∧ ∃ j, w'' = F j :=
  h.mono fun _ w' ⟨he, hB⟩ => ⟨he, hG.out w' ((hF.out i).trans (hB.mono (hF.out i).size))⟩
theorem Calls.class_same {ι : Type} {F : ι → World} {f : FuncId} {args : Array Value} {i : ι} {v : Value}
    (h : Calls Try.prog f args (F i) fun e w' => e = .returned v ∧ F i = w') : Calls Try.prog f args (F i) fun e w'' => e = .returned v ∧ ∃ j, w'' = F j :=
  h.mono fun _ w' ⟨he, hB⟩ => ⟨he, i, hB.symm⟩

theorem arr11 {c : Array Value} (h : c.size = 11) : ∃ x0 x1 x2 x3 x4 x5 x6 x7 x8 x9 x10, c = #[x0, x1, x2, x3, x4, x5, x6, x7, x8, x9, x10] := by
  match c, h with
  | ⟨[x0, x1, x2, x3, x4, x5, x6, x7, x8, x9, x10]⟩, _ => exact ⟨x0, x1, x2, x3, x4, x5, x6, x7, x8, x9, x10, rfl⟩

/-- The eleven cells of a row that lies anywhere. -/
theorem row11 {w : World} {b o : Nat} {c0 c1 c2 c3 c4 c5 c6 c7 c8 c9 c10 : Value} (h : RowAt w b o #[c0, c1, c2, c3, c4, c5, c6, c7, c8, c9, c10]) :
    w.cell? ⟨b, o, none⟩ = some c0 ∧ w.cell? ⟨b, o + 1, none⟩ = some c1 ∧ w.cell? ⟨b, o + 2, none⟩ = some c2 ∧ w.cell? ⟨b, o + 3, none⟩ = some c3 ∧ w.cell? ⟨b, o + 4, none⟩ = some c4 ∧ w.cell? ⟨b, o + 5, none⟩ = some c5 ∧
    w.cell? ⟨b, o + 6, none⟩ = some c6 ∧ w.cell? ⟨b, o + 7, none⟩ = some c7 ∧ w.cell? ⟨b, o + 8, none⟩ = some c8 ∧ w.cell? ⟨b, o + 9, none⟩ = some c9 ∧ w.cell? ⟨b, o + 10, none⟩ = some c10 :=
  ⟨h 0 (by simp), h 1 (by simp), h 2 (by simp), h 3 (by simp), h 4 (by simp), h 5 (by simp), h 6 (by simp), h 7 (by simp), h 8 (by simp), h 9 (by simp), h 10 (by simp)⟩

/-- A node's cells, written out. -/
theorem IsN.lit {w : World} {n : Nd} {c : Array Value} (h : IsN w n c) : ∃ (a0 a1 a2 a3 a4 a5 a6 a7 : Int) (p : Option Addr) (len cap : Nat),
    c = #[.int .i64 a0, .int .i64 a1, .int .i64 a2, .int .i64 a3, .int .i64 a4, .int .i64 a5, .int .i64 a6, .int .i64 a7, .int .i64 n.t0, .int .i64 n.t1, .slice p len cap] := by
  cases h with
  | mk v t0 t1 ks a b o cap f hv hvb h0 h1 haa hl hcp hf hk =>
    obtain ⟨v0, v1, v2, v3, v4, v5, v6, v7, rfl⟩ := list8 hv
    exact ⟨v0, v1, v2, v3, v4, v5, v6, v7, a, ks.length, cap, rfl⟩

theorem load26 {w : World} {g : Nat} {t : TypeId} {cs : Array Value} {fr : Nat × Nat} (hg : w.heap[g]? = some (.cells cs t fr)) (hs : cs.size = 11) : (loadVar 26 ⟨g, 0, none⟩).run Try.prog w = .ok (.agg cs) w :=
  run_loadVar_row w g t 26 cs fr _ hg Try.underlying26 rfl (by rw [hs]; kernel_rfl)
theorem load28 {w : World} {g : Nat} {t : TypeId} {cs : Array Value} {fr : Nat × Nat} (hg : w.heap[g]? = some (.cells cs t fr)) (hs : cs.size = 12) : (loadVar 28 ⟨g, 0, none⟩).run Try.prog w = .ok (.agg cs) w :=
  run_loadVar_row w g t 28 cs fr _ hg Try.underlying28 rfl (by rw [hs]; kernel_rfl)

/-- Two results, the first of them a struct in a variable of its own. -/
theorem results_cell_tmp {fn : Func} {p q : Tmp} {ty : TypeId} (h : fn.results = #[.cell p ty, .tmp q]) (tmps : Array Value) (w : World) (g : Nat) (v : Value)
    (hp : tmps.getD p undef = .pointer (some ⟨g, 0, none⟩)) (hl : (loadVar ty ⟨g, 0, none⟩).run Try.prog w = .ok v w) :
    (results fn tmps).run Try.prog w = .ok (.tuple #[v, tmps.getD q undef]) w := by
  have hp' : tmps[p]?.getD undef = .pointer (some ⟨g, 0, none⟩) := by simpa using hp
  simp [results, h, hp', asAddr, hl]

theorem results_cell {fn : Func} {p : Tmp} {ty : TypeId} (h : fn.results = #[.cell p ty]) (tmps : Array Value) (w : World) (g : Nat) (v : Value)
    (hp : tmps.getD p undef = .pointer (some ⟨g, 0, none⟩)) (hl : (loadVar ty ⟨g, 0, none⟩).run Try.prog w = .ok v w) :
    (results fn tmps).run Try.prog w = .ok v w := by
  have hp' : tmps[p]?.getD undef = .pointer (some ⟨g, 0, none⟩) := by simpa using hp
  simp [results, h, hp', asAddr, hl]

theorem size26 : (Try.prog.info? 26).map (·.size) = some 11 := by kernel_rfl
theorem size28 : (Try.prog.info? 28).map (·.size) = some 12 := by kernel_rfl

theorem IsN.one {w : World} {n : Nd} {c : Array Value} (h : IsN w n c) : c.all (·.oneCell') = true := by
  obtain ⟨x0, x1, x2, x3, x4, x5, x6, x7, xp, xl, xc, rfl⟩ := h.lit
  simp [Value.oneCell']

/-- A node stored whole into a variable of its own. -/
theorem wpList_store_nd {ops : Array Oper} {rest : List Oper} {o : Oper} {a : Act} {w : World} {Q : Exit → Act → World → Prop} (hgd : o.guard = none) (x y : Operand) (ho : o.op = .store 26 x y)
    (g : Nat) (cells : Array Value) (hx : a.eval x = .pointer (some ⟨g, 0, none⟩)) (hy : a.eval y = .agg cells) (hs : cells.size = 11) (h1 : cells.all (·.oneCell') = true)
    (t : TypeId) (old : Array Value) (hg : w.heap[g]? = some (.cells old t (0, 0))) (hold : old.size = 11)
    (h : wpList Try.prog ops Q rest (a.put o.dst undef) (w.setRow g cells)) : wpList Try.prog ops Q (o :: rest) a w :=
  wpList_store_row hgd 26 x y ho g cells hx hy t old hg (by rw [hs]; exact size26) (by rw [hs]; exact hold) h1 h

theorem zero_one : (#[Value.int .i64 0, .int .i64 0, .int .i64 0, .int .i64 0, .int .i64 0, .int .i64 0, .int .i64 0, .int .i64 0, .int .i64 0, .int .i64 0, .slice none 0 0] : Array Value).all (·.oneCell') = true := by
  simp [Value.oneCell']

theorem Below.putRow {B g : Nat} {w0 w : World} (hb : Below B w0 w) (hg : B ≤ g) (cs : Array Value) : Below B w0 (w.setRow g cs) :=
  hb.trans ⟨rfl, rfl, rfl, by simp, fun k hk => setRow_other w g k cs (by omega)⟩

theorem setCells11 {w : World} {g : Nat} {t : TypeId} {o0 o1 o2 o3 o4 o5 o6 o7 o8 o9 o10 : Value} (hg : w.heap[g]? = some (.cells #[o0, o1, o2, o3, o4, o5, o6, o7, o8, o9, o10] t (0, 0))) (a0 a1 a2 a3 a4 a5 a6 a7 a8 a9 a10 : Value) :
    (((((((((((w.setCell ⟨g, 0, none⟩ a0).setCell ⟨g, 1, none⟩ a1).setCell ⟨g, 2, none⟩ a2).setCell ⟨g, 3, none⟩ a3).setCell ⟨g, 4, none⟩ a4).setCell ⟨g, 5, none⟩ a5).setCell ⟨g, 6, none⟩ a6).setCell ⟨g, 7, none⟩ a7).setCell ⟨g, 8, none⟩ a8).setCell ⟨g, 9, none⟩ a9).setCell ⟨g, 10, none⟩ a10) =
      w.setRow g #[a0, a1, a2, a3, a4, a5, a6, a7, a8, a9, a10] := by
  have step : ∀ (cs : Array Value) (W : World) (i : Nat) (v : Value), W = w.setRow g cs → W.setCell ⟨g, i, none⟩ v = w.setRow g (cs.setIfInBounds i v) := fun cs W i v h => by
    subst h
    rw [setCell_eq_setRow _ g i cs t (0, 0) v (setRow_heap w g _ cs t _ hg), setRow_setRow]
  have h0 := step _ w 0 a0 (setRow_self w g _ t _ hg).symm
  have h1 := step _ _ 1 a1 h0
  have h2 := step _ _ 2 a2 h1
  have h3 := step _ _ 3 a3 h2
  have h4 := step _ _ 4 a4 h3
  have h5 := step _ _ 5 a5 h4
  have h6 := step _ _ 6 a6 h5
  have h7 := step _ _ 7 a7 h6
  have h8 := step _ _ 8 a8 h7
  have h9 := step _ _ 9 a9 h8
  have h10 := step _ _ 10 a10 h9
  rw [h10]
  simp only [List.setIfInBounds_toArray, List.set_cons_zero, List.set_cons_succ]
end Go.Proofs.Ytmdmbnpgdkmklaa
