/- The ground of all proofs of this seat: radix nodes as plain trees ('Nd'), when a value stands for such a tree in a world ('IsN'), and that it stays so while old cells stay. -/
import Derived.Test.YtmdmbnpgdkmklaaRows
import Derived.WalkKit
import Derived.WalkSpells
import Derived.WalkLawsBesides
import Derived.Lib.Hide
namespace Go.Proofs.Ytmdmbnpgdkmklaa
open Go.RowKit

/-- A node of a radix tree: eight values, two tags, children. -/
inductive Nd where
  | mk (v : List Int) (t0 t1 : Int) (ks : List Nd)

def Nd.vs : Nd → List Int | .mk v _ _ _ => v
def Nd.t0 : Nd → Int | .mk _ t _ _ => t
def Nd.t1 : Nd → Int | .mk _ _ t _ => t
def Nd.ks : Nd → List Nd | .mk _ _ _ k => k

/-- The eleven cells of a node. -/
def ndCells (v : List Int) (t0 t1 : Int) (s : Value) : Array Value := (v.map (Value.int .i64) ++ [.int .i64 t0, .int .i64 t1, s]).toArray

/-- All cells that were there hold what they held. -/
def Keeps (w w' : World) : Prop := ∀ a v, w.cell? a = some v → w'.cell? a = some v

theorem Keeps.refl (w : World) : Keeps w w := fun _ _ h => h
theorem Keeps.trans {a b c : World} (h : Keeps a b) (k : Keeps b c) : Keeps a c := fun p v x => k p v (h p v x)
theorem Keeps.of_below {w w' : World} (h : Below w.heap.size w w') : Keeps w w' := fun a v hc => by
  rw [h.cell (p := a) (block_lt_of_cell hc)]; exact hc

def inI64 (x : Int) : Prop := -9223372036854775808 ≤ x ∧ x ≤ 9223372036854775807

/-- The row of n cells from address (b, o) on. -/
def RowAt (w : World) (b o : Nat) (cs : Array Value) : Prop := ∀ i (h : i < cs.size), w.cell? ⟨b, o + i, none⟩ = some cs[i]

theorem RowAt.keeps {w w' : World} {b o : Nat} {cs : Array Value} (h : RowAt w b o cs) (k : Keeps w w') : RowAt w' b o cs := fun i hi => k _ _ (h i hi)

/-- The cells 'cs' are a node that stands for the tree. -/
inductive IsN (w : World) : Nd → Array Value → Prop where
  | mk (v : List Int) (t0 t1 : Int) (ks : List Nd) (a : Option Addr) (b o cap : Nat) (f : Nat → Array Value)
      (hv : v.length = 8) (hvb : ∀ x ∈ v, inI64 x) (h0 : inI64 t0) (h1 : inI64 t1)
      (ha : ks ≠ [] → a = some ⟨b, o, none⟩) (hl : ks.length ≤ 9223372036854775807) (hcp : ks.length ≤ cap ∧ cap ≤ 9223372036854775807)
      (hf : ∀ i, i < ks.length → RowAt w b (o + i * 11) (f i))
      (hk : ∀ i (h : i < ks.length), IsN w ks[i] (f i)) :
      IsN w (.mk v t0 t1 ks) (ndCells v t0 t1 (.slice a ks.length cap))

theorem IsN.keeps {w w' : World} {n : Nd} {c : Array Value} (h : IsN w n c) (k : Keeps w w') : IsN w' n c := by
  induction h with
  | mk v t0 t1 ks a b o cap f hv hvb h0 h1 ha hl hcp hf hk ih => exact .mk v t0 t1 ks a b o cap f hv hvb h0 h1 ha hl hcp (fun i hi => (hf i hi).keeps k) ih

theorem list8 {α : Type} {l : List α} (h : l.length = 8) : ∃ a b c d e f g i, l = [a, b, c, d, e, f, g, i] := by
  match l, h with
  | [a, b, c, d, e, f, g, i], _ => exact ⟨a, b, c, d, e, f, g, i, rfl⟩

theorem size3 (w : World) : (sizeOf 3).run Try.prog w = .ok 1 w := by kernel_rfl
theorem part3 (w : World) (cs : Array Value) (i : Nat) (k : IntKind) (x : Int) (h : cs[i]? = some (.int k x)) : (part 3 cs i).run Try.prog w = .ok (.int k x) w := by
  unfold part
  simp [go_sem, h]
theorem eqLoop (w : World) (xs ys : List Int) (n : Nat) (hx : xs.length = n) (hy : ys.length = n) : ∀ (m i : Nat), i + m = n →
    (forIn (List.range' i m) ((none : Option Bool), ()) fun i (_ : Option Bool × Unit) => (do
                  let x ← part 3 (xs.map (Value.int .i64)).toArray (i * 1)
                  let y ← part 3 (ys.map (Value.int .i64)).toArray (i * 1)
                  let r ← Op.equalIn 9999 3 x y
                  if (!r) = true then pure (ForInStep.done (some false, ()))
                    else pure (ForInStep.yield (none, ())) : Sem (ForInStep (Option Bool × Unit)))).run Try.prog w = .ok (if xs.drop i == ys.drop i then (none, ()) else (some false, ())) w
  | 0, i, h => by
    simp [List.drop_of_length_le (show xs.length ≤ i by omega), List.drop_of_length_le (show ys.length ≤ i by omega)]
  | m + 1, i, h => by
    have hxi : i < xs.length := by omega
    have hyi : i < ys.length := by omega
    have px := part3 w (xs.map (Value.int .i64)).toArray (i * 1) .i64 xs[i] (by simp [hxi])
    have py := part3 w (ys.map (Value.int .i64)).toArray (i * 1) .i64 ys[i] (by simp [hyi])
    have e := run_equalIn_int (P := Try.prog) w 9998 3 .i64 .i64 xs[i] ys[i] Try.underlying3
    rw [List.range'_succ, List.forIn_cons, Sem.run_bind, Sem.run_bind, px]
    simp only [Result.andThen_ok, Sem.run_bind, py, e]
    have dx := List.drop_eq_getElem_cons hxi
    have dy := List.drop_eq_getElem_cons hyi
    have ih := eqLoop w xs ys n hx hy m (i + 1) (by omega)
    by_cases hq : xs[i] = ys[i]
    · simp only [hq, BEq.rfl, Bool.not_true, Bool.false_eq_true, if_false, Sem.run_pure, Result.andThen_ok, ih]
      rw [dx, dy, hq, List.cons_beq_cons, BEq.rfl, Bool.true_and]
    · have hq' : (xs[i] == ys[i]) = false := by simpa using hq
      rw [dx, dy, List.cons_beq_cons, hq']; simp
theorem eqlArr (w : World) (t : TypeId) (n : Nat) (ht : Try.prog.underlying t = some (.array n 3)) (xs ys : List Int) (hx : xs.length = n) (hy : ys.length = n) :
    (binOp .eql t (.agg (xs.map (Value.int .i64)).toArray) (.agg (ys.map (Value.int .i64)).toArray)).run Try.prog w = .ok (.bool (xs == ys)) w := by
  rw [run_eql_struct]
  rw [show (10000 : Nat) = 9999 + 1 from rfl, Op.equalIn]
  have h := eqLoop w xs ys n hx hy n 0 (by omega)
  simp only [Sem.run_bind, run_underlying ht, Result.andThen_ok, size3, Std.Legacy.Range.forIn_eq_forIn_range', Std.Legacy.Range.size, Nat.sub_zero, Nat.add_sub_cancel, Nat.div_one, h]
  simp only [List.drop_zero]
  by_cases e : (xs == ys) = true
  · simp [e]
  · simp [e]

end Go.Proofs.Ytmdmbnpgdkmklaa
