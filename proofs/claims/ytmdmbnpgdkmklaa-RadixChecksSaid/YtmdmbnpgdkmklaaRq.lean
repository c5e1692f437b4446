/- Words for regions that draw their order, walked once in a class of worlds: all worlds in which what there was stays. -/
import Derived.Test.YtmdmbnpgdkmklaaRd2
import Derived.Handy
import Derived.BigQuiet
namespace Go.Proofs.Ytmdmbnpgdkmklaa
open Go.RowKit
set_option linter.unusedVariables false
set_option linter.unusedSimpArgs false

/-- All worlds in which what there was in w0 stays, as the values of one function. -/
theorem world_class (w0 : World) : ∃ (ι : Type) (F : ι → World), (∀ i, Below w0.heap.size w0 (F i)) ∧ (∀ W, Below w0.heap.size w0 W → ∃ i, W = F i) :=
  ⟨{W : World // Below w0.heap.size w0 W}, Subtype.val, fun i => i.2, fun W h => ⟨⟨W, h⟩, rfl⟩⟩

theorem wp_region_class {ι : Type} (F : ι → World) {id : Nat} {Q : Exit → Act → World → Prop} {a : Act} {w : World} {l : List Oper} (hB : Region.lexB .any l.toArray = true) (hC : ∃ i, w.drew = F i)
    (h : wpQuiet Try.prog l.toArray (fun W => ∃ i, W = F i) (fun a' => ∀ w', (∃ i, w' = F i) → Q .normal a' w') l a) : (Code.region id l.toArray true).wp Try.prog Q a w :=
  wp_region_quiet (C := fun W => ∃ i, W = F i) (by kernel_rfl) hB hC (by simpa using h)

/-- A callee's contract, met in a world of the class. -/
theorem Calls.class_of {ι : Type} {F : ι → World} {w0 : World} (hF : Hid (∀ i, Below w0.heap.size w0 (F i))) (hG : Hid (∀ W, Below w0.heap.size w0 W → ∃ i, W = F i)) {f : FuncId} {args : Array Value} {i : ι} {v : Value}
    (h : Calls Try.prog f args (F i) fun e w' => e = .returned v ∧ Below (F i).heap.size (F i) w') : Calls Try.prog f args (F i) fun e w'' => e = .returned v ∧ ∃ j, w'' = F j :=
  h.mono fun _ w' ⟨he, hB⟩ => ⟨he, hG.out w' ((hF.out i).trans (hB.mono (hF.out i).size))⟩
theorem Calls.class_same {ι : Type} {F : ι → World} {f : FuncId} {args : Array Value} {i : ι} {v : Value}
    (h : Calls Try.prog f args (F i) fun e w' => e = .returned v ∧ F i = w') : Calls Try.prog f args (F i) fun e w'' => e = .returned v ∧ ∃ j, w'' = F j :=
  h.mono fun _ w' ⟨he, hB⟩ => ⟨he, i, hB.symm⟩

theorem arr11 {c : Array Value} (h : c.size = 11) : ∃ x0 x1 x2 x3 x4 x5 x6 x7 x8 x9 x10, c = #[x0, x1, x2, x3, x4, x5, x6, x7, x8, x9, x10] := by
  match c, h with
  | ⟨[x0, x1, x2, x3, x4, x5, x6, x7, x8, x9, x10]⟩, _ => exact ⟨x0, x1, x2, x3, x4, x5, x6, x7, x8, x9, x10, rfl⟩

/-- The eleven cells of a row that lies anywhere. -/
theorem row11 {w : World} {b o : Nat} {c0 c1 c2 c3 c4 c5 c6 c7 c8 c9 c10 : Value} (h : RowAt w b o #[c0, c1, c2, c3, c4, c5, c6, c7, c8, c9, c10]) :
    w.cell? ⟨b, o, none⟩ = some c0 ∧ w.cell? ⟨b, o + 1, none⟩ = some c1 ∧ w.cell? ⟨b, o + 2, none⟩ = some c2 ∧ w.cell? ⟨b, o + 3, none⟩ = some c3 ∧ w.cell? ⟨b, o + 4, none⟩ = some c4 ∧ w.cell? ⟨b, o + 5, none⟩ = some c5 ∧
    w.cell? ⟨b, o + 6, none⟩ = some c6 ∧ w.cell? ⟨b, o + 7, none⟩ = some c7 ∧ w.cell? ⟨b, o + 8, none⟩ = some c8 ∧ w.cell? ⟨b, o + 9, none⟩ = some c9 ∧ w.cell? ⟨b, o + 10, none⟩ = some c10 :=
  ⟨h 0 (by simp), h 1 (by simp), h 2 (by simp), h 3 (by simp), h 4 (by simp), h 5 (by simp), h 6 (by simp), h 7 (by simp), h 8 (by simp), h 9 (by simp), h 10 (by simp)⟩

/-- A node's cells, written out. -/
theorem IsN.lit {w : World} {n : Nd} {c : Array Value} (h : IsN w n c) : ∃ (a0 a1 a2 a3 a4 a5 a6 a7 : Int) (p : Option Addr) (len cap : Nat),
    c = #[.int .i64 a0, .int .i64 a1, .int .i64 a2, .int .i64 a3, .int .i64 a4, .int .i64 a5, .int .i64 a6, .int .i64 a7, .int .i64 n.t0, .int .i64 n.t1, .slice p len cap] := by
  cases h with
  | mk v t0 t1 ks a b o cap f hv hvb h0 h1 haa hl hcp hf hk =>
    obtain ⟨v0, v1, v2, v3, v4, v5, v6, v7, rfl⟩ := list8 hv
    exact ⟨v0, v1, v2, v3, v4, v5, v6, v7, a, ks.length, cap, rfl⟩

theorem load26 {w : World} {g : Nat} {t : TypeId} {cs : Array Value} {fr : Nat × Nat} (hg : w.heap[g]? = some (.cells cs t fr)) (hs : cs.size = 11) : (loadVar 26 ⟨g, 0, none⟩).run Try.prog w = .ok (.agg cs) w :=
  run_loadVar_row w g t 26 cs fr _ hg Try.underlying26 rfl (by rw [hs]; kernel_rfl)
theorem load28 {w : World} {g : Nat} {t : TypeId} {cs : Array Value} {fr : Nat × Nat} (hg : w.heap[g]? = some (.cells cs t fr)) (hs : cs.size = 12) : (loadVar 28 ⟨g, 0, none⟩).run Try.prog w = .ok (.agg cs) w :=
  run_loadVar_row w g t 28 cs fr _ hg Try.underlying28 rfl (by rw [hs]; kernel_rfl)

/-- Two results, the first of them a struct in a variable of its own. -/
theorem results_cell_tmp {fn : Func} {p q : Tmp} {ty : TypeId} (h : fn.results = #[.cell p ty, .tmp q]) (tmps : Array Value) (w : World) (g : Nat) (v : Value)
    (hp : tmps.getD p undef = .pointer (some ⟨g, 0, none⟩)) (hl : (loadVar ty ⟨g, 0, none⟩).run Try.prog w = .ok v w) :
    (results fn tmps).run Try.prog w = .ok (.tuple #[v, tmps.getD q undef]) w := by
  have hp' : tmps[p]?.getD undef = .pointer (some ⟨g, 0, none⟩) := by simpa using hp
  simp [results, h, hp', asAddr, hl]

theorem results_cell {fn : Func} {p : Tmp} {ty : TypeId} (h : fn.results = #[.cell p ty]) (tmps : Array Value) (w : World) (g : Nat) (v : Value)
    (hp : tmps.getD p undef = .pointer (some ⟨g, 0, none⟩)) (hl : (loadVar ty ⟨g, 0, none⟩).run Try.prog w = .ok v w) :
    (results fn tmps).run Try.prog w = .ok v w := by
  have hp' : tmps[p]?.getD undef = .pointer (some ⟨g, 0, none⟩) := by simpa using hp
  simp [results, h, hp', asAddr, hl]

theorem size26 : (Try.prog.info? 26).map (·.size) = some 11 := by kernel_rfl
theorem size28 : (Try.prog.info? 28).map (·.size) = some 12 := by kernel_rfl

theorem IsN.one {w : World} {n : Nd} {c : Array Value} (h : IsN w n c) : c.all (·.oneCell') = true := by
  obtain ⟨x0, x1, x2, x3, x4, x5, x6, x7, xp, xl, xc, rfl⟩ := h.lit
  simp [Value.oneCell']

/-- A node stored whole into a variable of its own. -/
theorem wpList_store_nd {ops : Array Oper} {rest : List Oper} {o : Oper} {a : Act} {w : World} {Q : Exit → Act → World → Prop} (hgd : o.guard = none) (x y : Operand) (ho : o.op = .store 26 x y)
    (g : Nat) (cells : Array Value) (hx : a.eval x = .pointer (some ⟨g, 0, none⟩)) (hy : a.eval y = .agg cells) (hs : cells.size = 11) (h1 : cells.all (·.oneCell') = true)
    (t : TypeId) (old : Array Value) (hg : w.heap[g]? = some (.cells old t (0, 0))) (hold : old.size = 11)
    (h : wpList Try.prog ops Q rest (a.put o.dst undef) (w.setRow g cells)) : wpList Try.prog ops Q (o :: rest) a w :=
  wpList_store_row hgd 26 x y ho g cells hx hy t old hg (by rw [hs]; exact size26) (by rw [hs]; exact hold) h1 h

theorem zero_one : (#[Value.int .i64 0, .int .i64 0, .int .i64 0, .int .i64 0, .int .i64 0, .int .i64 0, .int .i64 0, .int .i64 0, .int .i64 0, .int .i64 0, .slice none 0 0] : Array Value).all (·.oneCell') = true := by
  simp [Value.oneCell']

theorem Below.putRow {B g : Nat} {w0 w : World} (hb : Below B w0 w) (hg : B ≤ g) (cs : Array Value) : Below B w0 (w.setRow g cs) :=
  hb.trans ⟨rfl, rfl, rfl, by simp, fun k hk => setRow_other w g k cs (by omega)⟩

theorem setCells11 {w : World} {g : Nat} {t : TypeId} {o0 o1 o2 o3 o4 o5 o6 o7 o8 o9 o10 : Value} (hg : w.heap[g]? = some (.cells #[o0, o1, o2, o3, o4, o5, o6, o7, o8, o9, o10] t (0, 0))) (a0 a1 a2 a3 a4 a5 a6 a7 a8 a9 a10 : Value) :
    (((((((((((w.setCell ⟨g, 0, none⟩ a0).setCell ⟨g, 1, none⟩ a1).setCell ⟨g, 2, none⟩ a2).setCell ⟨g, 3, none⟩ a3).setCell ⟨g, 4, none⟩ a4).setCell ⟨g, 5, none⟩ a5).setCell ⟨g, 6, none⟩ a6).setCell ⟨g, 7, none⟩ a7).setCell ⟨g, 8, none⟩ a8).setCell ⟨g, 9, none⟩ a9).setCell ⟨g, 10, none⟩ a10) =
      w.setRow g #[a0, a1, a2, a3, a4, a5, a6, a7, a8, a9, a10] := by
  have step : ∀ (cs : Array Value) (W : World) (i : Nat) (v : Value), W = w.setRow g cs → W.setCell ⟨g, i, none⟩ v = w.setRow g (cs.setIfInBounds i v) := fun cs W i v h => by
    subst h
    rw [setCell_eq_setRow _ g i cs t (0, 0) v (setRow_heap w g _ cs t _ hg), setRow_setRow]
  have h0 := step _ w 0 a0 (setRow_self w g _ t _ hg).symm
  have h1 := step _ _ 1 a1 h0
  have h2 := step _ _ 2 a2 h1
  have h3 := step _ _ 3 a3 h2
  have h4 := step _ _ 4 a4 h3
  have h5 := step _ _ 5 a5 h4
  have h6 := step _ _ 6 a6 h5
  have h7 := step _ _ 7 a7 h6
  have h8 := step _ _ 8 a8 h7
  have h9 := step _ _ 9 a9 h8
  have h10 := step _ _ 10 a10 h9
  rw [h10]
  simp only [List.setIfInBounds_toArray, List.set_cons_zero, List.set_cons_succ]
end Go.Proofs.Ytmdmbnpgdkmklaa
