/- update, a whole tree in a box, shrink, the node above the root. -/
import Derived.Test.YtmdmbnpgdkmklaaSd
import Derived.Test.YtmdmbnpgdkmklaaSc
import Derived.Deep.Cut
import Derived.Test.YtmdmbnpgdkmklaaSb
import Derived.Test.YtmdmbnpgdkmklaaSa
namespace Go.Proofs.Ytmdmbnpgdkmklaa
open Go.RowKit
set_option linter.unusedVariables false
set_option linter.unusedSimpArgs false

def Nd.upd (chg : Nd → Nat → Nd) : Nat → Nd → Nat → Nd
  | 0, n, i => chg n (dig i 0)
  | l + 1, n, i =>
    let ks := if n.ks = [] then List.replicate 8 Nd.zero else n.ks
    let k := Nd.upd chg l (ks.getD (dig i (l + 1)) Nd.zero) i
    let k := if k.emp = true then Nd.zero else k
    .mk n.vs (tset n.t0 (dig i (l + 1)) (k.t0 != 0)) (tset n.t1 (dig i (l + 1)) (k.t1 != 0)) (ks.set (dig i (l + 1)) k)

/-- Inner nodes have none or eight children. -/
def Nd.fit : Nat → Nd → Prop
  | 0, _ => True
  | l + 1, n => n.ks = [] ∨ (n.ks.length = 8 ∧ ∀ k ∈ n.ks, Nd.fit l k)

theorem fit_zero : ∀ l, Nd.zero.fit l
  | 0 => trivial
  | l + 1 => .inl rfl

def finNd (chg : Nd → Nat → Nd) (l : Nat) (v : List Int) (t0 t1 : Int) (ks : List Nd) (d i : Nat) : Nd :=
  let k := Nd.upd chg l (ks.getD d Nd.zero) i
  let k := if k.emp = true then Nd.zero else k
  .mk v (tset t0 d (k.t0 != 0)) (tset t1 d (k.t1 != 0)) (ks.set d k)

theorem fin_false {chg : Nd → Nat → Nd} {l : Nat} {v : List Int} {t0 t1 : Int} {ks : List Nd} {d i : Nat} {k1 : Nd} (hd : d < ks.length) (h1 : k1 = (ks[d]).upd chg l i) (he : false = k1.emp) :
    finNd chg l v t0 t1 ks d i = .mk v (tset t0 d (k1.t0 != 0)) (tset t1 d (k1.t1 != 0)) (ks.set d k1) := by
  have hg : ks.getD d Nd.zero = ks[d] := by simp [List.getD, hd]
  have e : (if ((ks.getD d Nd.zero).upd chg l i).emp = true then Nd.zero else (ks.getD d Nd.zero).upd chg l i) = k1 := by rw [hg, ← h1, ← he]; rfl
  exact congrArg (fun k : Nd => Nd.mk v (tset t0 d (k.t0 != 0)) (tset t1 d (k.t1 != 0)) (ks.set d k)) e
theorem fin_true {chg : Nd → Nat → Nd} {l : Nat} {v : List Int} {t0 t1 : Int} {ks : List Nd} {d i : Nat} {k1 : Nd} (hd : d < ks.length) (h1 : k1 = (ks[d]).upd chg l i) (he : true = k1.emp) :
    finNd chg l v t0 t1 ks d i = .mk v (tset t0 d (Nd.zero.t0 != 0)) (tset t1 d (Nd.zero.t1 != 0)) (ks.set d Nd.zero) := by
  have hg : ks.getD d Nd.zero = ks[d] := by simp [List.getD, hd]
  have e : (if ((ks.getD d Nd.zero).upd chg l i).emp = true then Nd.zero else (ks.getD d Nd.zero).upd chg l i) = Nd.zero := by rw [hg, ← h1, ← he]; rfl
  exact congrArg (fun k : Nd => Nd.mk v (tset t0 d (k.t0 != 0)) (tset t1 d (k.t1 != 0)) (ks.set d k)) e

theorem NodeAt.cellNil {w : World} {b o : Nat} {ty : TypeId} {v : List Int} {t0 t1 : Int} {S : Nat → Prop} (h : NodeAt w b o ty (.mk v t0 t1 []) S) : w.cell? ⟨b, o + 10, none⟩ = some (.slice none 0 0) := by
  obtain ⟨cur, c, hg, hr, ho, hn⟩ := h
  cases ho with
  | leaf _ _ _ hv8 _ _ _ =>
    obtain ⟨v0, v1, v2, v3, v4, v5, v6, v7, rfl⟩ := list8 hv8
    exact hr 10 (by simp [ndCells])
  | node _ _ _ _ _ _ _ _ _ _ _ _ _ hne => exact absurd rfl hne

theorem setCell_alloc_comm (W : World) (a : Addr) (v : Value) (x : Obj) (h : a.block < W.heap.size) : (W.setCell a v).alloc x = (W.alloc x).setCell a v := by
  unfold World.setCell World.alloc
  simp only
  congr 1
  apply Array.ext_getElem?
  intro i
  simp only [Array.getElem?_push, Array.getElem?_modify, Array.size_modify]
  by_cases e : i = W.heap.size
  · subst e
    rw [if_pos rfl, if_neg (by omega), if_pos rfl]
  · rw [if_neg e, if_neg e]

theorem wpList_store_zero {ops : Array Oper} {rest : List Oper} {op : Oper} {a : Act} {w : World} {Q : Exit → Act → World → Prop} (hgd : op.guard = none) (ho : op.op = .store 26 (.tmp 53) (.tmp 52))
    (b o : Nat) (hx : a.eval (.tmp 53) = .pointer (some ⟨b, o, none⟩)) (hy : a.eval (.tmp 52) = .agg #[.int .i64 0, .int .i64 0, .int .i64 0, .int .i64 0, .int .i64 0, .int .i64 0, .int .i64 0, .int .i64 0, .int .i64 0, .int .i64 0, .slice none 0 0])
    (ht : w.there b o 11) (h : wpList Try.prog ops Q rest (a.put op.dst undef) (w.setCells b o zeroNd.toList)) : wpList Try.prog ops Q (op :: rest) a w :=
  wpList_store_mid hgd 26 (.tmp 53) (.tmp 52) ho b o zeroNd hx hy ht size26 zero_one h

/-- What update leaves. -/
def Updated (b o : Nat) (ty : TypeId) (n' : Nd) (S : Nat → Prop) (W : World) (e : Ending) (W' : World) : Prop :=
  e = .returned (.tuple #[]) ∧ Turned b o S W W' ∧ ∃ S', NodeAt W' b o ty n' S' ∧ ∀ k, S' k → S k ∨ W.heap.size ≤ k

theorem updated_end {W W1 w4 w5 : World} {b o : Nat} {ty : TypeId} {n n' : Nd} {S S1 S4 : Nat → Prop} (hT1 : Turned b o S W W1) (hS1 : ∀ k, S1 k → S k ∨ W.heap.size ≤ k) (hTb : Turned b o S1 W1 w4) (hS4 : ∀ k, S4 k → S1 k ∨ W1.heap.size ≤ k)
    (hT5 : Turned b o (fun _ => False) w4 w5) (hN5 : NodeAt w5 b o ty n S4) (he : n' = n) : Updated b o ty n' S W (.returned (.tuple #[])) w5 := by
  subst he
  refine ⟨rfl, (hT1.trans hTb hS1).trans hT5 (fun k hk => hk.elim), S4, hN5, fun k hk => ?_⟩
  rcases hS4 k hk with q | q
  · exact hS1 k q
  · have := hT1.size; exact .inr (by omega)

set_option maxRecDepth 100000 in
set_option maxHeartbeats 4000000 in
theorem update_zero {fid : Nat} {capt : Array Value} {K : Nat → Prop} {C : World → Prop} {chg : Nd → Nat → Nd} (hchg : Changes fid capt K C chg) (hC : ∀ W W', (∀ k, K k → W'.heap[k]? = W.heap[k]?) → C W → C W') (hf : fid = 75 ∨ fid = 107)
    (W : World) (b o : Nat) (ty : TypeId) (n : Nd) (S : Nat → Prop) (i : Nat) (hi : i ≤ 1073741824) (hCW : C W) (hKb : ¬ K b) (hK : ∀ k, K k → k < W.heap.size) (h : NodeAt W b o ty n S) :
    Calls Try.prog 74 #[.pointer (some ⟨b, o, none⟩), .int .i64 1, .int .i64 i, .func (.func fid) #[] capt] W fun e W' => Updated b o ty (n.upd chg 0 i) S W e W' := by
  obtain ⟨post, hpost⟩ : ∃ post : Ending → World → Prop, post = fun e W' => Updated b o ty (n.upd chg 0 i) S W e W' := ⟨_, rfl⟩
  have HP : Hid (∀ e W', Updated b o ty (n.upd chg 0 i) S W e W' → post e W') := Lib.hid (by rw [hpost]; exact fun e W' a => a)
  rw [← hpost]
  clear hpost
  have hdig := digit_spec i 0 hi (by omega)
  have hcall := fun (W : World) (h : NodeAt W b o ty n S) (hCW : C W) => hchg W b o ty n S (dig i 0) (dig_lt _ _) hCW hKb h
  obtain ⟨d, hd⟩ : ∃ d, d = dig i 0 := ⟨_, rfl⟩
  rw [← hd] at hdig hcall
  rw [show (((0 : Nat) : Int) + 1) = 1 from rfl] at hdig
  have Hdig := Lib.hid hdig
  have Hd := Lib.hid hd
  have Hcall := Lib.hid (hcall W h hCW)
  clear hdig hcall hd h hCW hchg hC
  rcases hf with rfl | rfl
  · go_enter Try.func74, Try.ntmps74
    go_wp2_with fail
    (with_reducible refine (Hdig.out W).mono ?_)
    rintro e w' ⟨rfl, rfl⟩
    go_wp2_with fail
    (with_reducible refine Hcall.out.mono ?_)
    rintro e w2 ⟨rfl, hN2, hT2⟩
    have hfin := HP.out (.returned (.tuple #[])) w2 ⟨rfl, hT2.mono (fun _ h => h.elim), S, by rw [Nd.upd, ← Hd.out]; exact hN2, fun k hk => .inl hk⟩
    have Hfin := Lib.hid hfin
    clear hN2 hT2 hfin
    go_wp2_with fail
    exact bodyPost_ret (results_none rfl _ _ _) rfl Hfin.out
  · go_enter Try.func74, Try.ntmps74
    go_wp2_with fail
    (with_reducible refine (Hdig.out W).mono ?_)
    rintro e w' ⟨rfl, rfl⟩
    go_wp2_with fail
    (with_reducible refine Hcall.out.mono ?_)
    rintro e w2 ⟨rfl, hN2, hT2⟩
    have hfin := HP.out (.returned (.tuple #[])) w2 ⟨rfl, hT2.mono (fun _ h => h.elim), S, by rw [Nd.upd, ← Hd.out]; exact hN2, fun k hk => .inl hk⟩
    have Hfin := Lib.hid hfin
    clear hN2 hT2 hfin
    go_wp2_with fail
    exact bodyPost_ret (results_none rfl _ _ _) rfl Hfin.out

set_option maxRecDepth 100000 in
set_option maxHeartbeats 4000000 in
theorem update_succ {fid : Nat} {capt : Array Value} {K : Nat → Prop} {C : World → Prop} {chg : Nd → Nat → Nd} (hC : ∀ W W', (∀ k, K k → W'.heap[k]? = W.heap[k]?) → C W → C W') (l : Nat) (hl : l ≤ 8) (i : Nat) (hi : i ≤ 1073741824)
    (ih : ∀ (W : World) (b o : Nat) (ty : TypeId) (n : Nd) (S : Nat → Prop), C W → ¬ K b → (∀ k, K k → ¬ S k) → (∀ k, K k → k < W.heap.size) → n.fit l → NodeAt W b o ty n S →
      Calls Try.prog 74 #[.pointer (some ⟨b, o, none⟩), .int .i64 ((l : Int) + 1), .int .i64 i, .func (.func fid) #[] capt] W fun e W' => Updated b o ty (n.upd chg l i) S W e W')
    (W : World) (b o : Nat) (ty : TypeId) (n : Nd) (S : Nat → Prop) (hCW : C W) (hKb : ¬ K b) (hKS : ∀ k, K k → ¬ S k) (hK : ∀ k, K k → k < W.heap.size) (hfit : n.fit (l + 1)) (h : NodeAt W b o ty n S) :
    Calls Try.prog 74 #[.pointer (some ⟨b, o, none⟩), .int .i64 ((l : Int) + 2), .int .i64 i, .func (.func fid) #[] capt] W fun e W' => Updated b o ty (n.upd chg (l + 1) i) S W e W' := by
  obtain ⟨post, hpost⟩ : ∃ post : Ending → World → Prop, post = fun e W' => Updated b o ty (n.upd chg (l + 1) i) S W e W' := ⟨_, rfl⟩
  have HP : Hid (∀ e W', Updated b o ty (n.upd chg (l + 1) i) S W e W' → post e W') := Lib.hid (by rw [hpost]; exact fun e W' a => a)
  rw [← hpost]
  clear hpost
  obtain ⟨v, t0, t1, ks⟩ := n
  have hdig := digit_spec i (l + 1) hi (by omega)
  obtain ⟨d, hd⟩ : ∃ d, d = dig i (l + 1) := ⟨_, rfl⟩
  rw [← hd] at hdig
  have hd8 : d < 8 := by rw [hd]; exact dig_lt _ _
  have Hd := Lib.hid hd
  obtain ⟨L, hL⟩ : ∃ L : Int, L = (l : Int) + 2 := ⟨_, rfl⟩
  rw [show (((l + 1 : Nat) : Int) + 1) = (l : Int) + 2 by omega, ← hL] at hdig
  rw [← hL]
  have hL1 : 2 ≤ L := by omega
  have hL2 : L ≤ 10 := by omega
  have Hdig := Lib.hid hdig
  have HL := Lib.hid hL
  have Ih := Lib.hid ih
  have Hfit := Lib.hid hfit
  have H := Lib.hid h
  have HC := Lib.hid hC
  have HKS := Lib.hid hKS
  have HK := Lib.hid hK
  clear hdig hd hL ih hfit h hC hKS hK
  by_cases hks : ks = []
  · subst hks
    have HUP : Nd.upd chg (l + 1) (.mk v t0 t1 []) i = finNd chg l v t0 t1 (List.replicate 8 Nd.zero) d i := by rw [Hd.out]; rfl
    obtain ⟨⟨S1, hN1, hS1'⟩, hT1⟩ := H.out.grow
    have hS1 : ∀ k, S1 k → S k ∨ W.heap.size ≤ k := fun k hk => .inr (hS1' k hk)
    have hc10 : W.cell? ⟨b, o + 10, none⟩ = some (.slice none 0 0) := H.out.cellNil
    have hf10 := H.out.frozen (o + 10)
    have hblt := H.out.lt
    have hneb : b ≠ W.heap.size := by omega
    have hmk := make8
    go_enter Try.func74, Try.ntmps74
    go_wp2_with fail
    (with_reducible refine (Hdig.out W).mono ?_)
    rintro e w' ⟨rfl, rfl⟩
    go_upto_region 5 with fail
    obtain ⟨W1, hW1⟩ : ∃ W1, W1 = ((W.alloc (.cells zeros8 26)).setCell ⟨b, o + 10, none⟩ (.slice (some ⟨W.heap.size, 0, none⟩) 8 8)) := ⟨_, rfl⟩
    rw [← hW1] at hN1 hT1
    rw [show (W.setCell ⟨b, o + 10, none⟩ (.slice (some ⟨W.heap.size, 0, none⟩) 8 8)).alloc (.cells zeros8 26) = W1 by rw [hW1]; exact setCell_alloc_comm _ _ _ _ hblt]
    clear hc10 hf10 hmk hW1 hS1'
    obtain ⟨ks1, hks1⟩ : ∃ ks1, ks1 = List.replicate 8 Nd.zero := ⟨_, rfl⟩
    have hl1 : ks1.length = 8 := by rw [hks1]; rfl
    have hf1 : ∀ k ∈ ks1, k.fit l := by rw [hks1]; intro k hk; rw [List.eq_of_mem_replicate hk]; exact fit_zero l
    rw [← hks1] at hN1 HUP
    clear hks1
    have hfd : ks1.length = 8 := hl1
    have hd1 : d < ks1.length := by omega
    obtain ⟨bk, cap, T, hc10, hbbk, hSbk, hTS, hNk, hre⟩ := hN1.child d hd1
    rw [hfd] at hc10
    have hC1 : C W1 := HC.out W W1 (fun k hk => hT1.block k (HK.out k hk) (fun e => hKb (e ▸ hk)) (HKS.out k hk)) hCW
    have hKS1 : ∀ k, K k → ¬ S1 k := fun k hk hs => by
      rcases hS1 k hs with q | q
      · exact HKS.out k hk q
      · have := HK.out k hk; omega
    have hcall := Ih.out W1 bk (d * 11) 26 ks1[d] T hC1 (fun hk => hKS1 bk hk hSbk) (fun k hk ht => hKS1 k hk (hTS k ht)) (fun k hk => Nat.lt_of_lt_of_le (HK.out k hk) hT1.size) (hf1 _ (List.getElem_mem hd1)) hNk
    rw [show (l : Int) + 1 = L - 1 by rw [HL.out]; omega] at hcall
    obtain ⟨k1, hk1⟩ : ∃ k1, k1 = (ks1[d]).upd chg l i := ⟨_, rfl⟩
    rw [← hk1] at hcall
    have Hk1 := Lib.hid hk1
    have Hcall := Lib.hid hcall
    have Hre := Lib.hid hre
    have HT1 := Lib.hid hT1
    have HS1 := Lib.hid hS1
    clear hk1 hcall hre hT1 hS1 hC1 hKS1 hN1 hNk hf1 hSbk hTS
    go_wp2_with fail
    (with_reducible refine Hcall.out.mono ?_)
    rintro e w2 ⟨rfl, hT2, T2, hN2, hT2'⟩
    obtain ⟨hc2, -, -⟩ := Hre.out w2 k1 T2 hN2 hT2 hT2'
    rw [hfd] at hc2
    obtain ⟨cur2, c2, hg2, hr2, ho2, hn2⟩ := hN2
    have hs2 := ho2.size
    have hemp := empty_spec ho2.isN w2 (Keeps.refl _)
    have Hr2 := Lib.hid hr2
    have Hemp := Lib.hid hemp
    have HN2 : Hid (NodeAt w2 bk (d * 11) 26 k1 T2) := Lib.hid ⟨cur2, c2, hg2, hr2, ho2, hn2⟩
    have HT2 := Lib.hid hT2
    have HT2' := Lib.hid hT2'
    obtain ⟨em, hem⟩ : ∃ em, em = k1.emp := ⟨_, rfl⟩
    have Hem := Lib.hid hem
    clear hg2 hr2 ho2 hn2 hemp hT2 hT2' hem hc10
    go_wp2_with (first | (refine wpList_load_nd (.tmp 44) rfl rfl bk (d * 11) rfl c2 hs2 Hr2.out ?_))
    (with_reducible refine Hemp.out.mono ?_)
    rw [← Hem.out]
    rintro e w3 ⟨rfl, hB3⟩
    have hN3 : NodeAt w3 bk (d * 11) 26 k1 T2 := HN2.out.kept (hB3.block _ HN2.out.lt) (fun k hk => by obtain ⟨_, _, _, _, ho, _⟩ := HN2.out; exact hB3.block k (ho.lt k hk))
    have hT3 : Turned bk (d * 11) T W1 w3 := HT2.out.trans (Turned.below (S := fun _ => False) hB3 HN2.out.lt) (fun k hk => hk.elim)
    cases em with
    | false =>
      obtain ⟨hc3, hTb, S4, hN4, hS4⟩ := Hre.out w3 k1 T2 hN3 hT3 HT2'.out
      have hrf := refresh_spec hN4 (by simp [hfd]) d hd8 k1 (by rw [List.getElem?_set_self hd1])
      have Hrf := Lib.hid hrf
      have HTb := Lib.hid hTb
      have HS4 := Lib.hid hS4
      clear hN4 hrf hTb hS4 hc3 hN3 hT3 hB3
      go_wp2_with fail
      (with_reducible refine Hrf.out.mono ?_)
      rintro e w5 ⟨rfl, hN5, hT5⟩
      have hfin := HP.out (.returned (.tuple #[])) w5 (updated_end HT1.out HS1.out HTb.out HS4.out hT5 hN5 (by rw [HUP]; exact fin_false hd1 Hk1.out Hem.out))
      have Hfin := Lib.hid hfin
      clear hfin hN5 hT5
      go_wp2_with fail
      exact bodyPost_end (results_none rfl _ _ _) rfl Hfin.out
    | true =>
      have hc3 : w3.cell? ⟨b, o + 10, none⟩ = some (.slice (some ⟨bk, 0, none⟩) 8 cap) := (Keeps.of_below hB3) _ _ hc2
      have hth := hN3.there
      obtain ⟨hN4, hT4⟩ := hN3.over (T := fun _ => False) (owns_zero w3) (fun h => h)
      have hT4' : Turned bk (d * 11) T W1 _ := hT3.trans hT4 (fun k hk => hk.elim)
      obtain ⟨-, hTb, S4, hN5, hS4⟩ := Hre.out _ Nd.zero (fun _ => False) hN4 hT4' (fun k hk => hk.elim)
      obtain ⟨w4, hw4⟩ : ∃ w4, w4 = w3.setCells bk (d * 11) zeroNd.toList := ⟨_, rfl⟩
      rw [← hw4] at hTb hN5
      have hrf := refresh_spec hN5 (by simp [hfd]) d hd8 Nd.zero (by rw [List.getElem?_set_self hd1])
      have Hrf := Lib.hid hrf
      have HTb := Lib.hid hTb
      have HS4 := Lib.hid hS4
      have Hw4 := Lib.hid hw4
      have Hth := Lib.hid hth
      clear hN4 hT4 hT4' hrf hTb hS4 hN3 hT3 hB3 hN5 hw4 hc2 hth
      go_wp2_with (first | (refine wpList_store_zero (by rfl) (by rfl) bk (d * 11) (by rfl) (by rfl) (by with_reducible exact Hth.out) ?_))
      rw [← Hw4.out]
      (with_reducible refine Hrf.out.mono ?_)
      rintro e w5 ⟨rfl, hN5, hT5⟩
      have hfin := HP.out (.returned (.tuple #[])) w5 (updated_end HT1.out HS1.out HTb.out HS4.out hT5 hN5 (by rw [HUP]; exact fin_true hd1 Hk1.out Hem.out))
      have Hfin := Lib.hid hfin
      clear hfin hN5 hT5
      go_wp2_with fail
      exact bodyPost_end (results_none rfl _ _ _) rfl Hfin.out
  · have hfit := Hfit.out
    have hf2 : ks.length = 8 ∧ ∀ k ∈ ks, k.fit l := by
      rcases hfit with q | q
      · exact absurd q hks
      · exact q
    have HUP : Nd.upd chg (l + 1) (.mk v t0 t1 ks) i = finNd chg l v t0 t1 ks d i := by
      have : (if (Nd.mk v t0 t1 ks).ks = [] then List.replicate 8 Nd.zero else (Nd.mk v t0 t1 ks).ks) = ks := if_neg hks
      rw [Hd.out]
      unfold Nd.upd finNd
      rw [this]
      rfl
    obtain ⟨ks1, hks1⟩ : ∃ ks1, ks1 = ks := ⟨_, rfl⟩
    obtain ⟨W1, hW1⟩ : ∃ W1, W1 = W := ⟨_, rfl⟩
    have hN1 : NodeAt W1 b o ty (.mk v t0 t1 ks1) S := by rw [hks1, hW1]; exact H.out
    have hT1 : Turned b o S W W1 := by rw [hW1]; exact Turned.refl _ _ _ _
    obtain ⟨S1, hS1e⟩ : ∃ S1, S1 = S := ⟨_, rfl⟩
    rw [← hS1e] at hN1
    have hS1 : ∀ k, S1 k → S k ∨ W.heap.size ≤ k := fun k hk => .inl (hS1e ▸ hk)
    have hl1 : ks1.length = 8 := by rw [hks1]; exact hf2.1
    have hf1 : ∀ k ∈ ks1, k.fit l := by rw [hks1]; exact hf2.2
    replace HUP : Nd.upd chg (l + 1) (.mk v t0 t1 ks) i = finNd chg l v t0 t1 ks1 d i := by rw [hks1]; exact HUP
    have HW1 := Lib.hid hW1
    clear hfit hf2 hks1 hS1e hW1
    have hfd : ks1.length = 8 := hl1
    have hd1 : d < ks1.length := by omega
    obtain ⟨bk, cap, T, hc10, hbbk, hSbk, hTS, hNk, hre⟩ := hN1.child d hd1
    rw [hfd] at hc10
    have hC1 : C W1 := HC.out W W1 (fun k hk => hT1.block k (HK.out k hk) (fun e => hKb (e ▸ hk)) (HKS.out k hk)) hCW
    have hKS1 : ∀ k, K k → ¬ S1 k := fun k hk hs => by
      rcases hS1 k hs with q | q
      · exact HKS.out k hk q
      · have := HK.out k hk; omega
    have hcall := Ih.out W1 bk (d * 11) 26 ks1[d] T hC1 (fun hk => hKS1 bk hk hSbk) (fun k hk ht => hKS1 k hk (hTS k ht)) (fun k hk => Nat.lt_of_lt_of_le (HK.out k hk) hT1.size) (hf1 _ (List.getElem_mem hd1)) hNk
    rw [show (l : Int) + 1 = L - 1 by rw [HL.out]; omega] at hcall
    obtain ⟨k1, hk1⟩ : ∃ k1, k1 = (ks1[d]).upd chg l i := ⟨_, rfl⟩
    rw [← hk1] at hcall
    have Hk1 := Lib.hid hk1
    have Hcall := Lib.hid hcall
    have Hre := Lib.hid hre
    have HT1 := Lib.hid hT1
    have HS1 := Lib.hid hS1
    clear hk1 hcall hre hT1 hS1 hC1 hKS1 hN1 hNk hf1 hSbk hTS
    have hLne : (L == 1) = false := by simp; omega
    rw [← HW1.out]
    go_enter Try.func74, Try.ntmps74
    go_wp2_with fail
    (with_reducible refine (Hdig.out W1).mono ?_)
    rintro e w' ⟨rfl, rfl⟩
    go_wp2_with fail
    (with_reducible refine Hcall.out.mono ?_)
    rintro e w2 ⟨rfl, hT2, T2, hN2, hT2'⟩
    obtain ⟨hc2, -, -⟩ := Hre.out w2 k1 T2 hN2 hT2 hT2'
    rw [hfd] at hc2
    obtain ⟨cur2, c2, hg2, hr2, ho2, hn2⟩ := hN2
    have hs2 := ho2.size
    have hemp := empty_spec ho2.isN w2 (Keeps.refl _)
    have Hr2 := Lib.hid hr2
    have Hemp := Lib.hid hemp
    have HN2 : Hid (NodeAt w2 bk (d * 11) 26 k1 T2) := Lib.hid ⟨cur2, c2, hg2, hr2, ho2, hn2⟩
    have HT2 := Lib.hid hT2
    have HT2' := Lib.hid hT2'
    obtain ⟨em, hem⟩ : ∃ em, em = k1.emp := ⟨_, rfl⟩
    have Hem := Lib.hid hem
    clear hg2 hr2 ho2 hn2 hemp hT2 hT2' hem hc10
    go_wp2_with (first | (refine wpList_load_nd (.tmp 44) rfl rfl bk (d * 11) rfl c2 hs2 Hr2.out ?_))
    (with_reducible refine Hemp.out.mono ?_)
    rw [← Hem.out]
    rintro e w3 ⟨rfl, hB3⟩
    have hN3 : NodeAt w3 bk (d * 11) 26 k1 T2 := HN2.out.kept (hB3.block _ HN2.out.lt) (fun k hk => by obtain ⟨_, _, _, _, ho, _⟩ := HN2.out; exact hB3.block k (ho.lt k hk))
    have hT3 : Turned bk (d * 11) T W1 w3 := HT2.out.trans (Turned.below (S := fun _ => False) hB3 HN2.out.lt) (fun k hk => hk.elim)
    cases em with
    | false =>
      obtain ⟨hc3, hTb, S4, hN4, hS4⟩ := Hre.out w3 k1 T2 hN3 hT3 HT2'.out
      have hrf := refresh_spec hN4 (by simp [hfd]) d hd8 k1 (by rw [List.getElem?_set_self hd1])
      have Hrf := Lib.hid hrf
      have HTb := Lib.hid hTb
      have HS4 := Lib.hid hS4
      clear hN4 hrf hTb hS4 hc3 hN3 hT3 hB3
      go_wp2_with fail
      (with_reducible refine Hrf.out.mono ?_)
      rintro e w5 ⟨rfl, hN5, hT5⟩
      have hfin := HP.out (.returned (.tuple #[])) w5 (updated_end HT1.out HS1.out HTb.out HS4.out hT5 hN5 (by rw [HUP]; exact fin_false hd1 Hk1.out Hem.out))
      have Hfin := Lib.hid hfin
      clear hfin hN5 hT5
      go_wp2_with fail
      exact bodyPost_end (results_none rfl _ _ _) rfl Hfin.out
    | true =>
      have hc3 : w3.cell? ⟨b, o + 10, none⟩ = some (.slice (some ⟨bk, 0, none⟩) 8 cap) := (Keeps.of_below hB3) _ _ hc2
      have hth := hN3.there
      obtain ⟨hN4, hT4⟩ := hN3.over (T := fun _ => False) (owns_zero w3) (fun h => h)
      have hT4' : Turned bk (d * 11) T W1 _ := hT3.trans hT4 (fun k hk => hk.elim)
      obtain ⟨-, hTb, S4, hN5, hS4⟩ := Hre.out _ Nd.zero (fun _ => False) hN4 hT4' (fun k hk => hk.elim)
      obtain ⟨w4, hw4⟩ : ∃ w4, w4 = w3.setCells bk (d * 11) zeroNd.toList := ⟨_, rfl⟩
      rw [← hw4] at hTb hN5
      have hrf := refresh_spec hN5 (by simp [hfd]) d hd8 Nd.zero (by rw [List.getElem?_set_self hd1])
      have Hrf := Lib.hid hrf
      have HTb := Lib.hid hTb
      have HS4 := Lib.hid hS4
      have Hw4 := Lib.hid hw4
      have Hth := Lib.hid hth
      clear hN4 hT4 hT4' hrf hTb hS4 hN3 hT3 hB3 hN5 hw4 hc2 hth
      go_wp2_with (first | (refine wpList_store_zero (by rfl) (by rfl) bk (d * 11) (by rfl) (by rfl) (by with_reducible exact Hth.out) ?_))
      rw [← Hw4.out]
      (with_reducible refine Hrf.out.mono ?_)
      rintro e w5 ⟨rfl, hN5, hT5⟩
      have hfin := HP.out (.returned (.tuple #[])) w5 (updated_end HT1.out HS1.out HTb.out HS4.out hT5 hN5 (by rw [HUP]; exact fin_true hd1 Hk1.out Hem.out))
      have Hfin := Lib.hid hfin
      clear hfin hN5 hT5
      go_wp2_with fail
      exact bodyPost_end (results_none rfl _ _ _) rfl Hfin.out
end Go.Proofs.Ytmdmbnpgdkmklaa
namespace Go.Proofs.Ytmdmbnpgdkmklaa
open Go.RowKit
set_option linter.unusedVariables false
set_option linter.unusedSimpArgs false

theorem update_spec {fid : Nat} {capt : Array Value} {K : Nat → Prop} {C : World → Prop} {chg : Nd → Nat → Nd} (hchg : Changes fid capt K C chg) (hC : ∀ W W', (∀ k, K k → W'.heap[k]? = W.heap[k]?) → C W → C W') (hf : fid = 75 ∨ fid = 107)
    (i : Nat) (hi : i ≤ 1073741824) (l : Nat) : l ≤ 9 → ∀ (W : World) (b o : Nat) (ty : TypeId) (n : Nd) (S : Nat → Prop), C W → ¬ K b → (∀ k, K k → ¬ S k) → (∀ k, K k → k < W.heap.size) → n.fit l → NodeAt W b o ty n S →
      Calls Try.prog 74 #[.pointer (some ⟨b, o, none⟩), .int .i64 ((l : Int) + 1), .int .i64 i, .func (.func fid) #[] capt] W fun e W' => Updated b o ty (n.upd chg l i) S W e W' := by
  induction l with
  | zero =>
    intro _ W b o ty n S hCW hKb hKS hK hfit h
    exact update_zero hchg hC hf W b o ty n S i hi hCW hKb hK h
  | succ l ih =>
    intro hl W b o ty n S hCW hKb hKS hK hfit h
    have := update_succ (fid := fid) (capt := capt) (chg := chg) hC l (by omega) i hi (ih (by omega)) W b o ty n S hCW hKb hKS hK hfit h
    rw [show (((l + 1 : Nat) : Int) + 1) = (l : Int) + 2 by omega]
    exact this
end Go.Proofs.Ytmdmbnpgdkmklaa
namespace Go.Proofs.Ytmdmbnpgdkmklaa
open Go.RowKit
set_option linter.unusedVariables false
set_option linter.unusedSimpArgs false

theorem cons0 (x : Value) (c : Array Value) : (#[x] ++ c)[0]? = some x := by
  rw [Array.getElem?_append_left (by simp)]; rfl

/-- The box g holds a tree of height h with the root n, whose nodes lie in the blocks S. -/
def TreeAt (w : World) (g : Nat) (h : Int) (n : Nd) (S : Nat → Prop) : Prop :=
  ∃ c, w.heap[g]? = some (.cells (#[.int .i64 h] ++ c) 28 (0, 0)) ∧ Owns w n c S ∧ ¬ S g

theorem TreeAt.node {w : World} {g : Nat} {h : Int} {n : Nd} {S : Nat → Prop} (t : TreeAt w g h n S) : NodeAt w g 1 28 n S := by
  obtain ⟨c, hg, ho, hn⟩ := t
  refine ⟨_, c, hg, fun i hi => ?_, ho, hn⟩
  rw [cell_of_row w g _ _ 28 (0, 0) hg, Array.getElem?_append_right (by simp)]
  simp [Nat.add_comm 1 i, hi]

theorem TreeAt.cell0 {w : World} {g : Nat} {h : Int} {n : Nd} {S : Nat → Prop} (t : TreeAt w g h n S) : w.cell? ⟨g, 0, none⟩ = some (.int .i64 h) := by
  obtain ⟨c, hg, ho, hn⟩ := t
  rw [cell_of_row w g _ _ 28 (0, 0) hg, cons0]

theorem TreeAt.turned {w w' : World} {g : Nat} {h : Int} {n n' : Nd} {S S' T : Nat → Prop} (t : TreeAt w g h n S) (hT : Turned g 1 T w w') (hN : NodeAt w' g 1 28 n' S') : TreeAt w' g h n' S' := by
  obtain ⟨c, hg, ho, hn⟩ := t
  obtain ⟨cur', hg', hs', he'⟩ := hT.cells _ _ hg
  obtain ⟨cur2, c2, hg2, hr2, ho2, hn2⟩ := hN
  have : cur2 = cur' := by
    rw [hg'] at hg2; injection hg2 with q; injection q with q; exact q.symm
  subst this
  refine ⟨c2, ?_, ho2, hn2⟩
  rw [hg']
  congr 2
  have h1 := ho.size
  have h2 := ho2.size
  apply Array.ext_getElem?
  intro i
  rcases Nat.lt_trichotomy i 0 with q | q | q
  · omega
  · subst q
    rw [he' 0 (by omega), cons0, cons0]
  · by_cases hi : i < 12
    · have := hr2 (i - 1) (by omega)
      rw [show 1 + (i - 1) = i by omega, cell_of_row w' g _ _ 28 (0, 0) hg'] at this
      rw [this, Array.getElem?_append_right (by simp; omega)]
      simp only [List.size_toArray, List.length_cons, List.length_nil, Nat.zero_add]
      rw [Array.getElem?_eq_getElem (by omega)]
    · rw [Array.getElem?_eq_none (by rw [hs']; simp; omega), Array.getElem?_eq_none (by simp; omega)]

theorem TreeAt.kept {w w' : World} {g : Nat} {h : Int} {n : Nd} {S : Nat → Prop} (t : TreeAt w g h n S) (hb : Below w.heap.size w w') : TreeAt w' g h n S := by
  obtain ⟨c, hg, ho, hn⟩ := t
  exact ⟨c, (hb.block g (Array.getElem?_eq_some_iff.1 hg).1).trans hg, ho.kept hb, hn⟩

theorem TreeAt.setH {w : World} {g : Nat} {h : Int} {n : Nd} {S : Nat → Prop} (t : TreeAt w g h n S) (h' : Int) : TreeAt (w.setCell ⟨g, 0, none⟩ (.int .i64 h')) g h' n S := by
  obtain ⟨c, hg, ho, hn⟩ := t
  refine ⟨c, ?_, ho.other hn (fun k hk => Below.heap_setCell _ _ _ _ hk), hn⟩
  rw [heap_setCell_same w g 0 _ 28 _ hg]
  congr 2
  apply Array.ext_getElem?
  intro i
  rw [Array.getElem?_setIfInBounds]
  by_cases e : 0 = i
  · subst e; rw [cons0, if_pos rfl, if_pos (by simp; omega), cons0]
  · rw [if_neg e, Array.getElem?_append_right (by simp; omega), Array.getElem?_append_right (by simp; omega)]
    simp
end Go.Proofs.Ytmdmbnpgdkmklaa
namespace Go.Proofs.Ytmdmbnpgdkmklaa
open Go.RowKit
set_option linter.unusedVariables false
set_option linter.unusedSimpArgs false

/-- The least height and its root. -/
def shrinkL : Nat → Nd → Nat × Nd
  | 0, n => (0, n)
  | 1, n => (1, n)
  | h + 2, n => if (n.ks.drop 1).all Nd.absent = true then shrinkL (h + 1) (n.ks.getD 0 Nd.zero) else (h + 2, n)
def shrinkM (h : Nat) (n : Nd) : Nat × Nd := if h ≠ 0 ∧ n.emp = true then (0, Nd.zero) else shrinkL h n

/-- What shrink leaves. -/
def Shrunk (g : Nat) (h' : Nat) (n' : Nd) (S : Nat → Prop) (W : World) (e : Ending) (W' : World) : Prop :=
  e = .returned (.tuple #[]) ∧ W'.os = W.os ∧ W'.tape = W.tape ∧ W'.output = W.output ∧ W.heap.size ≤ W'.heap.size ∧ (∀ k, k < W.heap.size → k ≠ g → W'.heap[k]? = W.heap[k]?) ∧ ∃ S', TreeAt W' g h' n' S' ∧ ∀ k, S' k → S k ∨ W.heap.size ≤ k

/-- The root is replaced by its first child. -/
theorem TreeAt.lower {w : World} {g : Nat} {h : Int} {v : List Int} {t0 t1 : Int} {ks : List Nd} {S : Nat → Prop} (t : TreeAt w g h (.mk v t0 t1 ks) S) (hne : 0 < ks.length) :
    ∃ bk cap c T, w.cell? ⟨g, 11, none⟩ = some (.slice (some ⟨bk, 0, none⟩) ks.length cap) ∧ g ≠ bk ∧ RowAt w bk 0 c ∧ Owns w ks[0] c T ∧ (∀ k, T k → S k) ∧
      w.there g 1 11 ∧ TreeAt (w.setCells g 1 c.toList) g h ks[0] T ∧ Turned g 1 S w (w.setCells g 1 c.toList) := by
  obtain ⟨bk, cap, T, hc, hgb, hSb, hTS, hN, -⟩ := t.node.child 0 hne
  obtain ⟨cur, c, hg, hr, ho, hn⟩ := hN
  have hSg : ¬ S g := by obtain ⟨_, _, _, h⟩ := t; exact h
  obtain ⟨hN2, hT2⟩ := t.node.over (T := S) ho (fun h => hSg (hTS g h))
  rw [Nat.zero_mul] at hr
  exact ⟨bk, cap, c, T, hc, hgb, hr, ho, hTS, t.node.there, t.turned hT2 hN2, hT2⟩

/-- The children of the root, where they lie; the root is replaced by the first. -/
theorem TreeAt.kids {w : World} {g : Nat} {h : Int} {v : List Int} {t0 t1 : Int} {ks : List Nd} {S : Nat → Prop} (t : TreeAt w g h (.mk v t0 t1 ks) S) (hne : 0 < ks.length) :
    ∃ (bk cap : Nat) (f : Nat → Array Value) (T : Nat → Prop), w.cell? ⟨g, 11, none⟩ = some (.slice (some ⟨bk, 0, none⟩) ks.length cap) ∧ ks.length ≤ cap ∧ g ≠ bk ∧ (∀ j (hj : j < ks.length), RowAt w bk (j * 11) (f j) ∧ IsN w ks[j] (f j)) ∧
      (∀ k, T k → S k) ∧ w.there g 1 11 ∧ TreeAt (w.setCells g 1 (f 0).toList) g h ks[0] T := by
  have hth := t.node.there
  have ht := t
  obtain ⟨c, hg, ho, hn⟩ := t
  cases ho with
  | leaf => simp at hne
  | node v t0 t1 ks b cap cur f F hv hvb h0 h1 hne' hcp hgb hcur hf hk hb hd =>
    have hgb' : g ≠ b := fun e => hn (.inl e)
    have hTg : ¬ F 0 g := fun e => hn (.inr ⟨0, hne, e⟩)
    obtain ⟨hN2, hT2⟩ := ht.node.over (T := fun _ => False) (hk 0 hne) hTg
    refine ⟨b, cap, f, F 0, ?_, hcp.1, hgb', fun j hj => ⟨hf j hj, (hk j hj).isN⟩, fun k hk' => .inr ⟨0, hne, hk'⟩, hth, ht.turned hT2 hN2⟩
    obtain ⟨v0, v1, v2, v3, v4, v5, v6, v7, rfl⟩ := list8 hv
    rw [cell_of_row w g _ _ 28 (0, 0) hg]
    rfl

/-- What shrink asks of the tree: an inner root that it looks at has eight children. -/
def Nd.low : Nat → Nd → Prop
  | 0, _ => True
  | 1, _ => True
  | h + 2, n => n.ks.length = 8 ∧ ((n.ks.drop 1).all Nd.absent = true → Nd.low (h + 1) (n.ks.getD 0 Nd.zero))
end Go.Proofs.Ytmdmbnpgdkmklaa
namespace Go.Proofs.Ytmdmbnpgdkmklaa
open Go.RowKit
set_option linter.unusedVariables false
set_option linter.unusedSimpArgs false

set_option maxRecDepth 100000 in
set_option maxHeartbeats 4000000 in
theorem shrink_spec {W : World} {g h : Nat} {n : Nd} {S : Nat → Prop} (t : TreeAt W g h n S) (hlow : n.emp = false → n.low h) (hh : h ≤ 10) :
    Calls Try.prog 76 #[.pointer (some ⟨g, 0, none⟩)] W fun e W' => Shrunk g (shrinkM h n).1 (shrinkM h n).2 S W e W' := by
  obtain ⟨post, hpost⟩ : ∃ post : Ending → World → Prop, post = fun e W' => Shrunk g (shrinkM h n).1 (shrinkM h n).2 S W e W' := ⟨_, rfl⟩
  have HP : Hid (∀ e W', Shrunk g (shrinkM h n).1 (shrinkM h n).2 S W e W' → post e W') := Lib.hid (by rw [hpost]; exact fun e W' a => a)
  rw [← hpost]
  clear hpost
  have hc0 := t.cell0
  obtain ⟨c, hg, ho, hn⟩ := t
  have hrow : RowAt W g 1 c := fun i hi => by
    rw [cell_of_row W g _ _ 28 (0, 0) hg, Array.getElem?_append_right (by simp)]
    simp [Nat.add_comm 1 i, hi]
  have hsz := ho.size
  have hemp := empty_spec ho.isN W (Keeps.refl _)
  obtain ⟨em, hem⟩ : ∃ em, em = n.emp := ⟨_, rfl⟩
  rw [← hem] at hemp
  have Hem := Lib.hid hem
  have Hemp := Lib.hid hemp
  have Hrow := Lib.hid hrow
  have T := Lib.hid (show TreeAt W g h n S from ⟨c, hg, ho, hn⟩)
  have Hlow := Lib.hid hlow
  clear hem hemp hrow hg ho hn hlow
  by_cases h0 : h = 0
  · subst h0
    go_enter Try.func76, Try.ntmps76
    go_wp2_with fail
    refine wp_loop_rounds 1 ?_
    rw [rounds_succ]
    have hfin := HP.out (.returned (.tuple #[])) W ⟨rfl, rfl, rfl, rfl, Nat.le_refl _, fun _ _ _ => rfl, S, by
      have := T.out
      unfold shrinkM
      rw [if_neg (by simp)]
      exact this, fun k hk => .inl hk⟩
    have Hfin := Lib.hid hfin
    clear hfin
    go_wp2_with fail
    exact bodyPost_end (results_none rfl _ _ _) rfl Hfin.out
  · have hgt : decide (0 < (h : Int)) = true := by simp; omega
    have hgt' : (0 : Int) < (h : Int) := by omega
    go_enter Try.func76, Try.ntmps76
    go_wp2_with (first | (refine wpList_load_nd (.tmp 12) (by rfl) (by rfl) g 1 (by rfl) c hsz (by with_reducible exact Hrow.out) ?_))
    (with_reducible refine Hemp.out.mono ?_)
    rintro e w2 ⟨rfl, hB2⟩
    have t2 := T.out.kept hB2
    cases em with
    | true =>
      obtain ⟨c2, hg2, ho2, hn2⟩ := t2
      have hs2 : (#[Value.int .i64 (h : Int)] ++ c2).size = emptyCells.size := by have := ho2.size; simp [emptyCells]; omega
      have hone : emptyCells.all (·.oneCell') = true := by simp [emptyCells, Value.oneCell']
      have hsz28 : (Try.prog.info? 28).map (·.size) = some emptyCells.size := size28
      have Hg2 := Lib.hid hg2
      clear hg2 ho2 hn2
      go_wp2_with (first | (refine wpList_store_row (by rfl) 28 (.tmp 18) (.tmp 17) (by rfl) g emptyCells (by rfl) (by rfl) 28 _ (by with_reducible exact Hg2.out) hsz28 hs2 hone ?_))
      refine bodyPost_ret (results_none rfl _ _ _) rfl (HP.out _ _ ⟨rfl, hB2.os, hB2.tape, hB2.output, by rw [size_setRow]; exact hB2.size, fun k hk hkg => (setRow_other w2 g k _ hkg).trans (hB2.block k hk), fun _ => False, ?_, fun k hk => hk.elim⟩)
      unfold shrinkM
      rw [if_pos ⟨h0, Hem.out.symm⟩]
      exact ⟨zeroNd, setRow_heap w2 g _ emptyCells _ _ Hg2.out, owns_zero _, fun h => h⟩
    | false =>
      have hM2 : Mod g W w2 := Mod.of_below hB2
      have HM2 := Lib.hid hM2
      have T2 := Lib.hid t2
      clear t2 hM2
      go_wp2_with fail
      go_loopw [] (fun wr => ∃ (h' : Nat) (n' : Nd) (S' : Nat → Prop), 1 ≤ h' ∧ h' ≤ 10 ∧ Hid (shrinkL h' n' = shrinkL h n) ∧ Hid (TreeAt wr g h' n' S') ∧ Hid (n'.low h') ∧ Hid (∀ k, S' k → S k ∨ W.heap.size ≤ k) ∧ Hid (Mod g W wr))
        (fun wr => match wr.cell? ⟨g, 0, none⟩ with | some v => (intOf v).toNat | none => 0)
      case atStart => exact ⟨h, n, S, by omega, hh, Lib.hid rfl, T2, Lib.hid (Hlow.out Hem.out.symm), Lib.hid (fun k hk => .inl hk), HM2⟩
      case round =>
        obtain ⟨h', n', S', hh1, hh2, Hs, T', Hl', HS', HM'⟩ := hrel
        rename World => wo
        have hc0' := T'.out.cell0
        have hsh : shrinkM h n = shrinkL h n := by unfold shrinkM; rw [if_neg]; rintro ⟨-, q⟩; rw [← Hem.out] at q; cases q
        cases h' with
        | zero => omega
        | succ q =>
          cases q with
          | zero =>
            have hfin := HP.out (.returned (.tuple #[])) wo ⟨rfl, HM'.out.os, HM'.out.tape, HM'.out.output, HM'.out.size, fun k hk hkg => HM'.out.block k hk hkg, S', by rw [hsh, ← Hs.out]; exact T'.out, HS'.out⟩
            have Hfin := Lib.hid hfin
            clear hfin hsh
            rw [show (((0 + 1 : Nat)) : Int) = 1 from rfl] at hc0'
            go_wp2_with fail
            exact bodyPost_end (results_none rfl _ _ _) rfl Hfin.out
          | succ q =>
            obtain ⟨v, t0, t1, ks⟩ := n'
            obtain ⟨h8, hlow2⟩ := Hl'.out
            simp only [Nd.ks] at h8 hlow2
            obtain ⟨bk, cap, f, TT, hc11, hcap, hgbk, hkids, hTS, hth, tL⟩ := T'.out.kids (by omega)
            rw [h8] at hc11 hcap
            have Hkids := Lib.hid hkids
            have Hth := Lib.hid hth
            have HtL := Lib.hid tL
            have HTS := Lib.hid hTS
            have Hlow2 := Lib.hid hlow2
            have H8 := Lib.hid h8
            obtain ⟨L, hL⟩ : ∃ L : Int, L = ((q + 1 + 1 : Nat) : Int) := ⟨_, rfl⟩
            rw [← hL] at hc0'
            have hgt2 : decide (1 < L) = true := by simp; omega
            have hgt3 : (1 : Int) < L := by omega
            have hgt4 : L ≤ 10 := by omega
            have HLq := Lib.hid hL
            clear hL
            clear hkids hth tL hTS hlow2
            go_wp2_with fail
            go_loopw [31] (fun i wi => ∃ j : Nat, j ≤ 7 ∧ i = .int .i64 j ∧ Hid (∀ t, t < j → (ks.getD (t + 1) Nd.zero).absent = true) ∧ Hid (Below wo.heap.size wo wi)) (fun i _ => 7 - (intOf i).toNat)
            case atStart => exact ⟨0, by omega, rfl, Lib.hid (fun t ht => by omega), Lib.hid (Below.refl _ _)⟩
            case round =>
              obtain ⟨j, hj, rfl, Habs, Hbe⟩ := hrel
              by_cases hlt : j < 7
              · have hj8 : j + 1 < ks.length := by rw [H8.out]; omega
                obtain ⟨kd, hkd⟩ : ∃ kd, kd = ks.getD (j + 1) Nd.zero := ⟨_, rfl⟩
                obtain ⟨hkr, hkn⟩ := Hkids.out (j + 1) hj8
                have hkeep := Keeps.of_below Hbe.out
                replace hkr := hkr.keeps hkeep
                replace hkn := hkn.keeps hkeep
                rw [show ks[j + 1] = kd by rw [hkd]; simp [hj8]] at hkn
                obtain ⟨x0, x1, x2, x3, x4, x5, x6, x7, xp, xl, xc, hx⟩ := hkn.lit
                rw [hx] at hkn hkr
                rw [show (j + 1) * 11 = 11 + j * 11 by omega] at hkr
                have hcall := fun (W : World) (q : Keeps _ W) => absent_spec (hkn.keeps q)
                have Hcall := Lib.hid hcall
                have Hkr := Lib.hid hkr
                have Hkd := Lib.hid hkd
                clear hcall hkr hkd hkn hx hkeep
                have hnext : kd.absent = true → ∀ t, t < j + 1 → (ks.getD (t + 1) Nd.zero).absent = true := fun h t ht => by
                  rcases Nat.lt_or_ge t j with h1 | h1
                  · exact Habs.out t h1
                  · rw [show t = j by omega, ← Hkd.out]; exact h
                have Hnext := Lib.hid hnext
                have hno : kd.absent = false → shrinkL (q + 1 + 1) (Nd.mk v t0 t1 ks) = (q + 1 + 1, Nd.mk v t0 t1 ks) := fun h => by
                  unfold shrinkL
                  rw [if_neg]
                  intro ha
                  rw [List.all_eq_true] at ha
                  have := ha kd (by
                    rw [Hkd.out, List.mem_iff_getElem]
                    exact ⟨j, by simp [Nd.ks]; omega, by simp [Nd.ks, hj8, Nat.add_comm]⟩)
                  rw [h] at this; cases this
                have Hno := Lib.hid hno
                have HbeA := Lib.hid (Hbe.out.alloc Hbe.out.size (.cells #[.int .i64 x0, .int .i64 x1, .int .i64 x2, .int .i64 x3, .int .i64 x4, .int .i64 x5, .int .i64 x6, .int .i64 x7, .int .i64 kd.t0, .int .i64 kd.t1, .slice xp xl xc] 26))
                have Hsz := Lib.hid Hbe.out.size
                clear hnext hno
                obtain ⟨ab, hab⟩ : ∃ ab, kd.absent = ab := ⟨_, rfl⟩
                rw [hab] at Hcall Hno Hnext
                clear hab
                go_wp2_with (first | (refine wpList_load_nd (.tmp 33) (by rfl) (by rfl) bk (11 + j * 11) (by rfl) #[.int .i64 x0, .int .i64 x1, .int .i64 x2, .int .i64 x3, .int .i64 x4, .int .i64 x5, .int .i64 x6, .int .i64 x7, .int .i64 kd.t0, .int .i64 kd.t1, .slice xp xl xc] (by rfl) (by with_reducible exact Hkr.out) ?_))
                (with_reducible refine (Hcall.out _ (Keeps.alloc _ _)).mono ?_)
                rintro e w3 ⟨rfl, hB3⟩
                have hb3 : Below wo.heap.size wo w3 := HbeA.out.trans (hB3.mono (by have := Hsz.out; simp; omega))
                have Hb3 := Lib.hid hb3
                clear hb3 hB3
                cases ab with
                | true =>
                  go_wp2_with fail
                  go_roundw
                  case rel => exact ⟨j + 1, by omega, by go_num, Lib.hid (Hnext.out (by simp)), Hb3⟩
                  case measure => simp [intOf]; omega
                | false =>
                  go_wp2_with fail
                  refine bodyPost_ret (results_none rfl _ _ _) rfl (HP.out _ _ ?_)
                  have hm := HM'.out.trans (Mod.of_below Hb3.out)
                  refine ⟨rfl, hm.os, hm.tape, hm.output, hm.size, fun k hk hkg => hm.block k hk hkg, S', ?_, HS'.out⟩
                  rw [hsh, ← Hs.out, Hno.out (by simp)]
                  exact T'.out.kept Hb3.out
              · obtain rfl : j = 7 := by omega
                have hall : (ks.drop 1).all Nd.absent = true := by
                  rw [List.all_eq_true]
                  intro x hx
                  obtain ⟨i, hi, rfl⟩ := List.mem_iff_getElem.1 hx
                  simp only [List.length_drop] at hi
                  have := Habs.out i (by have := H8.out; omega)
                  simp only [List.getElem_drop]
                  rw [Nat.add_comm i 1, List.getD_eq_getElem?_getD, List.getElem?_eq_getElem (by omega), Option.getD_some] at this; exact this
                have T3 := T'.out.kept Hbe.out
                have hc0i := T3.cell0
                rw [← HLq.out] at hc0i
                have hfrz := T3.node.frozen 0
                clear hc11 hcap hgbk hc0' Hkids Hth HtL HTS TT
                obtain ⟨bk, cap, f, TT, hc11, hcap, hgbk, hkids, hTS, hth, tL⟩ := T3.kids (by omega)
                rw [h8] at hc11 hcap
                obtain ⟨hr0, hn0⟩ := hkids 0 (by omega)
                have hz : (f 0).size = 11 := hn0.size
                have h26 : (Try.prog.info? 26).map (·.size) = some (f 0).size := by rw [hz]; exact size26
                have hone : (f 0).all (·.oneCell') = true := hn0.one
                have hcs := tL.cell0
                rw [← HLq.out] at hcs
                have hfs := tL.node.frozen 0
                have Hr0 := Lib.hid hr0
                rw [← hz] at hth
                have Hth := Lib.hid hth
                have HtL := Lib.hid tL
                have HTS := Lib.hid hTS
                have Hz := Lib.hid hz
                have H26 := Lib.hid h26
                have Hone := Lib.hid hone
                have Hall := Lib.hid hall
                clear hr0 hn0 hth hTS tL hkids hz h26 hone hall T3
                go_wp2_with (first | (refine wpList_load_nd (.tmp 45) (by rfl) (by rfl) bk (0 * 11) (by rfl) (f 0) (by with_reducible exact Hz.out) (by with_reducible exact Hr0.out) ?_) | (refine wpList_store_mid (by rfl) 26 (.tmp 48) (.tmp 46) (by rfl) g 1 (f 0) (by rfl) (by rfl) (by with_reducible exact Hth.out) (by with_reducible exact H26.out) (by with_reducible exact Hone.out) ?_))
                have e1 : L - 1 = ((q + 1 : Nat) : Int) := by rw [HLq.out]; omega
                have hT : TreeAt ((wr.setCells g 1 (f 0).toList).setCell ⟨g, 0, none⟩ (.int .i64 (L - 1))) g ((q + 1 : Nat) : Int) (ks.getD 0 Nd.zero) TT := by
                  rw [e1]
                  have := HtL.out.setH ((q + 1 : Nat) : Int)
                  rwa [show ks[0] = ks.getD 0 Nd.zero by simp [show 0 < ks.length by omega]] at this
                have HT := Lib.hid hT
                clear hT
                go_roundw
                case rel =>
                  refine ⟨q + 1, ks.getD 0 Nd.zero, TT, by omega, by omega, Lib.hid ?_, HT, Lib.hid (Hlow2.out Hall.out), Lib.hid (fun k hk => HS'.out k (HTS.out k hk)), Lib.hid ?_⟩
                  · rw [← Hs.out]
                    conv => rhs; unfold shrinkL
                    rw [if_pos (show (((Nd.mk v t0 t1 ks).ks.drop 1).all Nd.absent = true) from Hall.out)]
                    rfl
                  · have hm := HM'.out.trans (Mod.of_below Hbe.out)
                    have hr := setCells_rest (b := g) (f 0).toList 1 wr
                    have hm2 : Mod g W (wr.setCells g 1 (f 0).toList) := ⟨hr.1.trans hm.os, hr.2.1.trans hm.tape, hr.2.2.1.trans hm.output, by rw [hr.2.2.2]; exact hm.size, fun k hk hkg => (setCells_other (b := g) _ _ _ _ hkg).trans (hm.block k hk hkg)⟩
                    exact hm2.setCell _ _
                case measure =>
                  rw [HT.out.cell0, T'.out.cell0]
                  simp [intOf]
                  omega
end Go.Proofs.Ytmdmbnpgdkmklaa
namespace Go.Proofs.Ytmdmbnpgdkmklaa
open Go.RowKit
set_option linter.unusedVariables false
set_option linter.unusedSimpArgs false

/-- The node above the root, with the tags of its first child still to be computed. -/
def upNd0 (n : Nd) : Nd := .mk [0, 0, 0, 0, 0, 0, 0, 0] 0 0 (n :: List.replicate 7 Nd.zero)
def upNd (n : Nd) : Nd := .mk [0, 0, 0, 0, 0, 0, 0, 0] (tset 0 0 (n.t0 != 0)) (tset 0 0 (n.t1 != 0)) (n :: List.replicate 7 Nd.zero)

/-- The cells of a node whose children lie in block A. -/
def upCells (A : Nat) : Array Value := #[.int .i64 0, .int .i64 0, .int .i64 0, .int .i64 0, .int .i64 0, .int .i64 0, .int .i64 0, .int .i64 0, .int .i64 0, .int .i64 0, .slice (some ⟨A, 0, none⟩) 8 8]
/-- The world in which that node has been made. -/
def upW (w : World) : World := (w.alloc (.cells zeros8 26)).alloc (.cells (upCells w.heap.size) 26)

theorem upW_old (w : World) : Below w.heap.size w (upW w) := ((Below.refl _ _).alloc (Nat.le_refl _) _).alloc (by simp) _
theorem upW_size (w : World) : (upW w).heap.size = w.heap.size + 2 := by simp [upW]
theorem upW_zero (w : World) : (upW w).heap[w.heap.size]? = some (.cells zeros8 26 (0, 0)) := by
  unfold upW
  rw [World.alloc, Array.getElem?_push]
  simp only [World.alloc, Array.size_push]
  rw [if_neg (by omega), Array.getElem?_push, if_pos rfl]
theorem sizeA' (w : World) (o : Obj) : (w.alloc o).heap.size = w.heap.size + 1 := by simp
theorem upW_new (w : World) : (upW w).heap[w.heap.size + 1]? = some (.cells (upCells w.heap.size) 26 (0, 0)) := by
  have h := heap_alloc_new (w.alloc (.cells zeros8 26)) (.cells (upCells w.heap.size) 26)
  rw [sizeA'] at h
  exact h

theorem inI64_zero : inI64 0 := ⟨by decide, by decide⟩

theorem up_make {w : World} {n : Nd} {c : Array Value} {S : Nat → Prop} (ho : Owns w n c S) :
    (upW w).there w.heap.size 0 c.size ∧
    NodeAt ((upW w).setCells w.heap.size 0 c.toList) (w.heap.size + 1) 0 26 (upNd0 n) (fun k => k = w.heap.size ∨ S k) ∧
    Below w.heap.size w ((upW w).setCells w.heap.size 0 c.toList) := by
  have hsz := ho.size
  have hlt := ho.lt
  have hrest := setCells_rest (b := w.heap.size) c.toList 0 (upW w)
  have hB : Below w.heap.size w ((upW w).setCells w.heap.size 0 c.toList) := by
    have := upW_old w
    exact ⟨hrest.1.trans this.os, hrest.2.1.trans this.tape, hrest.2.2.1.trans this.output, by rw [hrest.2.2.2]; exact this.size, fun k hk => (setCells_other _ _ _ _ (by omega)).trans (this.block k hk)⟩
  refine ⟨?_, ?_, hB⟩
  · intro j hj
    refine ⟨?_, ?_⟩
    · rw [cell_of_row _ _ _ zeros8 26 (0, 0) (upW_zero w)]
      have : zeros8.size = 88 := by decide
      rw [Array.getElem?_eq_getElem (by omega)]; rfl
    · simp [World.frozen?, upW_zero w]
  · obtain ⟨cur', hg', hs', he'⟩ := setCells_block c.toList 0 (upW w) zeros8 (upW_zero w)
    have hl : c.toList.length = 11 := by simpa using hsz
    have h88 : zeros8.size = 88 := by decide
    have hown := Owns.node (w := (upW w).setCells w.heap.size 0 c.toList) [0, 0, 0, 0, 0, 0, 0, 0] 0 0 (n :: List.replicate 7 Nd.zero) w.heap.size 8 cur'
      (fun i => if i = 0 then c else zeroNd) (fun i => if i = 0 then S else fun _ => False) rfl (by intro x hx; simp at hx; subst hx; exact inI64_zero) inI64_zero inI64_zero (by simp) (by simp) hg' (by rw [hs', h88])
      (fun i hi => by
        simp only [List.length_cons, List.length_replicate] at hi
        by_cases e : i = 0
        · subst e
          simp only [if_true]
          intro q hq
          have := World.cell?_setCells_in w.heap.size c.toList 0 (upW w) (fun j hj => by
            rw [cell_of_row _ _ _ zeros8 26 (0, 0) (upW_zero w), Array.getElem?_eq_getElem (by omega)]; rfl) q (by omega)
          simp only [Nat.zero_mul]
          rw [this]; simp
        · simp only [if_neg e]
          intro q hq
          have hq11 : q < 11 := hq
          have := row_zeros8 (upW_zero w) i (by omega) q hq
          rw [cell_of_row _ _ _ zeros8 26 (0, 0) (upW_zero w)] at this
          rw [cell_of_row _ _ _ cur' 26 (0, 0) hg', he' _ (by omega)]
          exact this)
      (fun i hi => by
        simp only [List.length_cons, List.length_replicate] at hi
        by_cases e : i = 0
        · subst e
          simp only [if_true, List.getElem_cons_zero]
          exact ho.kept hB
        · obtain ⟨j, rfl⟩ := Nat.exists_eq_succ_of_ne_zero e
          simp only [if_neg e, List.getElem_cons_succ, List.getElem_replicate]
          exact owns_zero _)
      (fun i hi => by
        by_cases e : i = 0
        · simp only [if_pos e]; intro h; have := hlt _ h; omega
        · simp only [if_neg e]; exact fun h => h)
      (fun i j k hi hj hne => by
        by_cases e : i = 0
        · have : ¬ j = 0 := by omega
          simp only [if_pos e, if_neg this]; exact fun _ h => h
        · simp only [if_neg e]; exact fun h => h.elim)
    refine ⟨_, upCells w.heap.size, (setCells_other _ _ _ _ (by omega)).trans (upW_new w), ?_, ?_, ?_⟩
    · intro q hq
      rw [cell_of_row _ _ _ _ 26 (0, 0) ((setCells_other _ _ _ _ (by omega)).trans (upW_new w)), Nat.zero_add, Array.getElem?_eq_getElem hq]
    · have hS : (fun k => k = w.heap.size ∨ ∃ i, i < (n :: List.replicate 7 Nd.zero).length ∧ (if i = 0 then S else fun _ => False) k) = fun k => k = w.heap.size ∨ S k := by
        funext k
        apply propext
        constructor
        · rintro (h | ⟨i, hi, h⟩)
          · exact .inl h
          · by_cases e : i = 0
            · rw [if_pos e] at h; exact .inr h
            · rw [if_neg e] at h; exact h.elim
        · rintro (h | h)
          · exact .inl h
          · exact .inr ⟨0, by simp, by simpa using h⟩
      rw [hS] at hown
      exact hown
    · rintro (h | h)
      · omega
      · have := hlt _ h; omega

/-- The root is replaced by a node that was made behind it. -/
theorem grow_end {w w3 : World} {g a : Nat} {h : Int} {n n' : Nd} {S S' : Nat → Prop} (t : TreeAt w g h n S) (hB : Below w.heap.size w w3) (hN : NodeAt w3 a 0 26 n' S') (hS : ∀ k, S' k → S k ∨ w.heap.size ≤ k) :
    ∃ c, c.size = 11 ∧ RowAt w3 a 0 c ∧ c.all (·.oneCell') = true ∧ w3.there g 1 c.size ∧ TreeAt (w3.setCells g 1 c.toList) g h n' S' ∧ Mod g w (w3.setCells g 1 c.toList) := by
  obtain ⟨cur, c, hg, hr, ho, hn⟩ := hN
  have hsz := ho.size
  have t3 := t.kept hB
  have hSg : ¬ S g := by obtain ⟨_, _, _, h⟩ := t; exact h
  have hglt := t.node.lt
  have hS'g : ¬ S' g := fun h => by
    rcases hS g h with q | q
    · exact hSg q
    · omega
  obtain ⟨hN2, hT2⟩ := t3.node.over (T := S') ho hS'g
  have hrest := setCells_rest (b := g) c.toList 1 w3
  refine ⟨c, hsz, hr, ho.isN.one, by rw [hsz]; exact t3.node.there, t3.turned hT2 hN2, ?_⟩
  exact ⟨hrest.1.trans hB.os, hrest.2.1.trans hB.tape, hrest.2.2.1.trans hB.output, by rw [hrest.2.2.2]; exact hB.size, fun k hk hkg => (setCells_other _ _ _ _ hkg).trans (hB.block k hk)⟩
end Go.Proofs.Ytmdmbnpgdkmklaa
