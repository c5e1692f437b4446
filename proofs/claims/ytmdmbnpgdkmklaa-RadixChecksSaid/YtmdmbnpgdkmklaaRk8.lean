/- radix.update: the leaf entry of an index is changed, nodes are made on the way, tags are computed anew. -/
import Derived.Test.YtmdmbnpgdkmklaaRk7
import Derived.Test.YtmdmbnpgdkmklaaRk4
import Derived.Test.YtmdmbnpgdkmklaaRh1
import Derived.Deep.Cut
namespace Go.Proofs.Ytmdmbnpgdkmklaa
open Go.RowKit
set_option linter.unusedVariables false
set_option linter.unusedSimpArgs false

def Nd.upd (chg : Nd → Nat → Nd) : Nat → Nd → Nat → Nd
  | 0, n, i => chg n (dig i 0)
  | l + 1, n, i =>
    let ks := if n.ks = [] then List.replicate 8 Nd.zero else n.ks
    let k := Nd.upd chg l (ks.getD (dig i (l + 1)) Nd.zero) i
    let k := if k.emp = true then Nd.zero else k
    .mk n.vs (tset n.t0 (dig i (l + 1)) (k.t0 != 0)) (tset n.t1 (dig i (l + 1)) (k.t1 != 0)) (ks.set (dig i (l + 1)) k)

/-- Inner nodes have none or eight children. -/
def Nd.fit : Nat → Nd → Prop
  | 0, _ => True
  | l + 1, n => n.ks = [] ∨ (n.ks.length = 8 ∧ ∀ k ∈ n.ks, Nd.fit l k)

theorem fit_zero : ∀ l, Nd.zero.fit l
  | 0 => trivial
  | l + 1 => .inl rfl

def finNd (chg : Nd → Nat → Nd) (l : Nat) (v : List Int) (t0 t1 : Int) (ks : List Nd) (d i : Nat) : Nd :=
  let k := Nd.upd chg l (ks.getD d Nd.zero) i
  let k := if k.emp = true then Nd.zero else k
  .mk v (tset t0 d (k.t0 != 0)) (tset t1 d (k.t1 != 0)) (ks.set d k)

theorem fin_false {chg : Nd → Nat → Nd} {l : Nat} {v : List Int} {t0 t1 : Int} {ks : List Nd} {d i : Nat} {k1 : Nd} (hd : d < ks.length) (h1 : k1 = (ks[d]).upd chg l i) (he : false = k1.emp) :
    finNd chg l v t0 t1 ks d i = .mk v (tset t0 d (k1.t0 != 0)) (tset t1 d (k1.t1 != 0)) (ks.set d k1) := by
  have hg : ks.getD d Nd.zero = ks[d] := by simp [List.getD, hd]
  have e : (if ((ks.getD d Nd.zero).upd chg l i).emp = true then Nd.zero else (ks.getD d Nd.zero).upd chg l i) = k1 := by rw [hg, ← h1, ← he]; rfl
  exact congrArg (fun k : Nd => Nd.mk v (tset t0 d (k.t0 != 0)) (tset t1 d (k.t1 != 0)) (ks.set d k)) e
theorem fin_true {chg : Nd → Nat → Nd} {l : Nat} {v : List Int} {t0 t1 : Int} {ks : List Nd} {d i : Nat} {k1 : Nd} (hd : d < ks.length) (h1 : k1 = (ks[d]).upd chg l i) (he : true = k1.emp) :
    finNd chg l v t0 t1 ks d i = .mk v (tset t0 d (Nd.zero.t0 != 0)) (tset t1 d (Nd.zero.t1 != 0)) (ks.set d Nd.zero) := by
  have hg : ks.getD d Nd.zero = ks[d] := by simp [List.getD, hd]
  have e : (if ((ks.getD d Nd.zero).upd chg l i).emp = true then Nd.zero else (ks.getD d Nd.zero).upd chg l i) = Nd.zero := by rw [hg, ← h1, ← he]; rfl
  exact congrArg (fun k : Nd => Nd.mk v (tset t0 d (k.t0 != 0)) (tset t1 d (k.t1 != 0)) (ks.set d k)) e

theorem NodeAt.cellNil {w : World} {b o : Nat} {ty : TypeId} {v : List Int} {t0 t1 : Int} {S : Nat → Prop} (h : NodeAt w b o ty (.mk v t0 t1 []) S) : w.cell? ⟨b, o + 10, none⟩ = some (.slice none 0 0) := by
  obtain ⟨cur, c, hg, hr, ho, hn⟩ := h
  cases ho with
  | leaf _ _ _ hv8 _ _ _ =>
    obtain ⟨v0, v1, v2, v3, v4, v5, v6, v7, rfl⟩ := list8 hv8
    exact hr 10 (by simp [ndCells])
  | node _ _ _ _ _ _ _ _ _ _ _ _ _ hne => exact absurd rfl hne

theorem setCell_alloc_comm (W : World) (a : Addr) (v : Value) (x : Obj) (h : a.block < W.heap.size) : (W.setCell a v).alloc x = (W.alloc x).setCell a v := by
  unfold World.setCell World.alloc
  simp only
  congr 1
  apply Array.ext_getElem?
  intro i
  simp only [Array.getElem?_push, Array.getElem?_modify, Array.size_modify]
  by_cases e : i = W.heap.size
  · subst e
    rw [if_pos rfl, if_neg (by omega), if_pos rfl]
  · rw [if_neg e, if_neg e]

theorem wpList_store_zero {ops : Array Oper} {rest : List Oper} {op : Oper} {a : Act} {w : World} {Q : Exit → Act → World → Prop} (hgd : op.guard = none) (ho : op.op = .store 26 (.tmp 53) (.tmp 52))
    (b o : Nat) (hx : a.eval (.tmp 53) = .pointer (some ⟨b, o, none⟩)) (hy : a.eval (.tmp 52) = .agg #[.int .i64 0, .int .i64 0, .int .i64 0, .int .i64 0, .int .i64 0, .int .i64 0, .int .i64 0, .int .i64 0, .int .i64 0, .int .i64 0, .slice none 0 0])
    (ht : w.there b o 11) (h : wpList Try.prog ops Q rest (a.put op.dst undef) (w.setCells b o zeroNd.toList)) : wpList Try.prog ops Q (op :: rest) a w :=
  wpList_store_mid hgd 26 (.tmp 53) (.tmp 52) ho b o zeroNd hx hy ht size26 zero_one h

/-- What update leaves. -/
def Updated (b o : Nat) (ty : TypeId) (n' : Nd) (S : Nat → Prop) (W : World) (e : Ending) (W' : World) : Prop :=
  e = .returned (.tuple #[]) ∧ Turned b o S W W' ∧ ∃ S', NodeAt W' b o ty n' S' ∧ ∀ k, S' k → S k ∨ W.heap.size ≤ k

theorem updated_end {W W1 w4 w5 : World} {b o : Nat} {ty : TypeId} {n n' : Nd} {S S1 S4 : Nat → Prop} (hT1 : Turned b o S W W1) (hS1 : ∀ k, S1 k → S k ∨ W.heap.size ≤ k) (hTb : Turned b o S1 W1 w4) (hS4 : ∀ k, S4 k → S1 k ∨ W1.heap.size ≤ k)
    (hT5 : Turned b o (fun _ => False) w4 w5) (hN5 : NodeAt w5 b o ty n S4) (he : n' = n) : Updated b o ty n' S W (.returned (.tuple #[])) w5 := by
  subst he
  refine ⟨rfl, (hT1.trans hTb hS1).trans hT5 (fun k hk => hk.elim), S4, hN5, fun k hk => ?_⟩
  rcases hS4 k hk with q | q
  · exact hS1 k q
  · have := hT1.size; exact .inr (by omega)

set_option maxRecDepth 100000 in
set_option maxHeartbeats 4000000 in
theorem update_zero {fid : Nat} {capt : Array Value} {K : Nat → Prop} {C : World → Prop} {chg : Nd → Nat → Nd} (hchg : Changes fid capt K C chg) (hC : ∀ W W', (∀ k, K k → W'.heap[k]? = W.heap[k]?) → C W → C W') (hf : fid = 75 ∨ fid = 107)
    (W : World) (b o : Nat) (ty : TypeId) (n : Nd) (S : Nat → Prop) (i : Nat) (hi : i ≤ 1073741824) (hCW : C W) (hKb : ¬ K b) (hK : ∀ k, K k → k < W.heap.size) (h : NodeAt W b o ty n S) :
    Calls Try.prog 74 #[.pointer (some ⟨b, o, none⟩), .int .i64 1, .int .i64 i, .func (.func fid) #[] capt] W fun e W' => Updated b o ty (n.upd chg 0 i) S W e W' := by
  obtain ⟨post, hpost⟩ : ∃ post : Ending → World → Prop, post = fun e W' => Updated b o ty (n.upd chg 0 i) S W e W' := ⟨_, rfl⟩
  have HP : Hid (∀ e W', Updated b o ty (n.upd chg 0 i) S W e W' → post e W') := Lib.hid (by rw [hpost]; exact fun e W' a => a)
  rw [← hpost]
  clear hpost
  have hdig := digit_spec i 0 hi (by omega)
  have hcall := fun (W : World) (h : NodeAt W b o ty n S) (hCW : C W) => hchg W b o ty n S (dig i 0) (dig_lt _ _) hCW hKb h
  obtain ⟨d, hd⟩ : ∃ d, d = dig i 0 := ⟨_, rfl⟩
  rw [← hd] at hdig hcall
  rw [show (((0 : Nat) : Int) + 1) = 1 from rfl] at hdig
  have Hdig := Lib.hid hdig
  have Hd := Lib.hid hd
  have Hcall := Lib.hid (hcall W h hCW)
  clear hdig hcall hd h hCW hchg hC
  rcases hf with rfl | rfl
  · go_enter Try.func74, Try.ntmps74
    go_wp2_with fail
    (with_reducible refine (Hdig.out W).mono ?_)
    rintro e w' ⟨rfl, rfl⟩
    go_wp2_with fail
    (with_reducible refine Hcall.out.mono ?_)
    rintro e w2 ⟨rfl, hN2, hT2⟩
    have hfin := HP.out (.returned (.tuple #[])) w2 ⟨rfl, hT2.mono (fun _ h => h.elim), S, by rw [Nd.upd, ← Hd.out]; exact hN2, fun k hk => .inl hk⟩
    have Hfin := Lib.hid hfin
    clear hN2 hT2 hfin
    go_wp2_with fail
    exact bodyPost_ret (results_none rfl _ _ _) rfl Hfin.out
  · go_enter Try.func74, Try.ntmps74
    go_wp2_with fail
    (with_reducible refine (Hdig.out W).mono ?_)
    rintro e w' ⟨rfl, rfl⟩
    go_wp2_with fail
    (with_reducible refine Hcall.out.mono ?_)
    rintro e w2 ⟨rfl, hN2, hT2⟩
    have hfin := HP.out (.returned (.tuple #[])) w2 ⟨rfl, hT2.mono (fun _ h => h.elim), S, by rw [Nd.upd, ← Hd.out]; exact hN2, fun k hk => .inl hk⟩
    have Hfin := Lib.hid hfin
    clear hN2 hT2 hfin
    go_wp2_with fail
    exact bodyPost_ret (results_none rfl _ _ _) rfl Hfin.out

set_option maxRecDepth 100000 in
set_option maxHeartbeats 4000000 in
theorem update_succ {fid : Nat} {capt : Array Value} {K : Nat → Prop} {C : World → Prop} {chg : Nd → Nat → Nd} (hC : ∀ W W', (∀ k, K k → W'.heap[k]? = W.heap[k]?) → C W → C W') (l : Nat) (hl : l ≤ 8) (i : Nat) (hi : i ≤ 1073741824)
    (ih : ∀ (W : World) (b o : Nat) (ty : TypeId) (n : Nd) (S : Nat → Prop), C W → ¬ K b → (∀ k, K k → ¬ S k) → (∀ k, K k → k < W.heap.size) → n.fit l → NodeAt W b o ty n S →
      Calls Try.prog 74 #[.pointer (some ⟨b, o, none⟩), .int .i64 ((l : Int) + 1), .int .i64 i, .func (.func fid) #[] capt] W fun e W' => Updated b o ty (n.upd chg l i) S W e W')
    (W : World) (b o : Nat) (ty : TypeId) (n : Nd) (S : Nat → Prop) (hCW : C W) (hKb : ¬ K b) (hKS : ∀ k, K k → ¬ S k) (hK : ∀ k, K k → k < W.heap.size) (hfit : n.fit (l + 1)) (h : NodeAt W b o ty n S) :
    Calls Try.prog 74 #[.pointer (some ⟨b, o, none⟩), .int .i64 ((l : Int) + 2), .int .i64 i, .func (.func fid) #[] capt] W fun e W' => Updated b o ty (n.upd chg (l + 1) i) S W e W' := by
  obtain ⟨post, hpost⟩ : ∃ post : Ending → World → Prop, post = fun e W' => Updated b o ty (n.upd chg (l + 1) i) S W e W' := ⟨_, rfl⟩
  have HP : Hid (∀ e W', Updated b o ty (n.upd chg (l + 1) i) S W e W' → post e W') := Lib.hid (by rw [hpost]; exact fun e W' a => a)
  rw [← hpost]
  clear hpost
  obtain ⟨v, t0, t1, ks⟩ := n
  have hdig := digit_spec i (l + 1) hi (by omega)
  obtain ⟨d, hd⟩ : ∃ d, d = dig i (l + 1) := ⟨_, rfl⟩
  rw [← hd] at hdig
  have hd8 : d < 8 := by rw [hd]; exact dig_lt _ _
  have Hd := Lib.hid hd
  obtain ⟨L, hL⟩ : ∃ L : Int, L = (l : Int) + 2 := ⟨_, rfl⟩
  rw [show (((l + 1 : Nat) : Int) + 1) = (l : Int) + 2 by omega, ← hL] at hdig
  rw [← hL]
  have hL1 : 2 ≤ L := by omega
  have hL2 : L ≤ 10 := by omega
  have Hdig := Lib.hid hdig
  have HL := Lib.hid hL
  have Ih := Lib.hid ih
  have Hfit := Lib.hid hfit
  have H := Lib.hid h
  have HC := Lib.hid hC
  have HKS := Lib.hid hKS
  have HK := Lib.hid hK
  clear hdig hd hL ih hfit h hC hKS hK
  by_cases hks : ks = []
  · subst hks
    have HUP : Nd.upd chg (l + 1) (.mk v t0 t1 []) i = finNd chg l v t0 t1 (List.replicate 8 Nd.zero) d i := by rw [Hd.out]; rfl
    obtain ⟨⟨S1, hN1, hS1'⟩, hT1⟩ := H.out.grow
    have hS1 : ∀ k, S1 k → S k ∨ W.heap.size ≤ k := fun k hk => .inr (hS1' k hk)
    have hc10 : W.cell? ⟨b, o + 10, none⟩ = some (.slice none 0 0) := H.out.cellNil
    have hf10 := H.out.frozen (o + 10)
    have hblt := H.out.lt
    have hneb : b ≠ W.heap.size := by omega
    have hmk := make8
    go_enter Try.func74, Try.ntmps74
    go_wp2_with fail
    (with_reducible refine (Hdig.out W).mono ?_)
    rintro e w' ⟨rfl, rfl⟩
    go_upto_region 5 with fail
    obtain ⟨W1, hW1⟩ : ∃ W1, W1 = ((W.alloc (.cells zeros8 26)).setCell ⟨b, o + 10, none⟩ (.slice (some ⟨W.heap.size, 0, none⟩) 8 8)) := ⟨_, rfl⟩
    rw [← hW1] at hN1 hT1
    rw [show (W.setCell ⟨b, o + 10, none⟩ (.slice (some ⟨W.heap.size, 0, none⟩) 8 8)).alloc (.cells zeros8 26) = W1 by rw [hW1]; exact setCell_alloc_comm _ _ _ _ hblt]
    clear hc10 hf10 hmk hW1 hS1'
    obtain ⟨ks1, hks1⟩ : ∃ ks1, ks1 = List.replicate 8 Nd.zero := ⟨_, rfl⟩
    have hl1 : ks1.length = 8 := by rw [hks1]; rfl
    have hf1 : ∀ k ∈ ks1, k.fit l := by rw [hks1]; intro k hk; rw [List.eq_of_mem_replicate hk]; exact fit_zero l
    rw [← hks1] at hN1 HUP
    clear hks1
    have hfd : ks1.length = 8 := hl1
    have hd1 : d < ks1.length := by omega
    obtain ⟨bk, cap, T, hc10, hbbk, hSbk, hTS, hNk, hre⟩ := hN1.child d hd1
    rw [hfd] at hc10
    have hC1 : C W1 := HC.out W W1 (fun k hk => hT1.block k (HK.out k hk) (fun e => hKb (e ▸ hk)) (HKS.out k hk)) hCW
    have hKS1 : ∀ k, K k → ¬ S1 k := fun k hk hs => by
      rcases hS1 k hs with q | q
      · exact HKS.out k hk q
      · have := HK.out k hk; omega
    have hcall := Ih.out W1 bk (d * 11) 26 ks1[d] T hC1 (fun hk => hKS1 bk hk hSbk) (fun k hk ht => hKS1 k hk (hTS k ht)) (fun k hk => Nat.lt_of_lt_of_le (HK.out k hk) hT1.size) (hf1 _ (List.getElem_mem hd1)) hNk
    rw [show (l : Int) + 1 = L - 1 by rw [HL.out]; omega] at hcall
    obtain ⟨k1, hk1⟩ : ∃ k1, k1 = (ks1[d]).upd chg l i := ⟨_, rfl⟩
    rw [← hk1] at hcall
    have Hk1 := Lib.hid hk1
    have Hcall := Lib.hid hcall
    have Hre := Lib.hid hre
    have HT1 := Lib.hid hT1
    have HS1 := Lib.hid hS1
    clear hk1 hcall hre hT1 hS1 hC1 hKS1 hN1 hNk hf1 hSbk hTS
    go_wp2_with fail
    (with_reducible refine Hcall.out.mono ?_)
    rintro e w2 ⟨rfl, hT2, T2, hN2, hT2'⟩
    obtain ⟨hc2, -, -⟩ := Hre.out w2 k1 T2 hN2 hT2 hT2'
    rw [hfd] at hc2
    obtain ⟨cur2, c2, hg2, hr2, ho2, hn2⟩ := hN2
    have hs2 := ho2.size
    have hemp := empty_spec ho2.isN w2 (Keeps.refl _)
    have Hr2 := Lib.hid hr2
    have Hemp := Lib.hid hemp
    have HN2 : Hid (NodeAt w2 bk (d * 11) 26 k1 T2) := Lib.hid ⟨cur2, c2, hg2, hr2, ho2, hn2⟩
    have HT2 := Lib.hid hT2
    have HT2' := Lib.hid hT2'
    obtain ⟨em, hem⟩ : ∃ em, em = k1.emp := ⟨_, rfl⟩
    have Hem := Lib.hid hem
    clear hg2 hr2 ho2 hn2 hemp hT2 hT2' hem hc10
    go_wp2_with (first | (refine wpList_load_nd (.tmp 44) rfl rfl bk (d * 11) rfl c2 hs2 Hr2.out ?_))
    (with_reducible refine Hemp.out.mono ?_)
    rw [← Hem.out]
    rintro e w3 ⟨rfl, hB3⟩
    have hN3 : NodeAt w3 bk (d * 11) 26 k1 T2 := HN2.out.kept (hB3.block _ HN2.out.lt) (fun k hk => by obtain ⟨_, _, _, _, ho, _⟩ := HN2.out; exact hB3.block k (ho.lt k hk))
    have hT3 : Turned bk (d * 11) T W1 w3 := HT2.out.trans (Turned.below (S := fun _ => False) hB3 HN2.out.lt) (fun k hk => hk.elim)
    cases em with
    | false =>
      obtain ⟨hc3, hTb, S4, hN4, hS4⟩ := Hre.out w3 k1 T2 hN3 hT3 HT2'.out
      have hrf := refresh_spec hN4 (by simp [hfd]) d hd8 k1 (by rw [List.getElem?_set_self hd1])
      have Hrf := Lib.hid hrf
      have HTb := Lib.hid hTb
      have HS4 := Lib.hid hS4
      clear hN4 hrf hTb hS4 hc3 hN3 hT3 hB3
      go_wp2_with fail
      (with_reducible refine Hrf.out.mono ?_)
      rintro e w5 ⟨rfl, hN5, hT5⟩
      have hfin := HP.out (.returned (.tuple #[])) w5 (updated_end HT1.out HS1.out HTb.out HS4.out hT5 hN5 (by rw [HUP]; exact fin_false hd1 Hk1.out Hem.out))
      have Hfin := Lib.hid hfin
      clear hfin hN5 hT5
      go_wp2_with fail
      exact bodyPost_end (results_none rfl _ _ _) rfl Hfin.out
    | true =>
      have hc3 : w3.cell? ⟨b, o + 10, none⟩ = some (.slice (some ⟨bk, 0, none⟩) 8 cap) := (Keeps.of_below hB3) _ _ hc2
      have hth := hN3.there
      obtain ⟨hN4, hT4⟩ := hN3.over (T := fun _ => False) (owns_zero w3) (fun h => h)
      have hT4' : Turned bk (d * 11) T W1 _ := hT3.trans hT4 (fun k hk => hk.elim)
      obtain ⟨-, hTb, S4, hN5, hS4⟩ := Hre.out _ Nd.zero (fun _ => False) hN4 hT4' (fun k hk => hk.elim)
      obtain ⟨w4, hw4⟩ : ∃ w4, w4 = w3.setCells bk (d * 11) zeroNd.toList := ⟨_, rfl⟩
      rw [← hw4] at hTb hN5
      have hrf := refresh_spec hN5 (by simp [hfd]) d hd8 Nd.zero (by rw [List.getElem?_set_self hd1])
      have Hrf := Lib.hid hrf
      have HTb := Lib.hid hTb
      have HS4 := Lib.hid hS4
      have Hw4 := Lib.hid hw4
      have Hth := Lib.hid hth
      clear hN4 hT4 hT4' hrf hTb hS4 hN3 hT3 hB3 hN5 hw4 hc2 hth
      go_wp2_with (first | (refine wpList_store_zero (by rfl) (by rfl) bk (d * 11) (by rfl) (by rfl) (by with_reducible exact Hth.out) ?_))
      rw [← Hw4.out]
      (with_reducible refine Hrf.out.mono ?_)
      rintro e w5 ⟨rfl, hN5, hT5⟩
      have hfin := HP.out (.returned (.tuple #[])) w5 (updated_end HT1.out HS1.out HTb.out HS4.out hT5 hN5 (by rw [HUP]; exact fin_true hd1 Hk1.out Hem.out))
      have Hfin := Lib.hid hfin
      clear hfin hN5 hT5
      go_wp2_with fail
      exact bodyPost_end (results_none rfl _ _ _) rfl Hfin.out
  · have hfit := Hfit.out
    have hf2 : ks.length = 8 ∧ ∀ k ∈ ks, k.fit l := by
      rcases hfit with q | q
      · exact absurd q hks
      · exact q
    have HUP : Nd.upd chg (l + 1) (.mk v t0 t1 ks) i = finNd chg l v t0 t1 ks d i := by
      have : (if (Nd.mk v t0 t1 ks).ks = [] then List.replicate 8 Nd.zero else (Nd.mk v t0 t1 ks).ks) = ks := if_neg hks
      rw [Hd.out]
      unfold Nd.upd finNd
      rw [this]
      rfl
    obtain ⟨ks1, hks1⟩ : ∃ ks1, ks1 = ks := ⟨_, rfl⟩
    obtain ⟨W1, hW1⟩ : ∃ W1, W1 = W := ⟨_, rfl⟩
    have hN1 : NodeAt W1 b o ty (.mk v t0 t1 ks1) S := by rw [hks1, hW1]; exact H.out
    have hT1 : Turned b o S W W1 := by rw [hW1]; exact Turned.refl _ _ _ _
    obtain ⟨S1, hS1e⟩ : ∃ S1, S1 = S := ⟨_, rfl⟩
    rw [← hS1e] at hN1
    have hS1 : ∀ k, S1 k → S k ∨ W.heap.size ≤ k := fun k hk => .inl (hS1e ▸ hk)
    have hl1 : ks1.length = 8 := by rw [hks1]; exact hf2.1
    have hf1 : ∀ k ∈ ks1, k.fit l := by rw [hks1]; exact hf2.2
    replace HUP : Nd.upd chg (l + 1) (.mk v t0 t1 ks) i = finNd chg l v t0 t1 ks1 d i := by rw [hks1]; exact HUP
    have HW1 := Lib.hid hW1
    clear hfit hf2 hks1 hS1e hW1
    have hfd : ks1.length = 8 := hl1
    have hd1 : d < ks1.length := by omega
    obtain ⟨bk, cap, T, hc10, hbbk, hSbk, hTS, hNk, hre⟩ := hN1.child d hd1
    rw [hfd] at hc10
    have hC1 : C W1 := HC.out W W1 (fun k hk => hT1.block k (HK.out k hk) (fun e => hKb (e ▸ hk)) (HKS.out k hk)) hCW
    have hKS1 : ∀ k, K k → ¬ S1 k := fun k hk hs => by
      rcases hS1 k hs with q | q
      · exact HKS.out k hk q
      · have := HK.out k hk; omega
    have hcall := Ih.out W1 bk (d * 11) 26 ks1[d] T hC1 (fun hk => hKS1 bk hk hSbk) (fun k hk ht => hKS1 k hk (hTS k ht)) (fun k hk => Nat.lt_of_lt_of_le (HK.out k hk) hT1.size) (hf1 _ (List.getElem_mem hd1)) hNk
    rw [show (l : Int) + 1 = L - 1 by rw [HL.out]; omega] at hcall
    obtain ⟨k1, hk1⟩ : ∃ k1, k1 = (ks1[d]).upd chg l i := ⟨_, rfl⟩
    rw [← hk1] at hcall
    have Hk1 := Lib.hid hk1
    have Hcall := Lib.hid hcall
    have Hre := Lib.hid hre
    have HT1 := Lib.hid hT1
    have HS1 := Lib.hid hS1
    clear hk1 hcall hre hT1 hS1 hC1 hKS1 hN1 hNk hf1 hSbk hTS
    have hLne : (L == 1) = false := by simp; omega
    rw [← HW1.out]
    go_enter Try.func74, Try.ntmps74
    go_wp2_with fail
    (with_reducible refine (Hdig.out W1).mono ?_)
    rintro e w' ⟨rfl, rfl⟩
    go_wp2_with fail
    (with_reducible refine Hcall.out.mono ?_)
    rintro e w2 ⟨rfl, hT2, T2, hN2, hT2'⟩
    obtain ⟨hc2, -, -⟩ := Hre.out w2 k1 T2 hN2 hT2 hT2'
    rw [hfd] at hc2
    obtain ⟨cur2, c2, hg2, hr2, ho2, hn2⟩ := hN2
    have hs2 := ho2.size
    have hemp := empty_spec ho2.isN w2 (Keeps.refl _)
    have Hr2 := Lib.hid hr2
    have Hemp := Lib.hid hemp
    have HN2 : Hid (NodeAt w2 bk (d * 11) 26 k1 T2) := Lib.hid ⟨cur2, c2, hg2, hr2, ho2, hn2⟩
    have HT2 := Lib.hid hT2
    have HT2' := Lib.hid hT2'
    obtain ⟨em, hem⟩ : ∃ em, em = k1.emp := ⟨_, rfl⟩
    have Hem := Lib.hid hem
    clear hg2 hr2 ho2 hn2 hemp hT2 hT2' hem hc10
    go_wp2_with (first | (refine wpList_load_nd (.tmp 44) rfl rfl bk (d * 11) rfl c2 hs2 Hr2.out ?_))
    (with_reducible refine Hemp.out.mono ?_)
    rw [← Hem.out]
    rintro e w3 ⟨rfl, hB3⟩
    have hN3 : NodeAt w3 bk (d * 11) 26 k1 T2 := HN2.out.kept (hB3.block _ HN2.out.lt) (fun k hk => by obtain ⟨_, _, _, _, ho, _⟩ := HN2.out; exact hB3.block k (ho.lt k hk))
    have hT3 : Turned bk (d * 11) T W1 w3 := HT2.out.trans (Turned.below (S := fun _ => False) hB3 HN2.out.lt) (fun k hk => hk.elim)
    cases em with
    | false =>
      obtain ⟨hc3, hTb, S4, hN4, hS4⟩ := Hre.out w3 k1 T2 hN3 hT3 HT2'.out
      have hrf := refresh_spec hN4 (by simp [hfd]) d hd8 k1 (by rw [List.getElem?_set_self hd1])
      have Hrf := Lib.hid hrf
      have HTb := Lib.hid hTb
      have HS4 := Lib.hid hS4
      clear hN4 hrf hTb hS4 hc3 hN3 hT3 hB3
      go_wp2_with fail
      (with_reducible refine Hrf.out.mono ?_)
      rintro e w5 ⟨rfl, hN5, hT5⟩
      have hfin := HP.out (.returned (.tuple #[])) w5 (updated_end HT1.out HS1.out HTb.out HS4.out hT5 hN5 (by rw [HUP]; exact fin_false hd1 Hk1.out Hem.out))
      have Hfin := Lib.hid hfin
      clear hfin hN5 hT5
      go_wp2_with fail
      exact bodyPost_end (results_none rfl _ _ _) rfl Hfin.out
    | true =>
      have hc3 : w3.cell? ⟨b, o + 10, none⟩ = some (.slice (some ⟨bk, 0, none⟩) 8 cap) := (Keeps.of_below hB3) _ _ hc2
      have hth := hN3.there
      obtain ⟨hN4, hT4⟩ := hN3.over (T := fun _ => False) (owns_zero w3) (fun h => h)
      have hT4' : Turned bk (d * 11) T W1 _ := hT3.trans hT4 (fun k hk => hk.elim)
      obtain ⟨-, hTb, S4, hN5, hS4⟩ := Hre.out _ Nd.zero (fun _ => False) hN4 hT4' (fun k hk => hk.elim)
      obtain ⟨w4, hw4⟩ : ∃ w4, w4 = w3.setCells bk (d * 11) zeroNd.toList := ⟨_, rfl⟩
      rw [← hw4] at hTb hN5
      have hrf := refresh_spec hN5 (by simp [hfd]) d hd8 Nd.zero (by rw [List.getElem?_set_self hd1])
      have Hrf := Lib.hid hrf
      have HTb := Lib.hid hTb
      have HS4 := Lib.hid hS4
      have Hw4 := Lib.hid hw4
      have Hth := Lib.hid hth
      clear hN4 hT4 hT4' hrf hTb hS4 hN3 hT3 hB3 hN5 hw4 hc2 hth
      go_wp2_with (first | (refine wpList_store_zero (by rfl) (by rfl) bk (d * 11) (by rfl) (by rfl) (by with_reducible exact Hth.out) ?_))
      rw [← Hw4.out]
      (with_reducible refine Hrf.out.mono ?_)
      rintro e w5 ⟨rfl, hN5, hT5⟩
      have hfin := HP.out (.returned (.tuple #[])) w5 (updated_end HT1.out HS1.out HTb.out HS4.out hT5 hN5 (by rw [HUP]; exact fin_true hd1 Hk1.out Hem.out))
      have Hfin := Lib.hid hfin
      clear hfin hN5 hT5
      go_wp2_with fail
      exact bodyPost_end (results_none rfl _ _ _) rfl Hfin.out
end Go.Proofs.Ytmdmbnpgdkmklaa
