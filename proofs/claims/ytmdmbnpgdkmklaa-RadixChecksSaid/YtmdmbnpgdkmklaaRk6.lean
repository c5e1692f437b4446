/- A child of a node of the call's own: it is turned where it lies, and the node is put together again. -/
import Derived.Test.YtmdmbnpgdkmklaaRk2
import Derived.Test.YtmdmbnpgdkmklaaRk5
namespace Go.Proofs.Ytmdmbnpgdkmklaa
open Go.RowKit
set_option linter.unusedVariables false
set_option linter.unusedSimpArgs false

theorem kids_ne {ks : List Nd} {d : Nat} {k : Nd} (h : ks ≠ []) : ks.set d k ≠ [] := by
  cases ks with
  | nil => exact absurd rfl h
  | cons x xs => cases d <;> simp

/-- A child where it lies; and the node again, when the child has been turned. -/
theorem NodeAt.child {w : World} {b o : Nat} {ty : TypeId} {v : List Int} {t0 t1 : Int} {ks : List Nd} {S : Nat → Prop} (h : NodeAt w b o ty (.mk v t0 t1 ks) S) (d : Nat) (hd : d < ks.length) :
    ∃ bk cap T, w.cell? ⟨b, o + 10, none⟩ = some (.slice (some ⟨bk, 0, none⟩) ks.length cap) ∧ b ≠ bk ∧ S bk ∧ (∀ k, T k → S k) ∧ NodeAt w bk (d * 11) 26 ks[d] T ∧
      ∀ w' k' T', NodeAt w' bk (d * 11) 26 k' T' → Turned bk (d * 11) T w w' → (∀ k, T' k → T k ∨ w.heap.size ≤ k) →
        w'.cell? ⟨b, o + 10, none⟩ = some (.slice (some ⟨bk, 0, none⟩) ks.length cap) ∧ Turned b o S w w' ∧
        ∃ S', NodeAt w' b o ty (.mk v t0 t1 (ks.set d k')) S' ∧ (∀ k, S' k → S k ∨ w.heap.size ≤ k) := by
  obtain ⟨cur, c, hg, hr, ho, hn⟩ := h
  have hblt : b < w.heap.size := (Array.getElem?_eq_some_iff.1 hg).1
  have hSlt := ho.lt
  cases ho with
  | leaf => simp at hd
  | node v t0 t1 ks bk cap curk f F hv8 hvb8 h08 h18 hne hcp hgk hcur hf hk hb hdj =>
    have hbbk : b ≠ bk := fun e => hn (.inl e)
    have hnF : ∀ i, i < ks.length → ¬ F i b := fun i hi e => hn (.inr ⟨i, hi, e⟩)
    have hc10 : w.cell? ⟨b, o + 10, none⟩ = some (.slice (some ⟨bk, 0, none⟩) ks.length cap) := by
      obtain ⟨v0, v1, v2, v3, v4, v5, v6, v7, rfl⟩ := list8 hv8
      exact hr 10 (by simp [ndCells])
    refine ⟨bk, cap, F d, hc10, hbbk, .inl rfl, fun k hk => .inr ⟨d, hd, hk⟩, ⟨curk, f d, hgk, hf d hd, hk d hd, hb d hd⟩, ?_⟩
    intro w' k' T' hN hT hT'
    have hwb : w'.heap[b]? = w.heap[b]? := hT.block b hblt hbbk (hnF d hd)
    obtain ⟨cur', hg', hsz', hoth⟩ := hT.cells curk 26 hgk
    obtain ⟨cur2, c2, hg2, hr2, ho2, hn2⟩ := hN
    have hce : cur2 = cur' := by
      rw [hg'] at hg2
      injection hg2 with h; injection h with h; exact h.symm
    subst hce
    have hT'lt := ho2.lt
    have hT'S : ∀ k, T' k → k ≠ bk := fun k hk e => hn2 (e ▸ hk)
    refine ⟨?_, ⟨hT.os, hT.tape, hT.output, hT.size, fun k hk hkb hS => hT.block k hk (fun e => hS (.inl e)) (fun e => hS (.inr ⟨d, hd, e⟩)), fun cur3 ty3 h3 => ⟨cur3, hwb.trans h3, rfl, fun _ _ => rfl⟩⟩, ?_⟩
    · rw [World.cell?, hwb]
      rw [World.cell?] at hc10
      exact hc10
    · refine ⟨fun k => k = bk ∨ ∃ i, i < ks.length ∧ (if i = d then T' else F i) k, ⟨cur, _, hwb.trans hg, row_of_block hr hwb, ?_, ?_⟩, ?_⟩
      · have hl : (ks.set d k').length = ks.length := by simp
        have := Owns.node (w := w') v t0 t1 (ks.set d k') bk cap cur2 (fun i => if i = d then c2 else f i) (fun i => if i = d then T' else F i) hv8 hvb8 h08 h18 (kids_ne hne) (by rw [hl]; exact hcp) hg2 (by rw [hsz', hcur])
          (fun i hi => by
            rw [hl] at hi
            by_cases e : i = d
            · subst e; simp only [if_true]; exact hr2
            · simp only [if_neg e]
              intro q hq
              have hq11 : q < 11 := by have := (hk i hi).size; omega
              have := hf i hi q hq
              rw [cell_of_row w bk _ curk 26 (0, 0) hgk] at this
              rw [cell_of_row w' bk _ cur2 26 (0, 0) hg2, hoth _ (by
                rcases Nat.lt_or_ge i d with h | h
                · left
                  have : (i + 1) * 11 ≤ d * 11 := Nat.mul_le_mul_right _ h
                  omega
                · right
                  have : (d + 1) * 11 ≤ i * 11 := Nat.mul_le_mul_right _ (by omega)
                  omega)]
              exact this)
          (fun i hi => by
            have hi' : i < ks.length := by rw [hl] at hi; exact hi
            by_cases e : i = d
            · subst e; simp only [if_true, List.getElem_set_self]; exact ho2
            · simp only [if_neg e]
              rw [List.getElem_set_ne (fun h => e h.symm)]
              exact (hk i hi').frame (fun k hk' => hT.block k (hSlt k (.inr ⟨i, hi', hk'⟩)) (fun h => hb i hi' (h ▸ hk')) (hdj i d k hi' hd e hk')))
          (fun i hi => by
            rw [hl] at hi
            by_cases e : i = d
            · subst e; simp only [if_true]; exact hn2
            · simp only [if_neg e]; exact hb i hi)
          (fun i j k hi hj hne' => by
            rw [hl] at hi hj
            by_cases e : i = d
            · have e' : j ≠ d := fun h => hne' (by omega)
              simp only [if_pos e, if_neg e']
              intro hk' hFj
              rcases hT' k hk' with q | q
              · exact hdj d j k hd hj (fun h => e' h.symm) q hFj
              · have := hSlt k (.inr ⟨j, hj, hFj⟩)
                omega
            · by_cases e' : j = d
              · simp only [if_neg e, if_pos e']
                intro hFi hk'
                rcases hT' k hk' with q | q
                · exact hdj d i k hd hi (fun h => e h.symm) q hFi
                · have := hSlt k (.inr ⟨i, hi, hFi⟩)
                  omega
              · simp only [if_neg e, if_neg e']
                exact hdj i j k hi hj hne')
        rw [hl] at this
        exact this
      · rintro (e | ⟨i, hi, hk'⟩)
        · exact hbbk e
        · by_cases e : i = d
          · subst e
            simp only [if_true] at hk'
            rcases hT' b hk' with q | q
            · exact hnF _ hd q
            · omega
          · simp only [if_neg e] at hk'
            exact hnF i hi hk'
      · rintro k (e | ⟨i, hi, hk'⟩)
        · exact .inl (.inl e)
        · by_cases e : i = d
          · subst e
            simp only [if_true] at hk'
            rcases hT' k hk' with q | q
            · exact .inl (.inr ⟨_, hd, q⟩)
            · exact .inr q
          · simp only [if_neg e] at hk'
            exact .inl (.inr ⟨i, hi, hk'⟩)
end Go.Proofs.Ytmdmbnpgdkmklaa
