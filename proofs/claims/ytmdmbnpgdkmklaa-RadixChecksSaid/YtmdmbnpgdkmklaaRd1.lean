/- radix.absent answers whether a node is the zero value. -/
import Derived.Test.YtmdmbnpgdkmklaaBase
namespace Go.Proofs.Ytmdmbnpgdkmklaa
open Go.RowKit
def Nd.absent (n : Nd) : Bool := n.ks.isEmpty && (n.t0 == 0 && n.t1 == 0) && n.vs.all (· == 0)

theorem ret_bool {a b : Bool} (h : a = b) : Ending.returned (.bool a) = .returned (.bool b) := by rw [h]
theorem ret_int {a b : Int} (h : a = b) : Ending.returned (.int .i64 a) = .returned (.int .i64 b) := by rw [h]

set_option maxRecDepth 100000 in
set_option maxHeartbeats 400000 in
theorem absent_spec {w : World} {n : Nd} {c : Array Value} (h : IsN w n c) :
    Calls Try.prog 67 #[.agg c] w fun e w' => e = .returned (.bool n.absent) ∧ Below w.heap.size w w' := by
  have he2 : ∀ (w : World) a b c d, (binOp .eql 23 (.agg #[.int .i64 a, .int .i64 b]) (.agg #[.int .i64 c, .int .i64 d])).run Try.prog w = .ok (.bool ([a, b] == [c, d])) w :=
    fun w a b c d => eqlArr w 23 2 Try.underlying23 [a, b] [c, d] rfl rfl
  cases h with
  | mk v t0 t1 ks a b o cap f hv hvb h0 h1 ha hl hcp hf hk =>
    obtain ⟨v0, v1, v2, v3, v4, v5, v6, v7, rfl⟩ := list8 hv
    have he8 := fun (w : World) => eqlArr w 22 8 Try.underlying22 [v0, v1, v2, v3, v4, v5, v6, v7] [0, 0, 0, 0, 0, 0, 0, 0] rfl rfl
    clear hvb hf hk ha
    simp only [ndCells, List.map_cons, List.map_nil, List.cons_append, List.nil_append] at he8 ⊢
    by_cases hks : ks = []
    · subst hks
      by_cases ht : t0 = 0 ∧ t1 = 0
      · obtain ⟨rfl, rfl⟩ := ht
        go_enter Try.func67, Try.ntmps67
        go_wp2
        go_ret
        exact ⟨ret_bool (by simp [Nd.absent, Nd.ks, Nd.t0, Nd.t1, Nd.vs]), (Below.refl _ _).alloc (Nat.le_refl _) _⟩
      · have hb : ([t0, t1] == [0, 0]) = false := by simpa using ht
        have he2' : ∀ (w : World), (binOp .eql 23 (.agg #[.int .i64 t0, .int .i64 t1]) (.agg #[.int .i64 0, .int .i64 0])).run Try.prog w = .ok (.bool false) w := fun w => hb ▸ he2 w t0 t1 0 0
        clear he2 hb
        have ht' := Lib.hid ht
        clear ht
        go_enter Try.func67, Try.ntmps67
        go_wp2
        go_ret
        have ht := ht'.out
        exact ⟨ret_bool (by simp [Nd.absent, Nd.ks, Nd.t0, Nd.t1, Nd.vs]; intro a b; exact absurd ⟨a, b⟩ ht), (Below.refl _ _).alloc (Nat.le_refl _) _⟩
    · have hn : ks.length ≠ 0 := by simpa using hks
      go_enter Try.func67, Try.ntmps67
      go_wp2
      go_ret
      exact ⟨ret_bool (by simp [Nd.absent, Nd.ks, hks]), (Below.refl _ _).alloc (Nat.le_refl _) _⟩
end Go.Proofs.Ytmdmbnpgdkmklaa
