/- kistref14.Get of a block that is none's: no leaf and no inner one, or no bytes. -/
import Derived.Test.YtnjpibbmgbiofaaNodGetRM
namespace Go.Proofs.Ytnjpibbmgbiofaa
open Go.RowKit
set_option linter.unusedSimpArgs false
set_option linter.unusedVariables false

set_option maxRecDepth 100000 in
set_option maxHeartbeats 400000 in
theorem rget_no {kd : Int} {A : Option Addr} {c lo : Nat} {body : List UInt8} {w : World} (hb : Bs w lo A body.length c body) (h : (kd ≠ 1 ∧ kd ≠ 2) ∨ body.length = 0) :
    Calls Try.prog 19 #[.agg #[.int .i64 kd, .slice A body.length c]] w (NGet w (getN kd body)) := by
  have hno : Hid (getN kd body = none) := by
    show _ = _
    rcases h with h | h
    · unfold getN
      rw [if_neg]
      intro hg
      have := hg.2.2.1
      unfold kindN at this
      split at this
      · exact h.1 this.symm
      · exact h.2 this.symm
    · obtain rfl := List.eq_nil_of_length_eq_zero h
      exact getN_bad (j := 0) (Nat.zero_le _) rfl
  have hz := zero25_
  have hR : Blk ((w.alloc (.cells #[.int .i64 kd, .slice A body.length c] 34)).alloc (.cells #[.bool false, .slice none 0 0, .slice none 0 0, .slice none 0 0] 25)) (w.heap.size + 1) 25 [.bool false, .slice none 0 0, .slice none 0 0, .slice none 0 0] :=
    Blk.new_at (cs := [.bool false, .slice none 0 0, .slice none 0 0, .slice none 0 0]) (n := w.heap.size + 1) (by simp)
  have hU : Below w.heap.size w ((w.alloc (.cells #[.int .i64 kd, .slice A body.length c] 34)).alloc (.cells #[.bool false, .slice none 0 0, .slice none 0 0, .slice none 0 0] 25)) := ((Below.refl _ _).alloc (Nat.le_refl _) _).alloc (by simp) _
  clear hb
  by_cases h1 : kd = 1 ∨ kd = 2
  · have hl : body.length = 0 := by rcases h with h | h; (· rcases h1 with h1 | h1; (· exact absurd h1 h.1); (· exact absurd h1 h.2)); exact h
    clear h
    rw [hl] at hR hU ⊢
    rcases h1 with rfl | rfl
    · go_enter Try.func19, Try.ntmps19
      go_wp2
      refine bodyPost_ret (results_rd rfl rfl rfl hR) rfl ?_
      rw [hno.out]
      exact nget_none rfl hU
    · go_enter Try.func19, Try.ntmps19
      go_wp2
      refine bodyPost_ret (results_rd rfl rfl rfl hR) rfl ?_
      rw [hno.out]
      exact nget_none rfl hU
  · have e1 : (kd == 1) = false := beq_eq_false_iff_ne.2 (fun h => h1 (.inl h))
    have e2 : (kd == 2) = false := beq_eq_false_iff_ne.2 (fun h => h1 (.inr h))
    have f1 : ¬ kd = 1 := fun h => h1 (.inl h)
    have f2 : ¬ kd = 2 := fun h => h1 (.inr h)
    clear h h1
    go_enter Try.func19, Try.ntmps19
    go_wp2
    refine bodyPost_ret (results_rd rfl rfl rfl hR) rfl ?_
    rw [hno.out]
    exact nget_none rfl hU

end Go.Proofs.Ytnjpibbmgbiofaa
