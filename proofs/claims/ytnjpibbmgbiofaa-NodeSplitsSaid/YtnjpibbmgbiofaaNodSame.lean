/- Are two nodes the same: kistlaw14.texts, numbers, same. -/
import Derived.Test.YtnjpibbmgbiofaaNodM
import Derived.Deep.DeepCutAuto
namespace Go.Proofs.Ytnjpibbmgbiofaa
open Go.RowKit

set_option maxHeartbeats 1000000 in
theorem texts_any {A1 A2 : Option Addr} {m1 m2 c1 c2 lo1 lo2 : Nat} {l1 l2 : List ByteArray} {w : World} (h1 : Ls w lo1 A1 m1 c1 (sl l1)) (h2 : Ls w lo2 A2 m2 c2 (sl l2)) :
    Calls Try.prog 29 #[.slice A1 m1 c1, .slice A2 m2 c2] w fun e w' => e = .returned (.bool (decide (l1 = l2))) ∧ ∃ n, w' = w.drewN n := by
  have L1 := Lib.hid (show l1.length = m1 by have := h1.1; rwa [length_sl] at this)
  have L2 := Lib.hid (show l2.length = m2 by have := h2.1; rwa [length_sl] at this)
  by_cases hl : m1 = m2
  · subst hl
    have hc1 := h1.2.1
    have hc2 := h1.2.2.1
    have hc3 := h2.2.1
    have H1 := Lib.hid h1
    have H2 := Lib.hid h2
    have HT : Hid (l1 = l2 → decide (l1 = l2) = true) := fun h => decide_eq_true h
    have HF : Hid (¬ l1 = l2 → decide (l1 = l2) = false) := fun h => decide_eq_false h
    clear h1 h2
    go_enter Try.func29, Try.ntmps29
    go_wp2
    go_loopw [5] (fun s5 wr => ∃ i : Nat, i ≤ m1 ∧ s5 = .int .i64 i ∧ l1.take i = l2.take i ∧ ∃ n, wr = w.drewN n) (fun s5 _ => m1 - (intOf s5).toNat)
    case atStart => exact ⟨0, Nat.zero_le _, rfl, rfl, 0, rfl⟩
    case round =>
      obtain ⟨i, hi, rfl, ht, q, rfl⟩ := hrel
      have HTk := Lib.hid ht
      clear ht
      by_cases hlt : i < m1
      · obtain ⟨b1, o1, rfl, _, _⟩ := H1.out.at_ (by omega)
        obtain ⟨b2, o2, rfl, _, _⟩ := H2.out.at_ (by omega)
        have p1 := sl_cell H1.out i hlt
        have p2 := sl_cell H2.out i hlt
        have e1 := Lib.hid (take_snoc l1 .empty i (by have := L1.out; omega))
        have e2 := Lib.hid (take_snoc l2 .empty i (by have := L2.out; omega))
        have HX : Hid (¬ l1.getD i .empty = l2.getD i .empty → ¬ l1 = l2) := fun hn h => hn (by rw [h])
        generalize l1.getD i .empty = u at *
        generalize l2.getD i .empty = v at *
        have hq := @toList_inj u v
        by_cases huv : u = v
        · have HE := Lib.hid huv
          rw [decide_eq_true huv] at hq
          clear huv
          go_wp2
          go_quiet (fail)
          go_wp2
          go_roundw
          case rel => exact ⟨i + 1, by omega, by go_num, by rw [e1.out, e2.out, HTk.out, HE.out], _, rfl⟩
          case measure => simp [intOf]; omega
        · have HE := Lib.hid (HX.out huv)
          rw [decide_eq_false huv] at hq
          clear huv
          go_wp2
          go_quiet (fail)
          go_wp2
          go_ret
          exact ⟨by rw [HF.out HE.out]; rfl, q + nq, by rw [World.drewN_drewN]⟩
      · obtain rfl : i = m1 := by omega
        have hvv : l1 = l2 := by
          have := HTk.out
          rwa [List.take_of_length_le (by have := L1.out; omega), List.take_of_length_le (by have := L2.out; omega)] at this
        have HE := Lib.hid hvv
        clear hvv HTk
        go_wp2
        go_ret
        exact ⟨by rw [HT.out HE.out]; rfl, q, rfl⟩
  · have e1 : ((m1 : Int) == (m2 : Int)) = false := beq_eq_false_iff_ne.2 (by omega)
    have HF : Hid (decide (l1 = l2) = false) := decide_eq_false fun h => hl (by rw [← L1.out, ← L2.out, h])
    clear h1 h2
    go_enter Try.func29, Try.ntmps29
    go_wp2
    go_ret
    exact ⟨by rw [HF.out]; rfl, 0, rfl⟩

set_option maxHeartbeats 1000000 in
theorem numbers_any {A1 A2 : Option Addr} {m1 m2 c1 c2 lo1 lo2 : Nat} {l1 l2 : List Int} {w : World} (h1 : Ls w lo1 A1 m1 c1 (il l1)) (h2 : Ls w lo2 A2 m2 c2 (il l2)) :
    Calls Try.prog 30 #[.slice A1 m1 c1, .slice A2 m2 c2] w fun e w' => e = .returned (.bool (decide (l1 = l2))) ∧ ∃ n, w' = w.drewN n := by
  have L1 := Lib.hid (show l1.length = m1 by have := h1.1; rwa [length_il] at this)
  have L2 := Lib.hid (show l2.length = m2 by have := h2.1; rwa [length_il] at this)
  by_cases hl : m1 = m2
  · subst hl
    have hc1 := h1.2.1
    have hc2 := h1.2.2.1
    have hc3 := h2.2.1
    have H1 := Lib.hid h1
    have H2 := Lib.hid h2
    have HT : Hid (l1 = l2 → decide (l1 = l2) = true) := fun h => decide_eq_true h
    have HF : Hid (¬ l1 = l2 → decide (l1 = l2) = false) := fun h => decide_eq_false h
    clear h1 h2
    go_enter Try.func30, Try.ntmps30
    go_wp2
    go_loopw [5] (fun s5 wr => ∃ i : Nat, i ≤ m1 ∧ s5 = .int .i64 i ∧ l1.take i = l2.take i ∧ ∃ n, wr = w.drewN n) (fun s5 _ => m1 - (intOf s5).toNat)
    case atStart => exact ⟨0, Nat.zero_le _, rfl, rfl, 0, rfl⟩
    case round =>
      obtain ⟨i, hi, rfl, ht, q, rfl⟩ := hrel
      have HTk := Lib.hid ht
      clear ht
      by_cases hlt : i < m1
      · obtain ⟨b1, o1, rfl, _, _⟩ := H1.out.at_ (by omega)
        obtain ⟨b2, o2, rfl, _, _⟩ := H2.out.at_ (by omega)
        have p1 := il_cell H1.out i hlt
        have p2 := il_cell H2.out i hlt
        have e1 := Lib.hid (take_snoc l1 0 i (by have := L1.out; omega))
        have e2 := Lib.hid (take_snoc l2 0 i (by have := L2.out; omega))
        have HX : Hid (¬ l1.getD i 0 = l2.getD i 0 → ¬ l1 = l2) := fun hn h => hn (by rw [h])
        generalize l1.getD i 0 = u at *
        generalize l2.getD i 0 = v at *
        by_cases huv : u = v
        · have HE := Lib.hid huv
          have hq : (u == v) = true := beq_iff_eq.2 huv
          clear huv
          go_wp2
          go_quiet (fail)
          go_wp2
          go_roundw
          case rel => exact ⟨i + 1, by omega, by go_num, by rw [e1.out, e2.out, HTk.out, HE.out], _, rfl⟩
          case measure => simp [intOf]; omega
        · have HE := Lib.hid (HX.out huv)
          have hq : (u == v) = false := beq_eq_false_iff_ne.2 huv
          clear huv
          go_wp2
          go_quiet (fail)
          go_wp2
          go_ret
          exact ⟨by rw [HF.out HE.out]; rfl, q + nq, by rw [World.drewN_drewN]⟩
      · obtain rfl : i = m1 := by omega
        have hvv : l1 = l2 := by
          have := HTk.out
          rwa [List.take_of_length_le (by have := L1.out; omega), List.take_of_length_le (by have := L2.out; omega)] at this
        have HE := Lib.hid hvv
        clear hvv HTk
        go_wp2
        go_ret
        exact ⟨by rw [HT.out HE.out]; rfl, q, rfl⟩
  · have e1 : ((m1 : Int) == (m2 : Int)) = false := beq_eq_false_iff_ne.2 (by omega)
    have HF : Hid (decide (l1 = l2) = false) := decide_eq_false fun h => hl (by rw [← L1.out, ← L2.out, h])
    clear h1 h2
    go_enter Try.func30, Try.ntmps30
    go_wp2
    go_ret
    exact ⟨by rw [HF.out]; rfl, 0, rfl⟩
end Go.Proofs.Ytnjpibbmgbiofaa
