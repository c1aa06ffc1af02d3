/- Is there a text, a number that is too great: slices.ContainsFunc with node.May's two functions. -/
import Derived.Test.YtnjpibbmgbiofaaNodM
import Derived.Deep.DeepCutAuto
namespace Go.Proofs.Ytnjpibbmgbiofaa
open Go.RowKit

theorem long_any (s : ByteArray) (h : s.size ≤ 140737488355328) (w : World) : Calls Try.prog 24 #[.string s] w fun e w' => e = .returned (.bool (decide (24 < s.size))) ∧ w = w' := by
  go_enter Try.func24, Try.ntmps24
  go_wp2
  go_ret
  refine ⟨?_, rfl⟩
  show Ending.returned (.bool (decide ((24 : Int) < (s.size : Int)))) = _
  rw [show decide ((24 : Int) < (s.size : Int)) = decide (24 < s.size) from decide_eq_decide.2 (by omega)]
theorem wide_b {n : Int} {d : Bool} (hd : decide (n < 0 ∨ 65535 < n) = d) (w : World) : Calls Try.prog 26 #[.int .i64 n] w fun e w' => e = .returned (.bool d) ∧ w = w' := by
  have HD := Lib.hid hd
  clear hd
  by_cases h1 : n < 0
  · go_enter Try.func26, Try.ntmps26
    go_wp2
    go_ret
    exact ⟨by rw [← HD.out, decide_eq_true (.inl h1)]; rfl, rfl⟩
  · by_cases h2 : 65535 < n
    · go_enter Try.func26, Try.ntmps26
      go_wp2
      go_ret
      exact ⟨by rw [← HD.out, decide_eq_true (.inr h2)]; rfl, rfl⟩
    · go_enter Try.func26, Try.ntmps26
      go_wp2
      go_ret
      exact ⟨by rw [← HD.out, decide_eq_false (by omega)]; rfl, rfl⟩
theorem wide_any (n : Int) (w : World) : Calls Try.prog 26 #[.int .i64 n] w fun e w' => e = .returned (.bool (decide (n < 0 ∨ 65535 < n))) ∧ w = w' := wide_b rfl w

def shortAll (l : List ByteArray) : Prop := ∀ i, i < l.length → (l.getD i .empty).size ≤ 24
instance (l : List ByteArray) : Decidable (shortAll l) := by unfold shortAll; infer_instance
def narrowAll (l : List Int) : Prop := ∀ i, i < l.length → 0 ≤ l.getD i 0 ∧ l.getD i 0 ≤ 65535
instance (l : List Int) : Decidable (narrowAll l) := by unfold narrowAll; infer_instance

set_option maxHeartbeats 1000000 in
theorem idxs_any {A : Option Addr} {n c lo : Nat} {l : List ByteArray} {w : World} (h : Ls w lo A n c (sl l)) (hs : ∀ i, (l.getD i .empty).size ≤ 140737488355328) :
    Calls Try.prog 40 #[.slice A n c, .func (.func 24) #[] #[]] w fun e w' => (∃ r : Int, e = .returned (.int .i64 r) ∧ Hid ((shortAll l → r = -1) ∧ (¬ shortAll l → 0 ≤ r))) ∧ w = w' := by
  have HR := Lib.hid h
  have hl := Lib.hid (show l.length = n by have := h.1; rwa [length_sl] at this)
  have hc1 := h.2.1
  have hc2 := h.2.2.1
  have HS := Lib.hid hs
  clear h hs
  go_enter Try.func40, Try.ntmps40
  go_wp2
  go_loopw [5, 8] (fun s5 s8 wr => ∃ j : Nat, j ≤ n ∧ s8 = .int .i64 j ∧ (∀ i, i < j → (l.getD i .empty).size ≤ 24) ∧ wr = w) (fun _ s8 _ => n - (intOf s8).toNat)
  case atStart => exact ⟨0, Nat.zero_le _, rfl, fun i hi => absurd hi (by omega), rfl⟩
  case round =>
    obtain ⟨j, hj, rfl, ha, rfl⟩ := hrel
    have HA := Lib.hid ha
    clear ha
    by_cases hlt : j < n
    · obtain ⟨b, o, rfl, _, _⟩ := HR.out.at_ (by omega)
      have cd := sl_cell HR.out j hlt
      have C1 := Lib.hid (long_any (l.getD j .empty) (HS.out j) wr)
      by_cases hk : 24 < (l.getD j .empty).size
      · have HN : Hid (¬ shortAll l) := fun h2 => by have := h2 j (by rw [hl.out]; exact hlt); omega
        rw [decide_eq_true hk] at C1
        clear hk
        generalize l.getD j .empty = u at *
        go_wp2_with ((with_reducible refine Calls.mono C1.out ?_); rintro e w1 ⟨rfl, rfl⟩)
        go_ret
        exact ⟨⟨(j : Int), rfl, ⟨fun h => absurd h HN.out, fun _ => by omega⟩⟩, rfl⟩
      · have HK : Hid (∀ i, i < j + 1 → (l.getD i .empty).size ≤ 24) := fun i hi => by
          by_cases hij : i < j
          · exact HA.out i hij
          · obtain rfl : i = j := by omega
            omega
        rw [decide_eq_false hk] at C1
        clear hk
        generalize l.getD j .empty = u at *
        go_wp2_with ((with_reducible refine Calls.mono C1.out ?_); rintro e w1 ⟨rfl, rfl⟩)
        go_roundw
        case rel => exact ⟨j + 1, by omega, by go_num, HK.out, trivial⟩
        case measure => simp [intOf]; omega
    · obtain rfl : j = n := by omega
      have HY : Hid (shortAll l) := fun i hi => HA.out i (by rw [← hl.out]; exact hi)
      go_wp2
      go_ret
      exact ⟨⟨-1, rfl, ⟨fun _ => rfl, fun h => absurd HY.out h⟩⟩, rfl⟩

theorem cons_any {A : Option Addr} {n c lo : Nat} {l : List ByteArray} {w : World} (h : Ls w lo A n c (sl l)) (hs : ∀ i, (l.getD i .empty).size ≤ 140737488355328) :
    Calls Try.prog 23 #[.slice A n c, .func (.func 24) #[] #[]] w fun e w' => e = .returned (.bool (decide (¬ shortAll l))) ∧ w = w' := by
  have C1 := Lib.hid (idxs_any h hs)
  clear h hs
  go_enter Try.func23, Try.ntmps23
  go_wp2_with ((with_reducible refine Calls.mono C1.out ?_); rintro e w1 ⟨⟨r, rfl, hr⟩, rfl⟩)
  go_ret
  refine ⟨?_, rfl⟩
  show Ending.returned (.bool (decide (0 ≤ r))) = _
  by_cases hsh : shortAll l
  · have hr := hr.out.1 hsh
    rw [decide_eq_false (by omega), decide_eq_false (by simp [hsh])]
  · have hr := hr.out.2 hsh
    rw [decide_eq_true hr, decide_eq_true hsh]
set_option maxHeartbeats 1000000 in
theorem idxd_any {A : Option Addr} {n c lo : Nat} {l : List Int} {w : World} (h : Ls w lo A n c (il l)) :
    Calls Try.prog 41 #[.slice A n c, .func (.func 26) #[] #[]] w fun e w' => (∃ r : Int, e = .returned (.int .i64 r) ∧ Hid ((narrowAll l → r = -1) ∧ (¬ narrowAll l → 0 ≤ r))) ∧ w = w' := by
  have HR := Lib.hid h
  have hl := Lib.hid (show l.length = n by have := h.1; rwa [length_il] at this)
  have hc1 := h.2.1
  have hc2 := h.2.2.1
  clear h
  go_enter Try.func41, Try.ntmps41
  go_wp2
  go_loopw [5, 8] (fun s5 s8 wr => ∃ j : Nat, j ≤ n ∧ s8 = .int .i64 j ∧ (∀ i, i < j → 0 ≤ l.getD i 0 ∧ l.getD i 0 ≤ 65535) ∧ wr = w) (fun _ s8 _ => n - (intOf s8).toNat)
  case atStart => exact ⟨0, Nat.zero_le _, rfl, fun i hi => absurd hi (by omega), rfl⟩
  case round =>
    obtain ⟨j, hj, rfl, ha, rfl⟩ := hrel
    have HA := Lib.hid ha
    clear ha
    by_cases hlt : j < n
    · obtain ⟨b, o, rfl, _, _⟩ := HR.out.at_ (by omega)
      have cd := il_cell HR.out j hlt
      have C1 := Lib.hid (wide_any (l.getD j 0) wr)
      by_cases hk : l.getD j 0 < 0 ∨ 65535 < l.getD j 0
      · have HN : Hid (¬ narrowAll l) := fun h2 => by have := h2 j (by rw [hl.out]; exact hlt); omega
        rw [decide_eq_true hk] at C1
        clear hk
        generalize l.getD j 0 = u at *
        go_wp2_with ((with_reducible refine Calls.mono C1.out ?_); rintro e w1 ⟨rfl, rfl⟩)
        go_ret
        exact ⟨⟨(j : Int), rfl, ⟨fun h => absurd h HN.out, fun _ => by omega⟩⟩, rfl⟩
      · have HK : Hid (∀ i, i < j + 1 → 0 ≤ l.getD i 0 ∧ l.getD i 0 ≤ 65535) := fun i hi => by
          by_cases hij : i < j
          · exact HA.out i hij
          · obtain rfl : i = j := by omega
            omega
        rw [decide_eq_false hk] at C1
        clear hk
        generalize l.getD j 0 = u at *
        go_wp2_with ((with_reducible refine Calls.mono C1.out ?_); rintro e w1 ⟨rfl, rfl⟩)
        go_roundw
        case rel => exact ⟨j + 1, by omega, by go_num, HK.out, trivial⟩
        case measure => simp [intOf]; omega
    · obtain rfl : j = n := by omega
      have HY : Hid (narrowAll l) := fun i hi => HA.out i (by rw [← hl.out]; exact hi)
      go_wp2
      go_ret
      exact ⟨⟨-1, rfl, ⟨fun _ => rfl, fun h => absurd HY.out h⟩⟩, rfl⟩

theorem cond_any {A : Option Addr} {n c lo : Nat} {l : List Int} {w : World} (h : Ls w lo A n c (il l)) :
    Calls Try.prog 25 #[.slice A n c, .func (.func 26) #[] #[]] w fun e w' => e = .returned (.bool (decide (¬ narrowAll l))) ∧ w = w' := by
  have C1 := Lib.hid (idxd_any h)
  clear h
  go_enter Try.func25, Try.ntmps25
  go_wp2_with ((with_reducible refine Calls.mono C1.out ?_); rintro e w1 ⟨⟨r, rfl, hr⟩, rfl⟩)
  go_ret
  refine ⟨?_, rfl⟩
  show Ending.returned (.bool (decide (0 ≤ r))) = _
  by_cases hsh : narrowAll l
  · have hr := hr.out.1 hsh
    rw [decide_eq_false (by omega), decide_eq_false (by simp [hsh])]
  · have hr := hr.out.2 hsh
    rw [decide_eq_true hr, decide_eq_true hsh]
end Go.Proofs.Ytnjpibbmgbiofaa
