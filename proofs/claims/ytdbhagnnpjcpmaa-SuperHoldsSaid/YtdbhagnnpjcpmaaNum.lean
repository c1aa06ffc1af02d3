/- Numbers as bytes: super.number, kistref10.number, taker.take, kistref10.value. -/
import Derived.Test.YtdbhagnnpjcpmaaSupM
import Derived.Test.YtdbhagnnpjcpmaaBytes
import Derived.Test.YtdbhagnnpjcpmaaAppZ
namespace Go.Proofs.Ytdbhagnnpjcpmaa
open Go.RowKit

theorem shift_byte (n j : Nat) : Value.int .u8 ((n : Int) / 2 ^ (8 * j) % 256) = bv (UInt8.ofNat (n / 256 ^ j)) := by
  refine bv_of _ _ ?_
  rw [show (256 : Nat) ^ j = 2 ^ (8 * j) by rw [Nat.pow_mul]]
  simp

/-- what 'number' leaves: k bytes more -/
def NumPost (w : World) (base : Nat) (A : Option Addr) (m n k : Nat) (l : List UInt8) (e : Ending) (w' : World) : Prop :=
  ∃ A' c', e = .returned (.slice A' (m + k) c') ∧ Own w' base 5 1 A' (m + k) c' (bvs (l ++ leB n k)) ∧ w.grownBy w' (ablk A) ∧ (ablk A' = ablk A ∨ ∀ g, ablk A' = some g → w.heap.size ≤ g)

set_option maxHeartbeats 1000000 in
theorem number_any (n k : Nat) {A : Option Addr} {m c base : Nat} {l : List UInt8} {w : World} (ho : Ap w base A m c (bvs l)) (hbase : base ≤ w.heap.size) (hk0 : 0 < k) (hk : k ≤ 4) (hm : m + k ≤ 140737488355328) :
    Calls Try.prog 79 #[.slice A m c, .int .i64 n, .int .i64 k] w (NumPost w base A m n k l) := by
  go_enter Try.func79, Try.ntmps79
  go_wp2
  go_loopw [0, 7, 9] (fun s0 s7 s9 wr => ∃ (j : Nat) (A1 : Option Addr) (c1 : Nat), j ≤ k ∧ s9 = .int .i64 j ∧ s0 = .slice A1 (m + j) c1 ∧ Ap wr base A1 (m + j) c1 (bvs (l ++ leB n j)) ∧ (0 < j → Own wr base 5 1 A1 (m + j) c1 (bvs (l ++ leB n j))) ∧ w.grownBy wr (ablk A) ∧ (ablk A1 = ablk A ∨ ∀ g, ablk A1 = some g → w.heap.size ≤ g))
    (fun _ _ s9 _ => k - (intOf s9).toNat)
  case atStart => exact ⟨0, A, c, Nat.zero_le _, rfl, rfl, by simpa [leB] using ho, fun h => absurd h (by omega), World.grownBy.refl _ _, .inl rfl⟩
  case round =>
    obtain ⟨j, A1, c1, hj, rfl, rfl, ho1, ho1', hg1, hf1⟩ := hrel
    clear ho
    have hz := hg1.size
    by_cases hlt : j < k
    · have HS := Lib.hid (leB_snoc n j)
      have e5 : IntKind.i64.wrap (8 * (j : Int)) = 8 * (j : Int) := IntWalk.i64_in _ (by omega)
      have e6 : (8 * (j : Int)).toNat = 8 * j := by omega
      go_wp2_with (at_builtin; refine wpList_ap rfl (.tmp 12) (.tmp 18) 39 rfl Try.underlying39 info5 rfl rfl (ho1.alloc _) rfl (rd_one _ _ rfl) rfl (by omega) (one_int _ _) (by omega) (by simp; omega) ?_; intro A2 c2 w2 ho2 hg2 hd2)
      have ha := World.grownBy_alloc wr (.cells #[Value.int .u8 ((n : Int) / 2 ^ (8 * j) % 256)] 5) (ablk A)
      go_roundw
      case rel =>
        refine ⟨j + 1, A2, c2, by omega, by go_num, rfl, .inl ?_, fun _ => ?_, grown_own (hg1.trans ha) hg2 hf1, fresh_step (w1 := wr.alloc _) hf1 hd2 (by simp; omega)⟩
        all_goals
          rw [HS.out, ← List.append_assoc, bvs_append]
          rw [shift_byte] at ho2
          exact ho2
      case measure => simp [intOf]; omega
    · obtain rfl : j = k := by omega
      go_wp2
      go_ret
      exact ⟨A1, c1, rfl, ho1' hk0, hg1, hf1⟩

set_option maxHeartbeats 1000000 in
theorem rnumber_any (n k : Nat) {A : Option Addr} {m c base : Nat} {l : List UInt8} {w : World} (ho : Ap w base A m c (bvs l)) (hbase : base ≤ w.heap.size) (hk0 : 0 < k) (hk : k ≤ 4) (hm : m + k ≤ 140737488355328) (hn : n < 9223372036854775808) :
    Calls Try.prog 51 #[.slice A m c, .int .i64 n, .int .i64 k] w (NumPost w base A m n k l) := by
  go_enter Try.func51, Try.ntmps51
  go_wp2
  go_loopw [0, 1, 7] (fun s0 s1 s7 wr => ∃ (j : Nat) (A1 : Option Addr) (c1 : Nat), j ≤ k ∧ s7 = .int .i64 j ∧ s1 = .int .i64 ((n / 256 ^ j : Nat) : Int) ∧ s0 = .slice A1 (m + j) c1 ∧ Ap wr base A1 (m + j) c1 (bvs (l ++ leB n j)) ∧ (0 < j → Own wr base 5 1 A1 (m + j) c1 (bvs (l ++ leB n j))) ∧ w.grownBy wr (ablk A) ∧ (ablk A1 = ablk A ∨ ∀ g, ablk A1 = some g → w.heap.size ≤ g))
    (fun _ _ s7 _ => k - (intOf s7).toNat)
  case atStart => exact ⟨0, A, c, Nat.zero_le _, rfl, by simp, rfl, by simpa [leB] using ho, fun h => absurd h (by omega), World.grownBy.refl _ _, .inl rfl⟩
  case round =>
    obtain ⟨j, A1, c1, hj, rfl, rfl, rfl, ho1, ho1', hg1, hf1⟩ := hrel
    clear ho
    have hz := hg1.size
    by_cases hlt : j < k
    · have HS := Lib.hid (leB_snoc n j)
      have HD := Lib.hid (show n / 256 ^ (j + 1) = n / 256 ^ j / 256 by rw [Nat.div_div_eq_div_mul, Nat.pow_succ])
      have hx : n / 256 ^ j < 9223372036854775808 := Nat.lt_of_le_of_lt (Nat.div_le_self _ _) hn
      generalize n / 256 ^ j = x at *
      go_wp2_with (at_builtin; refine wpList_ap rfl (.tmp 13) (.tmp 17) 39 rfl Try.underlying39 info5 rfl rfl (ho1.alloc _) rfl (rd_one _ _ rfl) rfl (by omega) (one_int _ _) (by omega) (by simp; omega) ?_; intro A2 c2 w2 ho2 hg2 hd2)
      have ha := World.grownBy_alloc wr (.cells #[Value.int .u8 ((x : Int) % 256)] 5) (ablk A)
      go_roundw
      case rel =>
        refine ⟨j + 1, A2, c2, by omega, by go_num, by rw [HD.out]; go_num, rfl, .inl ?_, fun _ => ?_, grown_own (hg1.trans ha) hg2 hf1, fresh_step (w1 := wr.alloc _) hf1 hd2 (by simp; omega)⟩
        all_goals
          rw [HS.out, ← List.append_assoc, bvs_append]
          rw [bv_of ((x : Int) % 256) x (by omega)] at ho2
          exact ho2
      case measure => simp [intOf]; omega
    · obtain rfl : j = k := by omega
      go_wp2
      go_ret
      exact ⟨A1, c1, rfl, ho1' hk0, hg1, hf1⟩
end Go.Proofs.Ytdbhagnnpjcpmaa
