/- The digests' small functions: a word's bits moved, the words k. -/
import Derived.Test.YtgfmpgflbphpcaaCrc
import Derived.Test.YtgfmpgflbphpcaaLib
import Derived.Test.YtgfmpgflbphpcaaPlainE
namespace Go.Proofs.Ytgfmpgflbphpcaa
open Go.RowKit

theorem wrap_u64_neg (n : Nat) (h0 : 0 < n) (hn : n < 32) : IntKind.u64.wrap (-(n : Int)) = ((18446744073709551616 - n : Nat) : Int) := by
  rw [IntKind.wrap_u64]; omega
theorem ofInt_u64 (a : Nat) (ha : a < 18446744073709551616) : (BitVec.ofInt 64 (a : Int)).toNat = a := by
  rw [BitVec.ofInt_natCast, BitVec.toNat_ofNat]; exact Nat.mod_eq_of_lt (by omega)
theorem rot_count (n : Nat) (h0 : 0 < n) (hn : n < 32) : bits .and .u64 (IntKind.u64.wrap (-(n : Int))) 31 = ((32 - n : Nat) : Int) := by
  rw [wrap_u64_neg n h0 hn]
  show IntKind.u64.wrap ((BitVec.ofInt 64 ((18446744073709551616 - n : Nat) : Int) &&& BitVec.ofInt 64 ((31 : Nat) : Int)).toNat : Int) = _
  rw [BitVec.toNat_and, ofInt_u64 _ (by omega), ofInt_u64 31 (by omega), show (31 : Nat) = 2 ^ 5 - 1 from rfl, Nat.and_two_pow_sub_one_eq_mod, IntKind.wrap_u64]
  omega

theorem rot_or (x n : Nat) (hx : x < 4294967296) (h0 : 0 < n) (hn : n < 32) :
    bits .or .u32 ((x : Int) * 2 ^ (32 - n) % 4294967296) ((x : Int) / 2 ^ (32 - (32 - n))) = ((rotr x n : Nat) : Int) := by
  have h1 : 2 ^ n * 2 ^ (32 - n) = 4294967296 := by rw [← Nat.pow_add, show n + (32 - n) = 32 by omega]
  have hp : 0 < 2 ^ n := Nat.pow_pos (by omega)
  have hd : x / 2 ^ n < 2 ^ (32 - n) := by
    rw [Nat.div_lt_iff_lt_mul hp, Nat.mul_comm, h1]; exact hx
  have hA : (x : Int) * 2 ^ (32 - n) % 4294967296 = ((x % 2 ^ n * 2 ^ (32 - n) : Nat) : Int) := by
    rw [show (x : Int) * 2 ^ (32 - n) % 4294967296 = ((x * 2 ^ (32 - n) % (2 ^ n * 2 ^ (32 - n)) : Nat) : Int) by rw [h1, Int.natCast_emod, Int.natCast_mul, Int.natCast_pow]; rfl, Nat.mul_mod_mul_right]
  have hB : (x : Int) / 2 ^ (32 - (32 - n)) = ((x / 2 ^ n : Nat) : Int) := by
    rw [show 32 - (32 - n) = n by omega]; push_cast; rfl
  have hr := rotr_lt hx h0 hn
  rw [hA, hB]
  have hAl : x % 2 ^ n * 2 ^ (32 - n) < 4294967296 := by
    rw [← h1]; exact Nat.mul_lt_mul_of_pos_right (Nat.mod_lt _ hp) (Nat.pow_pos (by omega))
  have hBl : x / 2 ^ n < 4294967296 := Nat.lt_of_le_of_lt (Nat.div_le_self _ _) hx
  show IntKind.u32.wrap ((BitVec.ofInt 32 _ ||| BitVec.ofInt 32 _).toNat : Int) = _
  rw [BitVec.toNat_or, BitVec.ofInt_natCast, BitVec.ofInt_natCast, BitVec.toNat_ofNat, BitVec.toNat_ofNat, Nat.mod_eq_of_lt hAl, Nat.mod_eq_of_lt hBl, ← Nat.shiftLeft_eq, ← Nat.shiftLeft_add_eq_or_of_lt hd, Nat.shiftLeft_eq, Nat.add_comm]
  show IntKind.u32.wrap ((rotr x n : Nat) : Int) = _
  rw [IntKind.wrap_u32]; omega
set_option maxHeartbeats 400000 in
theorem rot_any (x n : Nat) (w : World) (hx : x < 4294967296) (h0 : 0 < n) (hn : n < 32) :
    Calls Try.prog 50 #[.int .u32 x, .int .i64 (-(n : Int))] w fun e w' => e = .returned (.int .u32 (rotr x n : Nat)) ∧ w = w' := by
  have hc := rot_count n h0 hn
  go_enter Try.func50, Try.ntmps50
  go_wp2
  go_ret
  rw [rot_or x n hx h0 hn]
  exact ⟨rfl, rfl⟩
def shaN : List Nat := [6, 11, 25, 2, 13, 22, 7, 18, 17, 19]
theorem rtu (x n : Nat) (hx : x < 4294967296) (h0 : 0 < n) (hn : n < 32) :
    IntKind.i64.wrap ((x : Int) / 2 ^ n + (x : Int) % 2 ^ n * 2 ^ (32 - n)) = ((rotr x n : Nat) : Int) := by
  have hr := rotr_lt hx h0 hn
  have : (x : Int) / 2 ^ n + (x : Int) % 2 ^ n * 2 ^ (32 - n) = ((rotr x n : Nat) : Int) := by unfold rotr; push_cast; rfl
  rw [this, IntKind.wrap_i64]; omega
set_option maxHeartbeats 400000 in
theorem rturn_any (x n : Nat) (w : World) (hx : x < 4294967296) (h : n ∈ shaN) :
    Calls Try.prog 51 #[.int .i64 x, .int .i64 n] w fun e w' => e = .returned (.int .i64 (rotr x n : Nat)) ∧ ∃ q, w' = w.drewN q := by
  simp only [shaN, List.mem_cons, List.not_mem_nil, or_false] at h
  rcases h with rfl | rfl | rfl | rfl | rfl | rfl | rfl | rfl | rfl | rfl
  all_goals
    have hr : ∀ n ∈ shaN, rotr x n = x / 2 ^ n + x % 2 ^ n * 2 ^ (32 - n) := fun _ _ => rfl
    rw [hr _ (by decide)]
    go_enter Try.func51, Try.ntmps51
    go_wp2
    go_quiet (fail)
    go_wp2
    go_ret
    exact ⟨rfl, _, rfl⟩
theorem turn_any (x n : Nat) (w : World) (hx : x < 4294967296) (h : n ∈ shaN) :
    Calls Try.prog 39 #[.int .u32 x, .int .i64 n] w fun e w' => e = .returned (.int .u32 (rotr x n : Nat)) ∧ w = w' := by
  have h0 : 0 < n ∧ n < 32 := by
    simp only [shaN, List.mem_cons, List.not_mem_nil, or_false] at h; omega
  have hw : IntKind.i64.wrap (-(n : Int)) = -(n : Int) := by rw [IntKind.wrap_i64]; omega
  go_enter Try.func39, Try.ntmps39
  go_wp2_with (go_at_call 50; refine (rot_any x n _ hx h0.1 h0.2).mono ?_; rintro e w' ⟨rfl, rfl⟩)
  go_ret
  exact ⟨rfl, rfl⟩
end Go.Proofs.Ytgfmpgflbphpcaa
