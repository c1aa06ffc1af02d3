/- Numbers out of bytes: taker.take, kistref10.value. -/
import Derived.Test.YtdbhagnnpjcpmaaSupM
namespace Go.Proofs.Ytdbhagnnpjcpmaa
open Go.RowKit

theorem or_step (X y j : Nat) (hX : X < 256 ^ j) (hy : y < 256) (hj : j < 4) : bits .or .i64 (X : Int) ((y * 2 ^ (8 * j) : Nat) : Int) = ((X + 256 ^ j * y : Nat) : Int) := by
  have e : (256 : Nat) ^ j = 2 ^ (8 * j) := by rw [Nat.pow_mul]
  have hp : 2 ^ (8 * j) ≤ 16777216 := by
    have : 2 ^ (8 * j) ≤ 2 ^ 24 := Nat.pow_le_pow_right (by omega) (by omega)
    omega
  have hm : y * 2 ^ (8 * j) ≤ 255 * 16777216 := Nat.mul_le_mul (by omega) hp
  rw [e] at hX ⊢
  have h1 : X ||| y * 2 ^ (8 * j) = X + 2 ^ (8 * j) * y := by
    have := Nat.shiftLeft_add_eq_or_of_lt (show X < 2 ^ (8 * j) by omega) y
    rw [Nat.shiftLeft_eq] at this
    rw [Nat.or_comm, ← this, Nat.mul_comm]
    omega
  have h2 : X ||| y * 2 ^ (8 * j) < 2 ^ 63 := Nat.or_lt_two_pow (by omega) (by omega)
  show IntKind.i64.wrap ((BitVec.ofInt 64 (X : Int) ||| BitVec.ofInt 64 ((y * 2 ^ (8 * j) : Nat) : Int)).toNat : Int) = _
  rw [BitVec.toNat_or, ofInt_i64 X (by omega), ofInt_i64 _ (by omega), h1, IntWalk.i64_in _ (by omega)]

theorem Int.natCast_pow_two (n : Nat) : ((2 ^ n : Nat) : Int) = 2 ^ n := by simp

set_option maxHeartbeats 1000000 in
theorem take_any (k : Nat) {gt b o m c lo : Nat} {l : List UInt8} {w : World} (hT : Blk w gt 131 [.slice (some ⟨b, o, none⟩) m c]) (hb : Bs w lo (some ⟨b, o, none⟩) m c l) (hk : k ≤ 4) (hm : k < m) :
    Calls Try.prog 82 #[.pointer (some ⟨gt, 0, none⟩), .int .i64 k] w fun e w' => e = .returned (.int .i64 (leN (l.take k) : Nat)) ∧ w' = w.setCell ⟨gt, 0, none⟩ (.slice (some ⟨b, o + k, none⟩) (m - k) (c - k)) := by
  have HL := Lib.hid hb.1
  have hc1 := hb.2.1
  have hc2 := hb.2.2.1
  have HB := Lib.hid hb
  have t0 := hT.cell 0
  simp only [List.getElem?_cons_zero] at t0
  have t1 := hT.frozen 0
  clear hb hT
  go_enter Try.func82, Try.ntmps82
  go_wp2
  go_loopw [5, 6, 8] (fun s5 s6 s8 wr => ∃ j : Nat, j ≤ k ∧ s8 = .int .i64 j ∧ s5 = .int .i64 (leN (l.take j) : Nat) ∧ wr = w) (fun _ _ s8 _ => k - (intOf s8).toNat)
  case atStart => exact ⟨0, Nat.zero_le _, rfl, rfl, rfl⟩
  case round =>
    obtain ⟨j, hj, rfl, rfl, rfl⟩ := hrel
    by_cases hlt : j < k
    · have cd := HB.out.cell j (by omega)
      have hX := leN_lt (l.take j)
      rw [List.length_take, HL.out, Nat.min_eq_left (by omega)] at hX
      have HS : Hid (leN (l.take (j + 1)) = leN (l.take j) + 256 ^ j * (l.getD j 0).toNat) := by
        have hl : j < l.length := by rw [HL.out]; omega
        show _ = _
        rw [List.take_succ_eq_append_getElem hl, leN_snoc, List.length_take, Nat.min_eq_left (by omega), List.getD_eq_getElem?_getD, List.getElem?_eq_getElem hl, Option.getD_some]
      have hy := (l.getD j 0).toNat_lt
      generalize (l.getD j 0).toNat = y at *
      generalize leN (l.take j) = X at *
      have HO := Lib.hid (or_step X y j hX hy (by omega))
      have e5 : IntKind.i64.wrap (8 * (j : Int)) = 8 * (j : Int) := IntWalk.i64_in _ (by omega)
      have e6 : (8 * (j : Int)).toNat = 8 * j := by omega
      have HW : Hid (wrap64 ((y : Int) * 2 ^ (8 * j)) = ((y * 2 ^ (8 * j) : Nat) : Int)) := by
        have hp : 2 ^ (8 * j) ≤ 16777216 := by
          have : 2 ^ (8 * j) ≤ 2 ^ 24 := Nat.pow_le_pow_right (by omega) (by omega)
          omega
        have hm : y * 2 ^ (8 * j) ≤ 255 * 16777216 := Nat.mul_le_mul (by omega) hp
        show _ = _
        rw [← Int.natCast_pow_two (8 * j), ← Int.natCast_mul, IntWalk.wrap64_in _ (by omega)]
      clear hX
      go_wp2
      go_roundw
      case rel =>
        refine ⟨j + 1, by omega, by go_num, ?_, trivial⟩
        rw [HS.out, ← HO.out, ← HW.out]
      case measure => simp [intOf]; omega
    · obtain rfl : j = k := by omega
      go_wp2
      go_ret
      exact ⟨rfl, rfl⟩

set_option maxHeartbeats 1000000 in
theorem value_any {A : Option Addr} {m c lo : Nat} {l : List UInt8} {w : World} (hb : Bs w lo A m c l) (hm : m ≤ 4) :
    Calls Try.prog 84 #[.slice A m c] w fun e w' => e = .returned (.int .i64 (leN l : Nat)) ∧ w = w' := by
  have HL := Lib.hid hb.1
  have hc1 := hb.2.1
  have hc2 := hb.2.2.1
  have HB := Lib.hid hb
  clear hb
  go_enter Try.func84, Try.ntmps84
  go_wp2
  go_loopw [3, 4] (fun s3 s4 wr => ∃ j : Nat, j ≤ m ∧ s4 = .int .i64 ((j : Int) - 1) ∧ s3 = .int .i64 (leN (l.drop j) : Nat) ∧ wr = w) (fun _ s4 _ => (intOf s4 + 1).toNat)
  case atStart => exact ⟨m, Nat.le_refl _, rfl, by rw [List.drop_of_length_le (by rw [HL.out]; exact Nat.le_refl _)]; rfl, rfl⟩
  case round =>
    obtain ⟨j, hj, rfl, rfl, rfl⟩ := hrel
    by_cases hlt : 0 < j
    · obtain ⟨i, rfl⟩ : ∃ i, j = i + 1 := ⟨j - 1, by omega⟩
      obtain ⟨b, o, rfl, _, _⟩ := HB.out.at_ (by omega)
      have cd := HB.out.cell i (by omega)
      have HS := Lib.hid (leN_drop l i (by rw [HL.out]; omega))
      have hX := leN_lt (l.drop (i + 1))
      have hp : 256 ^ (l.drop (i + 1)).length ≤ 16777216 := by
        have : 256 ^ (l.drop (i + 1)).length ≤ 256 ^ 3 := Nat.pow_le_pow_right (by omega) (by rw [List.length_drop, HL.out]; omega)
        omega
      have hy := (l.getD i 0).toNat_lt
      generalize (l.getD i 0).toNat = y at *
      generalize leN (l.drop (i + 1)) = X at *
      have hX2 : X < 16777216 := Nat.lt_of_lt_of_le hX hp
      clear hX hp
      rw [show ((i + 1 : Nat) : Int) - 1 = (i : Int) by omega]
      have e1 : (0 : Int) ≤ (i : Int) := by omega
      go_wp2
      go_roundw
      case rel => exact ⟨i, by omega, by go_num, by rw [HS.out]; go_num, trivial⟩
      case measure => simp [intOf]
    · obtain rfl : j = 0 := by omega
      go_wp2
      go_ret
      exact ⟨rfl, rfl⟩
end Go.Proofs.Ytdbhagnnpjcpmaa
