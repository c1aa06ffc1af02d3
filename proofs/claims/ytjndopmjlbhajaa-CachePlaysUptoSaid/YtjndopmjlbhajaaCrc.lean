/- The two check sums answer the plain function. Condition: the bytes lie in memory. -/
import Derived.Test.YtjndopmjlbhajaaProg
import Derived.Test.YtjndopmjlbhajaaMem
import Derived.Test.YtjndopmjlbhajaaPlainA
namespace Go.Proofs.Ytjndopmjlbhajaa
open Go.RowKit

set_option maxHeartbeats 400000 in
theorem xor_any (a b : Int) (w : World) :
    Calls Try.prog 61 #[.int .i64 a, .int .i64 b] w fun e w' => e = .returned (.int .i64 (bits .xor .i64 a b)) ∧ w = w' := by
  go_enter Try.func61, Try.ntmps61
  go_wp2
  go_ret
  exact ⟨rfl, rfl⟩

set_option maxHeartbeats 400000 in
theorem scrc_any {A : Option Addr} {m c : Nat} {l : List UInt8} {lo : Nat} {w : World} (hb : Bs w lo A m c l) :
    Calls Try.prog 72 #[.slice A m c] w fun e w' => e = .returned (.int .i64 (crc l)) ∧ w = w' := by
  obtain ⟨rfl, hc1, hc2, h1⟩ := hb
  go_enter Try.func72, Try.ntmps72
  go_wp2
  go_loop [3, 5, 8, 16] (fun x _ i _ => ∃ k : Nat, k ≤ l.length ∧ i = .int .i64 k ∧ x = .int .u32 (crcReg 4294967295 (l.take k) : Nat)) (fun _ _ i _ => l.length - (intOf i).toNat)
  case atStart => exact ⟨0, Nat.zero_le _, rfl, rfl⟩
  case round =>
    obtain ⟨k, hk, rfl, rfl⟩ := hrel
    have hX : crcReg 4294967295 (l.take k) < 4294967296 := crcReg_lt _ (by omega)
    by_cases hlt : k < l.length
    · obtain ⟨b, o, rfl, _, _, hc⟩ := h1.byte hlt
      have HS := Lib.hid (crcReg_snoc 4294967295 l k hlt)
      clear h1
      generalize crcReg 4294967295 (l.take k) = X at *
      have hb := l[k].toNat_lt
      have hx := byte_xor_lt hX l[k]
      have h3 := Lib.hid (u32_xor X l[k].toNat hX (by omega))
      go_wp2
      go_loop [3, 16] (fun x j => ∃ m : Nat, m ≤ 8 ∧ j = .int .i64 m ∧ x = .int .u32 (crcSteps m (X ^^^ l[k].toNat) : Nat)) (fun _ i => 8 - (intOf i).toNat)
      case atStart =>
        refine ⟨0, by omega, rfl, ?_⟩
        rw [h3.out]
        rfl
      case round =>
        obtain ⟨m, hm, rfl, rfl⟩ := hrel
        have hY := crcSteps_lt hx m
        have HY : Hid (crcSteps (m + 1) (X ^^^ l[k].toNat) = crcStep (crcSteps m (X ^^^ l[k].toNat))) := rfl
        generalize hYe : crcSteps m (X ^^^ l[k].toNat) = Y at *
        have HE := Lib.hid hYe
        clear hYe
        go_wp2
        · go_round
          case rel =>
            refine ⟨m + 1, by omega, by go_num, ?_⟩
            rw [HY.out, ← crcStep_sums Y]
            have h1 : bits .and .u32 (Y : Int) 1 = ((Y % 2 : Nat) : Int) := by
              have := u32_and Y 1 hY (by omega)
              rw [Nat.and_one_is_mod] at this
              exact this
            have h2 : (-((Y % 2 : Nat) : Int) % 4294967296) = (((4294967296 - Y % 2) % 4294967296 : Nat) : Int) := by omega
            have h4 := u32_and 2197175160 ((4294967296 - Y % 2) % 4294967296) (by omega) (by omega)
            have h5 := u32_xor (Y / 2) (2197175160 &&& ((4294967296 - Y % 2) % 4294967296)) (by omega) (by rw [and_neg_one]; split <;> omega)
            rw [h1, h2, show ((2197175160 : Int)) = ((2197175160 : Nat) : Int) from rfl, h4, show ((Y : Int) / 2) = ((Y / 2 : Nat) : Int) by omega, h5]
          case measure => simp [intOf]; omega
        · go_round
          case rel =>
            refine ⟨k + 1, by omega, by go_num, ?_⟩
            obtain rfl : m = 8 := by omega
            rw [HS.out, ← HE.out]
            rfl
          case measure => simp [intOf]; omega
    · have he := Lib.hid (show crcReg 4294967295 (l.take k) = crcReg 4294967295 l by rw [List.take_of_length_le (by omega)])
      go_wp2
      go_ret
      refine ⟨?_, rfl⟩
      show Ending.returned (.int .i64 (wrap64 _)) = _
      rw [u32_not _ hX, he.out, IntWalk.wrap64_in _ ⟨by omega, by omega⟩]
      rfl

set_option maxHeartbeats 400000 in
theorem rcrc_any {A : Option Addr} {m c : Nat} {l : List UInt8} {lo : Nat} {w : World} (hb : Bs w lo A m c l) :
    Calls Try.prog 37 #[.slice A m c] w fun e w' => e = .returned (.int .i64 (crc l)) ∧ w = w' := by
  obtain ⟨rfl, hc1, hc2, h1⟩ := hb
  go_enter Try.func37, Try.ntmps37
  go_wp2
  go_loop [3, 4] (fun x i => ∃ k : Nat, k ≤ l.length ∧ i = .int .i64 k ∧ x = .int .i64 (crcReg 4294967295 (l.take k) : Nat)) (fun _ i => l.length - (intOf i).toNat)
  case atStart => exact ⟨0, Nat.zero_le _, rfl, rfl⟩
  case round =>
    obtain ⟨k, hk, rfl, rfl⟩ := hrel
    have hX : crcReg 4294967295 (l.take k) < 4294967296 := crcReg_lt _ (by omega)
    by_cases hlt : k < l.length
    · obtain ⟨b, o, rfl, _, _, hc⟩ := h1.byte hlt
      have HS := Lib.hid (crcReg_snoc 4294967295 l k hlt)
      clear h1
      generalize crcReg 4294967295 (l.take k) = X at *
      have hb := l[k].toNat_lt
      have hx := byte_xor_lt hX l[k]
      have h3 := Lib.hid (i64_xor X l[k].toNat (by omega) (by omega))
      go_wp2_with (go_at_call 61; refine (xor_any _ _ _).mono ?_; rintro e w' ⟨rfl, rfl⟩)
      go_loop [3, 5] (fun x j => ∃ m : Nat, m ≤ 8 ∧ j = .int .i64 m ∧ x = .int .i64 (crcSteps m (X ^^^ l[k].toNat) : Nat)) (fun _ i => 8 - (intOf i).toNat)
      case atStart =>
        refine ⟨0, by omega, rfl, ?_⟩
        rw [h3.out]
        rfl
      case round =>
        obtain ⟨m, hm, rfl, rfl⟩ := hrel
        have hY := crcSteps_lt hx m
        have HY : Hid (crcSteps (m + 1) (X ^^^ l[k].toNat) = crcStep (crcSteps m (X ^^^ l[k].toNat))) := rfl
        generalize hYe : crcSteps m (X ^^^ l[k].toNat) = Y at *
        have HE := Lib.hid hYe
        clear hYe
        go_wp2_with (go_at_call 61; refine (xor_any _ _ _).mono ?_; rintro e w' ⟨rfl, rfl⟩)
        · go_round
          case rel =>
            refine ⟨m + 1, by omega, by go_num, ?_⟩
            have h1 : Y % 2 = 1 := by have := eq_of_beq (show (((Y : Int) % 2) == 1) = true by assumption); omega
            rw [HY.out, crcStep, if_pos h1, show ((Y : Int) / 2) = ((Y / 2 : Nat) : Int) by omega, show ((2197175160 : Int)) = ((2197175160 : Nat) : Int) from rfl, i64_xor (Y / 2) 2197175160 (by omega) (by omega)]
          case measure => simp [intOf]; omega
        · go_round
          case rel =>
            refine ⟨m + 1, by omega, by go_num, ?_⟩
            have h1 : ¬ Y % 2 = 1 := by have := ne_of_beq_false (show (((Y : Int) % 2) == 1) = false by assumption); omega
            rw [HY.out, crcStep, if_neg h1, show ((Y : Int) / 2) = ((Y / 2 : Nat) : Int) by omega]
          case measure => simp [intOf]; omega
        · go_round
          case rel =>
            refine ⟨k + 1, by omega, by go_num, ?_⟩
            obtain rfl : m = 8 := by omega
            rw [HS.out, ← HE.out]
            rfl
          case measure => simp [intOf]; omega
    · have he := Lib.hid (show crcReg 4294967295 (l.take k) = crcReg 4294967295 l by rw [List.take_of_length_le (by omega)])
      go_wp2
      go_ret
      refine ⟨?_, rfl⟩
      show Ending.returned (.int .i64 _) = _
      rw [crc, ← he.out]
      congr 2
      omega
end Go.Proofs.Ytjndopmjlbhajaa
