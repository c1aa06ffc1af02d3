/- Plain facts on bits of numbers, and the check sum as a plain function. No condition. -/
import Derived.Laws.BitsAllLaws
import Derived.Laws.BitsLemmas
import Derived.Laws.Bits
import Derived.Test.YtdakohbfibcjeaaProg
import Derived.Test.YtdakohbfibcjeaaTvA
import Derived.Test.YtdakohbfibcjeaaLib
import Derived.RegionTactic
import Derived.BigRegion
import Derived.Test.YtdakohbfibcjeaaLibCl
import Derived.Deep.DeepCutAuto
import Derived.Deep.DeepMust
namespace Go.Proofs.Ytdakohbfibcjeaa

theorem ofInt_u32 (a : Nat) (ha : a < 4294967296) : (BitVec.ofInt 32 (a : Int)).toNat = a := by
  rw [BitVec.ofInt_natCast, BitVec.toNat_ofNat]; exact Nat.mod_eq_of_lt (by omega)
theorem wrap_u32_nat (a : Nat) (ha : a < 4294967296) : IntKind.u32.wrap (a : Int) = (a : Int) := by
  rw [IntKind.wrap_u32]; omega
theorem u32_xor (a b : Nat) (ha : a < 4294967296) (hb : b < 4294967296) : bits .xor .u32 (a : Int) (b : Int) = ((a ^^^ b : Nat) : Int) := by
  have hx : a ^^^ b < 2 ^ 32 := Nat.xor_lt_two_pow (by omega) (by omega)
  show IntKind.u32.wrap ((BitVec.ofInt 32 (a : Int) ^^^ BitVec.ofInt 32 (b : Int)).toNat : Int) = _
  rw [BitVec.toNat_xor, ofInt_u32 a ha, ofInt_u32 b hb, wrap_u32_nat _ (by omega)]
theorem u32_and (a b : Nat) (ha : a < 4294967296) (hb : b < 4294967296) : bits .and .u32 (a : Int) (b : Int) = ((a &&& b : Nat) : Int) := by
  have hx : a &&& b < 2 ^ 32 := Nat.and_lt_two_pow _ (by omega)
  show IntKind.u32.wrap ((BitVec.ofInt 32 (a : Int) &&& BitVec.ofInt 32 (b : Int)).toNat : Int) = _
  rw [BitVec.toNat_and, ofInt_u32 a ha, ofInt_u32 b hb, wrap_u32_nat _ (by omega)]
theorem u32_or (a b : Nat) (ha : a < 4294967296) (hb : b < 4294967296) : bits .or .u32 (a : Int) (b : Int) = ((a ||| b : Nat) : Int) := by
  have hx : a ||| b < 2 ^ 32 := Nat.or_lt_two_pow (by omega) (by omega)
  show IntKind.u32.wrap ((BitVec.ofInt 32 (a : Int) ||| BitVec.ofInt 32 (b : Int)).toNat : Int) = _
  rw [BitVec.toNat_or, ofInt_u32 a ha, ofInt_u32 b hb, wrap_u32_nat _ (by omega)]
theorem ofInt_i64 (a : Nat) (ha : a < 9223372036854775808) : (BitVec.ofInt 64 (a : Int)).toNat = a := by
  rw [BitVec.ofInt_natCast, BitVec.toNat_ofNat]; exact Nat.mod_eq_of_lt (by omega)
theorem i64_xor (a b : Nat) (ha : a < 9223372036854775808) (hb : b < 9223372036854775808) : bits .xor .i64 (a : Int) (b : Int) = ((a ^^^ b : Nat) : Int) := by
  have hx : a ^^^ b < 2 ^ 63 := Nat.xor_lt_two_pow (by omega) (by omega)
  show IntKind.i64.wrap ((BitVec.ofInt 64 (a : Int) ^^^ BitVec.ofInt 64 (b : Int)).toNat : Int) = _
  rw [BitVec.toNat_xor, ofInt_i64 a ha, ofInt_i64 b hb, IntKind.wrap_i64]
  omega
theorem i64_and (a b : Nat) (ha : a < 9223372036854775808) (hb : b < 9223372036854775808) : bits .and .i64 (a : Int) (b : Int) = ((a &&& b : Nat) : Int) := by
  have hx : a &&& b < 2 ^ 63 := Nat.and_lt_two_pow _ (by omega)
  show IntKind.i64.wrap ((BitVec.ofInt 64 (a : Int) &&& BitVec.ofInt 64 (b : Int)).toNat : Int) = _
  rw [BitVec.toNat_and, ofInt_i64 a ha, ofInt_i64 b hb, IntKind.wrap_i64]
  omega
theorem ofInt_u8 (a : Nat) (ha : a < 256) : (BitVec.ofInt 8 (a : Int)).toNat = a := by
  rw [BitVec.ofInt_natCast, BitVec.toNat_ofNat]; exact Nat.mod_eq_of_lt (by omega)
theorem u8_xor (a b : Nat) (ha : a < 256) (hb : b < 256) : bits .xor .u8 (a : Int) (b : Int) = ((a ^^^ b : Nat) : Int) := by
  have hx : a ^^^ b < 2 ^ 8 := Nat.xor_lt_two_pow (by omega) (by omega)
  show IntKind.u8.wrap ((BitVec.ofInt 8 (a : Int) ^^^ BitVec.ofInt 8 (b : Int)).toNat : Int) = _
  rw [BitVec.toNat_xor, ofInt_u8 a ha, ofInt_u8 b hb, IntKind.wrap_u8]
  omega

theorem not_nat32 (a : Nat) (ha : a < 4294967296) : (4294967295 ^^^ a : Nat) = 4294967295 - a := by
  have h : (BitVec.allOnes 32 ^^^ BitVec.ofNat 32 a) = ~~~(BitVec.ofNat 32 a) := BitVec.allOnes_xor
  have h2 := congrArg BitVec.toNat h
  rw [BitVec.toNat_xor, BitVec.toNat_not, BitVec.toNat_allOnes, BitVec.toNat_ofNat, Nat.mod_eq_of_lt (by omega)] at h2
  simpa using h2
theorem u32_not (a : Nat) (ha : a < 4294967296) : bits .xor .u32 IntKind.u32.max (a : Int) = ((4294967295 - a : Nat) : Int) := by
  have h := u32_xor 4294967295 a (by omega) ha
  rw [not_nat32 a ha] at h
  exact h

/-- One bit of the check sum. -/
def crcStep (x : Nat) : Nat := if x % 2 = 1 then (x / 2) ^^^ 2197175160 else x / 2
def crcSteps : Nat → Nat → Nat
  | 0, x => x
  | n + 1, x => crcStep (crcSteps n x)
def crcByte (x : Nat) (b : UInt8) : Nat := crcSteps 8 (x ^^^ b.toNat)
def crcReg (x : Nat) (l : List UInt8) : Nat := l.foldl crcByte x
def crc (l : List UInt8) : Nat := 4294967295 - crcReg 4294967295 l

theorem crcStep_lt {x : Nat} (h : x < 4294967296) : crcStep x < 4294967296 := by
  unfold crcStep
  split
  · exact Nat.xor_lt_two_pow (n := 32) (by omega) (by omega)
  · omega
theorem crcSteps_lt {x : Nat} (h : x < 4294967296) (n : Nat) : crcSteps n x < 4294967296 := by
  induction n with
  | zero => exact h
  | succ n ih => exact crcStep_lt ih
theorem byte_xor_lt {x : Nat} (h : x < 4294967296) (b : UInt8) : x ^^^ b.toNat < 4294967296 :=
  Nat.xor_lt_two_pow (n := 32) h (by have := b.toNat_lt; omega)
theorem crcByte_lt {x : Nat} (h : x < 4294967296) (b : UInt8) : crcByte x b < 4294967296 := crcSteps_lt (byte_xor_lt h b) 8
theorem crcReg_lt (l : List UInt8) : ∀ {x : Nat}, x < 4294967296 → crcReg x l < 4294967296 := by
  induction l with
  | nil => intro x h; exact h
  | cons b l ih => intro x h; exact ih (crcByte_lt h b)
theorem crc_lt (l : List UInt8) : crc l < 4294967296 := by unfold crc; omega
theorem crcReg_snoc (x : Nat) (l : List UInt8) (k : Nat) (h : k < l.length) : crcReg x (l.take (k + 1)) = crcByte (crcReg x (l.take k)) l[k] := by
  rw [List.take_succ_eq_append_getElem h]; simp only [crcReg, List.foldl_append, List.foldl_cons, List.foldl_nil]
theorem and_neg_one (x : Nat) : (2197175160 &&& ((4294967296 - x % 2) % 4294967296) : Nat) = if x % 2 = 1 then 2197175160 else 0 := by
  have h : x % 2 = 0 ∨ x % 2 = 1 := by omega
  rcases h with h | h <;> simp [h]
theorem crcStep_sums (x : Nat) : x / 2 ^^^ (2197175160 &&& ((4294967296 - x % 2) % 4294967296)) = crcStep x := by
  rw [and_neg_one]; unfold crcStep; split <;> simp
end Go.Proofs.Ytdakohbfibcjeaa
namespace Go.Proofs.Ytdakohbfibcjeaa
open Go.RowKit

set_option maxHeartbeats 400000 in
theorem scrc_any {A : Option Addr} {m c : Nat} {l : List UInt8} {lo : Nat} {w : World} (hb : Bs w lo A m c l) :
    Calls Try.prog 77 #[.slice A m c] w fun e w' => e = .returned (.int .i64 (crc l)) ∧ w = w' := by
  obtain ⟨rfl, hc1, hc2, h1⟩ := hb
  go_enter Try.func77, Try.ntmps77
  go_wp2
  go_loop [3, 5, 8, 16] (fun x _ i _ => ∃ k : Nat, k ≤ l.length ∧ i = .int .i64 k ∧ x = .int .u32 (crcReg 4294967295 (l.take k) : Nat)) (fun _ _ i _ => l.length - (intOf i).toNat)
  case atStart => exact ⟨0, Nat.zero_le _, rfl, rfl⟩
  case round =>
    obtain ⟨k, hk, rfl, rfl⟩ := hrel
    have hX : crcReg 4294967295 (l.take k) < 4294967296 := crcReg_lt _ (by omega)
    by_cases hlt : k < l.length
    · obtain ⟨b, o, rfl, _, _, hc⟩ := h1.byte hlt
      have HS := Lib.hid (crcReg_snoc 4294967295 l k hlt)
      clear h1
      generalize crcReg 4294967295 (l.take k) = X at *
      have hb := l[k].toNat_lt
      have hx := byte_xor_lt hX l[k]
      have h3 := Lib.hid (u32_xor X l[k].toNat hX (by omega))
      go_wp2
      go_loop [3, 16] (fun x j => ∃ m : Nat, m ≤ 8 ∧ j = .int .i64 m ∧ x = .int .u32 (crcSteps m (X ^^^ l[k].toNat) : Nat)) (fun _ i => 8 - (intOf i).toNat)
      case atStart =>
        refine ⟨0, by omega, rfl, ?_⟩
        rw [h3.out]
        rfl
      case round =>
        obtain ⟨m, hm, rfl, rfl⟩ := hrel
        have hY := crcSteps_lt hx m
        have HY : Hid (crcSteps (m + 1) (X ^^^ l[k].toNat) = crcStep (crcSteps m (X ^^^ l[k].toNat))) := rfl
        generalize hYe : crcSteps m (X ^^^ l[k].toNat) = Y at *
        have HE := Lib.hid hYe
        clear hYe
        go_wp2
        · go_round
          case rel =>
            refine ⟨m + 1, by omega, by go_num, ?_⟩
            rw [HY.out, ← crcStep_sums Y]
            have h1 : bits .and .u32 (Y : Int) 1 = ((Y % 2 : Nat) : Int) := by
              have := u32_and Y 1 hY (by omega)
              rw [Nat.and_one_is_mod] at this
              exact this
            have h2 : (-((Y % 2 : Nat) : Int) % 4294967296) = (((4294967296 - Y % 2) % 4294967296 : Nat) : Int) := by omega
            have h4 := u32_and 2197175160 ((4294967296 - Y % 2) % 4294967296) (by omega) (by omega)
            have h5 := u32_xor (Y / 2) (2197175160 &&& ((4294967296 - Y % 2) % 4294967296)) (by omega) (by rw [and_neg_one]; split <;> omega)
            rw [h1, h2, show ((2197175160 : Int)) = ((2197175160 : Nat) : Int) from rfl, h4, show ((Y : Int) / 2) = ((Y / 2 : Nat) : Int) by omega, h5]
          case measure => simp [intOf]; omega
        · go_round
          case rel =>
            refine ⟨k + 1, by omega, by go_num, ?_⟩
            obtain rfl : m = 8 := by omega
            rw [HS.out, ← HE.out]
            rfl
          case measure => simp [intOf]; omega
    · have he := Lib.hid (show crcReg 4294967295 (l.take k) = crcReg 4294967295 l by rw [List.take_of_length_le (by omega)])
      go_wp2
      go_ret
      refine ⟨?_, rfl⟩
      show Ending.returned (.int .i64 (wrap64 _)) = _
      rw [u32_not _ hX, he.out, IntWalk.wrap64_in _ ⟨by omega, by omega⟩]
      rfl

end Go.Proofs.Ytdakohbfibcjeaa
namespace Go.Proofs.Ytdakohbfibcjeaa
/-- a number's four bytes, the lowest first -/
def le4 (s : Nat) : List UInt8 := [UInt8.ofNat (s % 256), UInt8.ofNat (s / 256 % 256), UInt8.ofNat (s / 65536 % 256), UInt8.ofNat (s / 16777216 % 256)]
@[simp] theorem length_le4 (s : Nat) : (le4 s).length = 4 := rfl
def blkHead (n kind : Nat) (l : List UInt8) : List UInt8 := [UInt8.ofNat kind, UInt8.ofNat l.length, UInt8.ofNat (n % 256), UInt8.ofNat (n / 256), 0, 0, 0, 0]
def blkData (n kind : Nat) (l : List UInt8) : List UInt8 := blkHead n kind l ++ (l ++ List.replicate (244 - l.length) 0)
def blkSector (n kind : Nat) (l : List UInt8) : List UInt8 := blkData n kind l ++ le4 (crc (blkData n kind l))
theorem length_blkData (n kind : Nat) (l : List UInt8) (h : l.length ≤ 244) : (blkData n kind l).length = 252 := by
  simp [blkData, blkHead]; omega
theorem length_blkSector (n kind : Nat) (l : List UInt8) (h : l.length ≤ 244) : (blkSector n kind l).length = 256 := by
  simp [blkSector, length_blkData n kind l h]
theorem blkData_eq (n kind : Nat) (l : List UInt8) (k : Nat) (h : 8 + l.length + k = 252) : blkHead n kind l ++ l ++ List.replicate k 0 = blkData n kind l := by
  unfold blkData
  rw [List.append_assoc, show 244 - l.length = k by omega]
theorem le4_snoc (s j : Nat) (h : j < 4) : (le4 s).take (j + 1) = (le4 s).take j ++ [UInt8.ofNat (s / 2 ^ (8 * j) % 256)] := by
  match j, h with
  | 0, _ => simp [le4]
  | 1, _ => simp [le4]
  | 2, _ => simp [le4]
  | 3, _ => simp [le4]
def blkKind (s : List UInt8) : Nat := (s.getD 0 0).toNat
def blkLen (s : List UInt8) : Nat := (s.getD 1 0).toNat
def blkBody (s : List UInt8) : List UInt8 := (s.drop 8).take (blkLen s)
def blkMay (n kind : Int) (m : Nat) : Prop := 0 ≤ n ∧ n ≤ 65535 ∧ 1 ≤ kind ∧ kind ≤ 4 ∧ m ≤ 240
instance (n kind : Int) (m : Nat) : Decidable (blkMay n kind m) := by unfold blkMay; infer_instance
/-- what a sector is read as: 0: a block; else the error -/
def blkCode (n : Int) (s : List UInt8) : Nat :=
  if s.length ≠ 256 then 1
  else if s.drop 252 ≠ le4 (crc (s.take 252)) then 6
  else if 240 < blkLen s then 7
  else if blkMay n (blkKind s) (blkLen s) ∧ blkSector n.toNat (blkKind s) (blkBody s) = s then 0
  else 7
theorem length_blkBody (s : List UInt8) (h : s.length = 256) (h2 : blkLen s ≤ 240) : (blkBody s).length = blkLen s := by
  unfold blkBody; simp; omega
theorem take_drop_snoc (l : List UInt8) (i j : Nat) (h : i + j < l.length) : (l.drop i).take (j + 1) = (l.drop i).take j ++ [l.getD (i + j) 0] := by
  rw [List.take_succ_eq_append_getElem (by simp; omega)]
  simp [List.getD_eq_getElem?_getD, List.getElem?_eq_getElem h]
theorem cast_shift (s j : Nat) : (s : Int) / 2 ^ (8 * j) % 256 = ((s / 2 ^ (8 * j) % 256 : Nat) : Int) := by simp
theorem y_ne {y : UInt8} {s j : Nat} (h : ((y.toNat : Int) != (s : Int) / 2 ^ (8 * j) % 256) = true) : y ≠ UInt8.ofNat (s / 2 ^ (8 * j) % 256) := by
  rw [cast_shift, bne_iff_ne] at h
  rintro rfl
  exact h (by simp)
theorem y_eq {y : UInt8} {s j : Nat} (h : ((y.toNat : Int) != (s : Int) / 2 ^ (8 * j) % 256) = false) : y = UInt8.ofNat (s / 2 ^ (8 * j) % 256) := by
  rw [cast_shift, bne_eq_false_iff_eq] at h
  apply UInt8.toNat.inj
  simp only [UInt8.toNat_ofNat']
  omega
end Go.Proofs.Ytdakohbfibcjeaa
namespace Go.Proofs.Ytdakohbfibcjeaa

theorem eq_of_xor {a b : Nat} (h : a ^^^ b = 0) : a = b := by
  have : (a ^^^ b) ^^^ b = b := by rw [h, Nat.zero_xor]
  rwa [Nat.xor_assoc, Nat.xor_self, Nat.xor_zero] at this

theorem crcStep_xor (x y : Nat) : crcStep (x ^^^ y) = crcStep x ^^^ crcStep y := by
  have h1 : (x ^^^ y) / 2 = x / 2 ^^^ y / 2 := by
    have := Nat.shiftRight_xor_distrib (a := x) (b := y) (i := 1)
    simpa [Nat.shiftRight_eq_div_pow] using this
  have h2 : (x ^^^ y) % 2 = (x % 2 + y % 2) % 2 := by
    have := Nat.xor_mod_two_pow (a := x) (b := y) (n := 1)
    simp only [Nat.pow_one] at this
    rw [this]
    have hx : x % 2 = 0 ∨ x % 2 = 1 := by omega
    have hy : y % 2 = 0 ∨ y % 2 = 1 := by omega
    rcases hx with hx | hx <;> rcases hy with hy | hy <;> rw [hx, hy] <;> rfl
  unfold crcStep
  rw [h1, h2]
  have hx : x % 2 = 0 ∨ x % 2 = 1 := by omega
  have hy : y % 2 = 0 ∨ y % 2 = 1 := by omega
  rcases hx with hx | hx <;> rcases hy with hy | hy <;> rw [hx, hy] <;> simp
  · rw [Nat.xor_assoc]
  · rw [Nat.xor_assoc, Nat.xor_comm (y / 2), ← Nat.xor_assoc]
  · rw [Nat.xor_assoc, Nat.xor_comm 2197175160, Nat.xor_assoc, Nat.xor_self, Nat.xor_zero]
theorem crcStep_zero : crcStep 0 = 0 := rfl
theorem crcStep_double (y : Nat) : crcStep (2 * y) = y := by
  unfold crcStep
  rw [if_neg (by omega)]
  omega
theorem crcStep_eq_zero {x : Nat} (h : x < 4294967296) (h0 : crcStep x = 0) : x = 0 := by
  unfold crcStep at h0
  split at h0
  · have := eq_of_xor h0
    omega
  · omega
theorem crcSteps_xor (n x y : Nat) : crcSteps n (x ^^^ y) = crcSteps n x ^^^ crcSteps n y := by
  induction n with
  | zero => rfl
  | succ n ih => simp only [crcSteps, ih, crcStep_xor]
theorem crcSteps_zero (n : Nat) : crcSteps n 0 = 0 := by
  induction n with
  | zero => rfl
  | succ n ih => simp only [crcSteps, ih, crcStep_zero]
theorem crcSteps_eq_zero {x : Nat} (h : x < 4294967296) : ∀ n, crcSteps n x = 0 → x = 0
  | 0, h0 => h0
  | n + 1, h0 => crcSteps_eq_zero h n (crcStep_eq_zero (crcSteps_lt h n) h0)
theorem crcSteps_inj {x y : Nat} (hx : x < 4294967296) (hy : y < 4294967296) (n : Nat) (h : crcSteps n x = crcSteps n y) : x = y := by
  have h1 : crcSteps n (x ^^^ y) = 0 := by rw [crcSteps_xor, h, Nat.xor_self]
  exact eq_of_xor (crcSteps_eq_zero (Nat.xor_lt_two_pow (n := 32) hx hy) n h1)
theorem crcSteps_add (a b x : Nat) : crcSteps (a + b) x = crcSteps a (crcSteps b x) := by
  induction a with
  | zero => simp [crcSteps]
  | succ a ih => rw [show a + 1 + b = (a + b) + 1 by omega]; simp only [crcSteps, ih]
theorem crcSteps_pow_mul (k y : Nat) : crcSteps k (2 ^ k * y) = y := by
  induction k generalizing y with
  | zero => simp [crcSteps]
  | succ k ih =>
    rw [crcSteps_add k 1, show crcSteps 1 (2 ^ (k + 1) * y) = 2 ^ k * y from ?_, ih]
    show crcStep (2 ^ (k + 1) * y) = _
    rw [show 2 ^ (k + 1) * y = 2 * (2 ^ k * y) by rw [Nat.pow_succ]; simp [Nat.mul_left_comm, Nat.mul_comm]]
    exact crcStep_double _
theorem crcSteps_pow (n k : Nat) (h : k ≤ n) : crcSteps n (2 ^ k) = crcSteps (n - k) 1 := by
  have := crcSteps_pow_mul k 1
  rw [Nat.mul_one] at this
  rw [show n = (n - k) + k by omega, crcSteps_add, this, Nat.add_sub_cancel]
theorem crcByte_xor (x d : Nat) (b : UInt8) : crcByte (x ^^^ d) b = crcByte x b ^^^ crcSteps 8 d := by
  unfold crcByte
  rw [Nat.xor_assoc, Nat.xor_comm d, ← Nat.xor_assoc, crcSteps_xor]
theorem crcReg_xor (l : List UInt8) : ∀ x d : Nat, crcReg (x ^^^ d) l = crcReg x l ^^^ crcSteps (8 * l.length) d := by
  induction l with
  | nil => intro x d; simp [crcReg, crcSteps]
  | cons b l ih =>
    intro x d
    show crcReg (crcByte (x ^^^ d) b) l = crcReg (crcByte x b) l ^^^ _
    rw [crcByte_xor, ih, List.length_cons, show 8 * (l.length + 1) = 8 * l.length + 8 by omega, crcSteps_add]

/-- bit i of bytes is turned -/
def flip (s : List UInt8) (i : Nat) : List UInt8 := s.set (i / 8) (UInt8.ofNat ((s.getD (i / 8) 0).toNat ^^^ 2 ^ (i % 8)))
@[simp] theorem length_flip (s : List UInt8) (i : Nat) : (flip s i).length = s.length := by simp [flip]
theorem crcReg_flip (s : List UInt8) : ∀ (x i : Nat), i < 8 * s.length → crcReg x (flip s i) = crcReg x s ^^^ crcSteps (8 * s.length - i) 1 := by
  induction s with
  | nil => intro x i h; simp at h
  | cons b t ih =>
    intro x i h
    by_cases h8 : i < 8
    · have e : i / 8 = 0 := by omega
      have e2 : i % 8 = i := by omega
      have hp : 2 ^ i < 256 := Nat.pow_lt_pow_right (by omega) (show i < 8 from h8)
      have hlt : b.toNat ^^^ 2 ^ i < 256 := Nat.xor_lt_two_pow (n := 8) b.toNat_lt hp
      unfold flip
      rw [e, e2]
      show crcReg (crcByte x (UInt8.ofNat (b.toNat ^^^ 2 ^ i))) t = crcReg (crcByte x b) t ^^^ _
      have hb : crcByte x (UInt8.ofNat (b.toNat ^^^ 2 ^ i)) = crcByte x b ^^^ crcSteps 8 (2 ^ i) := by
        unfold crcByte
        rw [show (UInt8.ofNat (b.toNat ^^^ 2 ^ i)).toNat = b.toNat ^^^ 2 ^ i by simp only [UInt8.toNat_ofNat']; exact Nat.mod_eq_of_lt hlt, ← Nat.xor_assoc, crcSteps_xor]
      rw [hb, crcReg_xor, ← crcSteps_add, List.length_cons, show 8 * t.length + 8 = 8 * (t.length + 1) by omega, crcSteps_pow _ _ (by omega)]
    · have hf : flip (b :: t) i = b :: flip t (i - 8) := by
        have e : i / 8 = (i - 8) / 8 + 1 := by omega
        have e2 : i % 8 = (i - 8) % 8 := by omega
        unfold flip
        rw [e, e2]
        simp
      rw [hf]
      show crcReg (crcByte x b) (flip t (i - 8)) = crcReg (crcByte x b) t ^^^ _
      rw [List.length_cons] at h ⊢
      rw [ih _ _ (by omega), show 8 * (t.length + 1) - i = 8 * t.length - (i - 8) by omega]

theorem add_xor (k a b : Nat) (h : b < 2 ^ k) : 2 ^ k * a + b = (2 ^ k * a) ^^^ b := by
  apply Nat.eq_of_testBit_eq
  intro j
  rw [Nat.testBit_two_pow_mul_add a h, Nat.testBit_xor, Nat.testBit_two_pow_mul]
  by_cases hj : j < k
  · simp [hj, show ¬ k ≤ j by omega]
  · have : b.testBit j = false := Nat.testBit_lt_two_pow (Nat.lt_of_lt_of_le h (Nat.pow_le_pow_right (by omega) (by omega)))
    simp [hj, this, show k ≤ j by omega]
theorem crcReg_le4 (x c : Nat) (hc : c < 4294967296) : crcReg x (le4 c) = crcSteps 32 (x ^^^ c) := by
  have step : ∀ (y n c : Nat), crcSteps (n + 8) (y ^^^ c) = crcSteps n (crcSteps 8 (y ^^^ (c % 256)) ^^^ (c / 256)) := by
    intro y n c
    have h := add_xor 8 (c / 256) (c % 256) (by omega)
    rw [crcSteps_add, show y ^^^ c = (y ^^^ (c % 256)) ^^^ (2 ^ 8 * (c / 256)) from ?_, crcSteps_xor 8, crcSteps_pow_mul]
    rw [Nat.xor_assoc, Nat.xor_comm (c % 256), ← h]
    congr 1
    omega
  have b : ∀ n : Nat, (UInt8.ofNat (n % 256)).toNat = n % 256 := by intro n; simp
  rw [show (32 : Nat) = 24 + 8 from rfl, step x 24 c, show (24 : Nat) = 16 + 8 from rfl, step _ 16 (c / 256), show (16 : Nat) = 8 + 8 from rfl, step _ 8 (c / 256 / 256), show (8 : Nat) = 0 + 8 from rfl, step _ 0 (c / 256 / 256 / 256)]
  show crcByte (crcByte (crcByte (crcByte x _) _) _) _ = _
  unfold crcByte
  rw [b, b, b, b]
  rw [show c / 256 / 256 / 256 / 256 = 0 by omega, Nat.xor_zero]
  rw [show c / 65536 = c / 256 / 256 by omega, show c / 16777216 = c / 256 / 256 / 256 by omega]
  rfl
theorem le4_inj {a b : Nat} (ha : a < 4294967296) (hb : b < 4294967296) (h : le4 a = le4 b) : a = b := by
  have e := congrArg (List.map UInt8.toNat) h
  simp [le4] at e
  omega
theorem le4_of (l : List UInt8) (h : l.length = 4) : ∃ c, c < 4294967296 ∧ l = le4 c := by
  match l, h with
  | [a, b, c, d], _ =>
    have ha := a.toNat_lt
    have hb := b.toNat_lt
    have hc := c.toNat_lt
    have hd := d.toNat_lt
    refine ⟨a.toNat + 256 * b.toNat + 65536 * c.toNat + 16777216 * d.toNat, by omega, ?_⟩
    have e : ∀ (x : UInt8) (n : Nat), n = x.toNat → x = UInt8.ofNat n := by intro x n h; subst h; simp
    unfold le4
    rw [← e a _ (by omega), ← e b _ (by omega), ← e c _ (by omega), ← e d _ (by omega)]
/-- a sector's sum is right just if its register is so -/
theorem valid_iff (s : List UInt8) (h : s.length = 256) : s.drop 252 = le4 (crc (s.take 252)) ↔ crcReg 4294967295 s = crcSteps 32 4294967295 := by
  obtain ⟨c, hc, hd⟩ := le4_of (s.drop 252) (by simp [h])
  have hr : crcReg 4294967295 s = crcReg (crcReg 4294967295 (s.take 252)) (s.drop 252) := by
    have : s = s.take 252 ++ s.drop 252 := (List.take_append_drop 252 s).symm
    conv => lhs; rw [this]
    simp only [crcReg, List.foldl_append]
  have hR : crcReg 4294967295 (s.take 252) < 4294967296 := crcReg_lt _ (by omega)
  rw [hr, hd, crcReg_le4 _ _ hc]
  unfold crc
  generalize crcReg 4294967295 (s.take 252) = R at *
  have hn := not_nat32 R hR
  constructor
  · intro e
    have := le4_inj hc (by omega) e
    rw [this, ← hn, Nat.xor_comm R, Nat.xor_assoc, Nat.xor_self, Nat.xor_zero]
  · intro e
    have h1 := crcSteps_inj (Nat.xor_lt_two_pow (n := 32) hR hc) (by omega) 32 e
    have h2 : c = 4294967295 - R := by
      rw [← hn, ← h1, Nat.xor_comm R, Nat.xor_assoc, Nat.xor_self, Nat.xor_zero]
    rw [h2]

/-- what the first k bits of a mask turn, from bit 'at' on; and what it is in the register -/
def mbits (mask a n : Nat) : Nat → Nat
  | 0 => 0
  | k + 1 => if mask / 2 ^ k % 2 = 1 ∧ a + k < n then mbits mask a n k + 2 ^ k else mbits mask a n k
def flips (mask a n : Nat) (s : List UInt8) : Nat → List UInt8
  | 0 => s
  | k + 1 => if mask / 2 ^ k % 2 = 1 ∧ a + k < n then flip (flips mask a n s k) (a + k) else flips mask a n s k
theorem mbits_lt (mask a n : Nat) : ∀ k, mbits mask a n k < 2 ^ k
  | 0 => by simp [mbits]
  | k + 1 => by
    have := mbits_lt mask a n k
    unfold mbits
    rw [Nat.pow_succ]
    split <;> omega
theorem length_flips (mask a n : Nat) (s : List UInt8) : ∀ k, (flips mask a n s k).length = s.length
  | 0 => rfl
  | k + 1 => by
    unfold flips
    split
    · rw [length_flip, length_flips mask a n s k]
    · exact length_flips mask a n s k
theorem flips_zero (mask a n : Nat) (s : List UInt8) : ∀ k, mbits mask a n k = 0 → flips mask a n s k = s
  | 0, _ => rfl
  | k + 1, h => by
    have hp : 0 < 2 ^ k := Nat.pow_pos (by omega)
    unfold mbits at h
    unfold flips
    split at h
    · omega
    · rename_i hc
      rw [if_neg hc]
      exact flips_zero mask a n s k h
theorem crcReg_flips (mask a : Nat) (s : List UInt8) (x : Nat) : ∀ k, crcReg x (flips mask a (8 * s.length) s k) = crcReg x s ^^^ crcSteps (8 * s.length - a) (mbits mask a (8 * s.length) k)
  | 0 => by simp [flips, mbits, crcSteps_zero]
  | k + 1 => by
    have ih := crcReg_flips mask a s x k
    have hl := length_flips mask a (8 * s.length) s k
    unfold flips mbits
    by_cases h : mask / 2 ^ k % 2 = 1 ∧ a + k < 8 * s.length
    · rw [if_pos h, if_pos h, crcReg_flip _ _ _ (by rw [hl]; exact h.2), ih, hl, Nat.xor_assoc]
      congr 1
      have hb := mbits_lt mask a (8 * s.length) k
      have e := add_xor k 1 (mbits mask a (8 * s.length) k) hb
      rw [Nat.mul_one] at e
      rw [Nat.add_comm (mbits mask a (8 * s.length) k) (2 ^ k), e, crcSteps_xor, crcSteps_pow _ _ (by omega), Nat.xor_comm, show 8 * s.length - a - k = 8 * s.length - (a + k) by omega]
    · rw [if_neg h, if_neg h, ih]
theorem flips_crc (mask a : Nat) (s : List UInt8) : crcReg 4294967295 (flips mask a (8 * s.length) s 32) = crcReg 4294967295 s ↔ mbits mask a (8 * s.length) 32 = 0 := by
  rw [crcReg_flips]
  have hb := mbits_lt mask a (8 * s.length) 32
  constructor
  · intro h
    have h1 : crcSteps (8 * s.length - a) (mbits mask a (8 * s.length) 32) = 0 := by
      have := congrArg (crcReg 4294967295 s ^^^ ·) h
      simpa [← Nat.xor_assoc] using this
    exact crcSteps_eq_zero hb _ h1
  · intro h
    rw [h, crcSteps_zero, Nat.xor_zero]
theorem flips_valid (mask a : Nat) (s : List UInt8) (h : s.length = 256) (hv : s.drop 252 = le4 (crc (s.take 252))) :
    (flips mask a 2048 s 32).drop 252 = le4 (crc ((flips mask a 2048 s 32).take 252)) ↔ mbits mask a 2048 32 = 0 := by
  have e : 8 * s.length = 2048 := by omega
  have h1 := flips_crc mask a s
  rw [e] at h1
  rw [valid_iff _ (by rw [length_flips, h]), ← (valid_iff s h).1 hv, h1]
theorem flips_sum (mask a : Nat) (s : List UInt8) : crc (flips mask a (8 * s.length) s 32) = crc s ↔ mbits mask a (8 * s.length) 32 = 0 := by
  have h1 : crcReg 4294967295 s < 4294967296 := crcReg_lt s (by omega)
  have h2 : crcReg 4294967295 (flips mask a (8 * s.length) s 32) < 4294967296 := crcReg_lt _ (by omega)
  rw [← flips_crc]
  unfold crc
  omega
end Go.Proofs.Ytdakohbfibcjeaa
namespace Go.Proofs.Ytdakohbfibcjeaa
open Go.RowKit

theorem bv_of (x : Int) (n : Nat) (h : x = ((n % 256 : Nat) : Int)) : Value.int .u8 x = bv (UInt8.ofNat n) := by
  subst h; rfl

theorem le4_new {w : World} {g : Nat} (s : Nat) (hg : g = w.heap.size) : Bs (w.alloc (.cells (bvs (le4 s)).toArray 5)) 0 (some ⟨g, 0, none⟩) 4 4 (le4 s) :=
  (Blk.new_at hg).bs0 0 4 4 (Nat.zero_le _) (by omega) (by omega) rfl

def zeros (n : Nat) : List Value := List.replicate n (.int .u8 0)
theorem zeros_bvs (n : Nat) : zeros n = bvs (List.replicate n 0) := by simp [zeros, bvs, bv]
theorem bvs_drop (l : List UInt8) (n : Nat) : (bvs l).drop n = bvs (l.drop n) := by simp [bvs, List.map_drop]
theorem length_zeros (n : Nat) : (zeros n).length = n := by simp [zeros]
theorem wrap_u8_nat (n : Nat) : IntKind.u8.wrap (n : Int) = (n : Int) % 256 := by rw [IntKind.wrap_u8]
theorem bvs_snoc (l : List UInt8) (b : UInt8) : bvs l ++ [bv b] = bvs (l ++ [b]) := by simp [bvs]
end Go.Proofs.Ytdakohbfibcjeaa
namespace Go.Proofs.Ytdakohbfibcjeaa
open Go.RowKit

set_option maxHeartbeats 400000 in
theorem sum_any {A : Option Addr} {m c : Nat} {l : List UInt8} {lo : Nat} {w : World} (hb : Bs w lo A m c l) :
    Calls Try.prog 57 #[.slice A m c] w fun e w' => e = .returned (.slice (some ⟨w.heap.size, 0, none⟩) 4 4) ∧ w' = w.alloc (.cells (bvs (le4 (crc l))).toArray 5) := by
  have hc := crc_lt l
  go_enter Try.func57, Try.ntmps57
  go_wp2_with (go_at_call 77; refine (scrc_any hb).mono ?_; rintro e w' ⟨rfl, rfl⟩)
  go_ret
  refine ⟨rfl, ?_⟩
  generalize crc l = s at *
  congr 2
  simp only [bvs, le4, List.map]
  rw [bv_of (↑s % 256) (s % 256) (by omega), bv_of (↑s / 256 % 256) (s / 256 % 256) (by omega), bv_of (↑s / 65536 % 256) (s / 65536 % 256) (by omega), bv_of (↑s / 16777216) (s / 16777216 % 256) (by omega)]

theorem zero44 (w : World) : (zeroValue 135).run Try.prog w = .ok (.agg (zeros 256).toArray) w := by kernel_rfl
def blk4 (n kind : Nat) (l : List UInt8) : List UInt8 := [UInt8.ofNat kind, UInt8.ofNat l.length, UInt8.ofNat (n % 256), UInt8.ofNat (n / 256)]
theorem blk4_rd {n kind : Nat} {l : List UInt8} {W : World} {g : Nat} (hg : g = W.heap.size) :
    Rd (W.alloc (.cells #[Value.int .u8 (IntKind.u8.wrap kind), .int .u8 (IntKind.u8.wrap l.length), .int .u8 (IntKind.u8.wrap n), .int .u8 (IntKind.u8.wrap ((n : Int) / 256))] 5)).drew 0 (some ⟨g, 0, none⟩) (bvs (blk4 n kind l)) := by
  subst hg
  have h := (Blk.new W 5 (bvs (blk4 n kind l))).rd0 (lo := 0) (Nat.zero_le _)
  simp only [IntKind.wrap_u8]
  rw [bv_of (↑kind % 256) kind (by omega), bv_of (↑l.length % 256) l.length (by omega), bv_of (↑n % 256) (n % 256) (by omega), bv_of (↑n / 256 % 256) (n / 256) (by omega)]
  exact h
theorem blk4_fit (n kind : Nat) (l : List UInt8) : 0 + (bvs (blk4 n kind l)).length ≤ (zeros 256).length := by rw [length_zeros]; simp [blk4]
theorem fit8 (n kind : Nat) (l : List UInt8) (m1 : l.length ≤ 240) : 8 + (bvs l).length ≤ (splice (zeros 256) 0 (bvs (blk4 n kind l))).length := by
  rw [length_splice _ _ _ (blk4_fit n kind l), length_zeros]; simp; omega
theorem blkData_splice (n kind : Nat) (l : List UInt8) (m1 : l.length ≤ 240) :
    splice (splice (zeros 256) 0 (bvs (blk4 n kind l))) 8 (bvs l) = bvs (blkData n kind l) ++ bvs [0, 0, 0, 0] := by
  have e1 : splice (zeros 256) 0 (bvs (blk4 n kind l)) = bvs (blkHead n kind l) ++ zeros 248 := rfl
  have e3 : (bvs (blkHead n kind l)).length = 8 := rfl
  rw [e1, zeros_bvs 248]
  unfold splice
  rw [List.take_append_of_le_length (by omega), List.take_of_length_le (by omega), List.drop_append, List.drop_eq_nil_of_le (by rw [e3]; omega), e3]
  rw [List.nil_append, show 8 + (bvs l).length - 8 = l.length by simp, bvs_drop, ← bvs_append, ← bvs_append, ← bvs_append, List.drop_replicate]
  unfold blkData
  rw [List.append_assoc, List.append_assoc, show ([0, 0, 0, 0] : List UInt8) = List.replicate 4 0 from rfl, List.replicate_append_replicate, show 244 - l.length + 4 = 248 - l.length by omega]
theorem blkSector_splice (n kind : Nat) (l : List UInt8) (m1 : l.length ≤ 240) :
    splice (bvs (blkData n kind l) ++ bvs [0, 0, 0, 0]) 252 (bvs (le4 (crc (blkData n kind l)))) = bvs (blkSector n kind l) := by
  have e := length_blkData n kind l (by omega)
  generalize hs : crc (blkData n kind l) = s
  unfold splice blkSector
  rw [hs]
  generalize blkData n kind l = d at *
  rw [List.take_append_of_le_length (by simp [e]), List.take_of_length_le (by simp [e]), List.drop_eq_nil_of_le (by simp [e]), List.append_nil, bvs_append]
theorem blkData_bs {w : World} {g n kind : Nat} {l : List UInt8} (h : Blk w g 135 (bvs (blkData n kind l) ++ bvs [0, 0, 0, 0])) (m1 : l.length ≤ 240) : Bs w 0 (some ⟨g, 0, none⟩) 252 256 (blkData n kind l) := by
  rw [← bvs_append] at h
  have h2 := h.bs 0 0 252 256 (Nat.zero_le _) (by omega) (by omega) (by simp [length_blkData n kind l (by omega)])
  rwa [List.drop_zero, List.take_append_of_le_length (by rw [length_blkData n kind l (by omega)]; omega), List.take_of_length_le (by rw [length_blkData n kind l (by omega)]; omega)] at h2
theorem fit252 (n kind : Nat) (l : List UInt8) (m1 : l.length ≤ 240) : 252 + (bvs (le4 (crc (blkData n kind l)))).length ≤ (bvs (blkData n kind l) ++ bvs [0, 0, 0, 0]).length := by
  simp [length_blkData n kind l (by omega)]

set_option maxRecDepth 100000 in
set_option maxHeartbeats 1000000 in
theorem put_ok (n kind : Nat) {A : Option Addr} {m c : Nat} {l : List UInt8} {lo : Nat} {w : World}
    (hb : Bs w lo A m c l) (m1 : m ≤ 240) (hn : n ≤ 65535) (hk : 1 ≤ kind) (hk2 : kind ≤ 4) :
    Calls Try.prog 38 #[.int .i64 n, .agg #[.int .i64 kind, .slice A m c]] w fun e w' =>
      e = .returned (.tuple #[.slice (some ⟨w.heap.size + 1, 0, none⟩) 256 256, .int .i64 0]) ∧ Blk w' (w.heap.size + 1) 135 (bvs (blkSector n kind l)) ∧ Below w.heap.size w w' := by
  obtain ⟨rfl, _, _, h1⟩ := hb
  have hz := zero44
  go_enter Try.func38, Try.ntmps38
  go_wp2
  go_region_held3 (fun w' => w'.cell? ⟨w.heap.size, 0, none⟩ = some (.int .i64 kind) ∧ w'.cell? ⟨w.heap.size, 1, none⟩ = some (.slice A l.length c)) (first | go_keep | (exact ⟨g1.cell (by go_simp) (by simp), g1.cell (by go_simp) (by simp)⟩))
    (first | (refine step_copy rfl (.tmp 29) (.tmp 42) 82 82 rfl 5 Try.underlying82 size5 _ _ 256 256 4 4 rfl rfl (w.heap.size + 1) 0 (zeros 256) 135 (((Blk.new_at (by simp)).alloc _).drew) (bvs (blk4 n kind l)) rfl (fun _ => rfl) 0 (bvs (blk4 n kind l)) (blk4_rd (by simp)) rfl (blk4_fit n kind l) (bvs_oneCell _) ?_; intro w1 H1 g1))
  have c1 : w1.cell? ⟨w.heap.size, 1, none⟩ = some (.slice A l.length c) := g1.cell (by go_simp) (by simp)
  have b1 : Below w.heap.size w w1 := (((((Below.refl _ _).alloc (Nat.le_refl _) _).alloc (by simp) _).alloc (by simp; omega) _).drew).grown g1 (by simp; omega) (by intro k hk; simp at hk; omega)
  have r1 := h1.below b1 (Nat.le_refl _)
  have z1 : w.heap.size + 1 < w1.heap.size := H1.out.lt
  clear g1 h1
  go_wp2
  go_region_held3 (fun w' => w'.cell? ⟨w.heap.size, 1, none⟩ = some (.slice A l.length c)) (first | go_keep | (exact g2.cell (by go_simp) (by simp)))
    (first | (refine step_copy rfl (.tmp 44) (.tmp 46) 82 82 rfl 5 Try.underlying82 size5 _ _ 248 248 l.length c rfl rfl (w.heap.size + 1) 8 _ 135 H1.out.drew (bvs l) (by simp; omega) (fun _ => rfl) lo (bvs l) r1 (by rw [List.take_length]) (fit8 n kind l m1) (bvs_oneCell _) ?_; intro w2 H2 g2))
  have b2 : Below w.heap.size w w2 := (b1.drew).grown g2 (by simp; omega) (by intro k hk; simp at hk; omega)
  have H3 : Hid (Blk w2 (w.heap.size + 1) 135 (bvs (blkData n kind l) ++ bvs [0, 0, 0, 0])) := (blkData_splice n kind l m1) ▸ H2
  clear g2 H2 H1 c1 b1 r1 z1
  go_wp2
  have s1 : Bs w2.drew 0 (some ⟨w.heap.size + 1, 0, none⟩) 252 256 (blkData n kind l) := blkData_bs (H3.out.drew) m1
  go_region_held3 (fun w' => True) (first | trivial)
    (first | (go_at_call 57; refine (sum_any s1).mono ?_; rintro e w3 ⟨rfl, rfl⟩) | (refine step_copy rfl (.tmp 48) (.tmp 50) 82 82 rfl 5 Try.underlying82 size5 _ _ 4 4 4 4 rfl rfl (w.heap.size + 1) 252 _ 135 (H3.out.drew.alloc _) (bvs (le4 (crc (blkData n kind l)))) rfl (fun _ => rfl) 0 _ ((Blk.new _ _ _).rd0 (Nat.zero_le _)) rfl (fit252 n kind l m1) (bvs_oneCell _) ?_; intro w4 H4 g4))
  have b4 : Below w.heap.size w w4 := ((b2.alloc b2.size _).drew).grown g4 (by simp; have := b2.size; omega) (by intro k hk; simp at hk; omega)
  have H5 : Hid (Blk w4 (w.heap.size + 1) 135 (bvs (blkSector n kind l))) := (blkSector_splice n kind l m1) ▸ H4
  clear g4 H3 s1 b2 H4
  go_wp2
  go_ret2
  exact ⟨rfl, H5.out, b4⟩

set_option maxHeartbeats 1000000 in
theorem put_no (n kind : Int) {A : Option Addr} {m c : Nat} {w : World}
    (h : n < 0 ∨ 65535 < n ∨ kind < 1 ∨ 4 < kind ∨ 240 < m) :
    Calls Try.prog 38 #[.int .i64 n, .agg #[.int .i64 kind, .slice A m c]] w fun e w' =>
      e = .returned (.tuple #[.slice none 0 0, .int .i64 1]) ∧ Below w.heap.size w w' := by
  by_cases h1 : n < 0
  · go_enter Try.func38, Try.ntmps38
    go_wp2
    go_ret2
    exact ⟨rfl, (Below.refl _ _).alloc (Nat.le_refl _) _⟩
  · by_cases h2 : 65535 < n
    · go_enter Try.func38, Try.ntmps38
      go_wp2
      go_ret2
      exact ⟨rfl, (Below.refl _ _).alloc (Nat.le_refl _) _⟩
    · by_cases h3 : kind < 1
      · go_enter Try.func38, Try.ntmps38
        go_wp2
        go_ret2
        exact ⟨rfl, (Below.refl _ _).alloc (Nat.le_refl _) _⟩
      · by_cases h4 : 4 < kind
        · go_enter Try.func38, Try.ntmps38
          go_wp2
          go_ret2
          exact ⟨rfl, (Below.refl _ _).alloc (Nat.le_refl _) _⟩
        · have h5 : 240 < m := by omega
          go_enter Try.func38, Try.ntmps38
          go_wp2
          go_ret2
          exact ⟨rfl, (Below.refl _ _).alloc (Nat.le_refl _) _⟩
end Go.Proofs.Ytdakohbfibcjeaa
namespace Go.Proofs.Ytdakohbfibcjeaa
open Go.RowKit

set_option maxHeartbeats 400000 in
theorem equal_any {A1 A2 : Option Addr} {m1 m2 c1 c2 : Nat} {l1 l2 : List UInt8} {lo1 lo2 : Nat} {w : World} (h1 : Bs w lo1 A1 m1 c1 l1) (h2 : Bs w lo2 A2 m2 c2 l2) :
    Calls Try.prog 66 #[.slice A1 m1 c1, .slice A2 m2 c2] w fun e w' => e = .returned (.bool (decide (l1 = l2))) ∧ w = w' := by
  have e1 := conv_bs 82 5 9 Try.underlying82 Try.underlying5 Try.underlying9 h1
  have e2 := conv_bs 82 5 9 Try.underlying82 Try.underlying5 Try.underlying9 h2
  clear h1 h2
  go_enter Try.func66, Try.ntmps66
  go_wp2
  go_ret
  refine ⟨?_, rfl⟩
  rw [← list_beq]
  rfl

set_option maxHeartbeats 400000 in
theorem equal_b {A1 A2 : Option Addr} {m1 m2 c1 c2 : Nat} {l1 l2 : List UInt8} {lo1 lo2 : Nat} {w : World} {t : Bool} (h1 : Bs w lo1 A1 m1 c1 l1) (h2 : Bs w lo2 A2 m2 c2 l2) (ht : decide (l1 = l2) = t) :
    Calls Try.prog 66 #[.slice A1 m1 c1, .slice A2 m2 c2] w fun e w' => e = .returned (.bool t) ∧ w = w' :=
  (equal_any h1 h2).mono fun e w' ⟨he, hw⟩ => ⟨by rw [he, ht], hw⟩

end Go.Proofs.Ytdakohbfibcjeaa
namespace Go.Proofs.Ytdakohbfibcjeaa
open Go.RowKit

theorem zero24 (w : World) : (zeroValue 89).run Try.prog w = .ok (.agg #[.int .i64 0, .slice none 0 0]) w := by kernel_rfl

theorem size24 : (Try.prog.info? 89).map (·.size) = some 2 := by kernel_rfl
theorem results_blk {fn : Func} {p t : Tmp} (h : fn.results = #[.cell p 89, .tmp t]) {tmps : Array Value} {w : World} {g : Nat} {v0 v1 x : Value}
    (hp : tmps.getD p undef = .pointer (some ⟨g, 0, none⟩)) (hx : tmps.getD t undef = x) (hB : Blk w g 89 [v0, v1]) : (results fn tmps).run Try.prog w = .ok (.tuple #[.agg #[v0, v1], x]) w := by
  have hr := run_loadVar_row (P := Try.prog) w g 89 89 #[v0, v1] (0, 0) _ hB Try.underlying89 rfl size24
  have hp' : tmps[p]?.getD undef = .pointer (some ⟨g, 0, none⟩) := by simpa using hp
  have hx' : tmps[t]?.getD undef = x := by simpa using hx
  simp [results, h, hp', hx', asAddr, hr]

/-- what Get answers beside an error -/
def noBlk (x : Nat) : Ending := .returned (.tuple #[.agg #[.int .i64 0, .slice none 0 0], .int .i64 x])

set_option maxHeartbeats 400000 in
theorem get_len (n : Int) {A : Option Addr} {m c : Nat} {w : World} (hm : m ≠ 256) :
    Calls Try.prog 62 #[.int .i64 n, .slice A m c] w fun e w' => e = noBlk 1 ∧ Below w.heap.size w w' := by
  have h1 : ((m : Int) != 256) = true := by rw [bne_iff_ne]; omega
  have hz := zero24
  go_enter Try.func62, Try.ntmps62
  go_wp2
  refine bodyPost_ret (v := .tuple #[.agg #[.int .i64 0, .slice none 0 0], .int .i64 1]) (by simp [results, Try.results62, go_sem]) rfl ⟨rfl, ?_⟩
  exact (Below.refl _ _).alloc (Nat.le_refl _) _

set_option maxHeartbeats 400000 in
theorem get_sum (n : Int) {A : Option Addr} {c lo : Nat} {l : List UInt8} {w : World} (hb : Bs w lo A 256 c l) (hs : ¬ l.drop 252 = le4 (crc (l.take 252))) :
    Calls Try.prog 62 #[.int .i64 n, .slice A 256 c] w fun e w' => e = noBlk 6 ∧ Below w.heap.size w w' := by
  have hz := zero24
  have HS := Lib.hid (show decide (l.drop 252 = le4 (crc (l.take 252))) = false from by simp [hs])
  clear hs
  obtain ⟨b, o, rfl, _, hbs⟩ := hb.at_ (by omega)
  have hc : (252 : Int) ≤ (c : Int) := by have := hb.2.1; omega
  have hd : 256 ≤ c := hb.2.1
  have hx := hb.2.2.1
  have hb1 : Bs (w.alloc (Obj.cells #[Value.int IntKind.i64 0, Value.slice none 0 0] 89)).drew lo (some ⟨b, o, none⟩) 256 c l := (hb.below (B := w.heap.size) (((Below.refl _ _).alloc (Nat.le_refl _) _).drew) (Nat.le_refl _))
  have q1 := hb1.take 252 (by omega)
  have q2 := hb1.cut 252 256 (by omega) (by omega)
  rw [List.take_of_length_le (by have := hb.1; simp; omega)] at q2
  have Q1 := Lib.hid q1
  have Q2 := Lib.hid q2
  clear q1 q2 hb1
  clear hb
  go_enter Try.func62, Try.ntmps62
  go_wp2
  go_region_held3 (fun w' => True) (first | trivial)
    (first | (go_at_call 57; refine (sum_any Q1.out).mono ?_; rintro e w3 ⟨rfl, rfl⟩) | (go_at_call 66; refine (equal_b (Q2.out.below (B := w.heap.size + 1) ((Below.refl _ _).alloc (by simp) _) (by simp)) ((le4_new _ (by simp))) HS.out).mono ?_; rintro e w3 ⟨rfl, rfl⟩))
  go_wp2
  refine bodyPost_ret (v := .tuple #[.agg #[.int .i64 0, .slice none 0 0], .int .i64 6]) (by simp [results, Try.results62, go_sem]) rfl ⟨rfl, ?_⟩
  exact (((Below.refl _ _).alloc (Nat.le_refl _) _).alloc (by simp) _).drew

set_option maxHeartbeats 400000 in
theorem get_big (n : Int) {A : Option Addr} {c lo : Nat} {l : List UInt8} {w : World} (hb : Bs w lo A 256 c l) (hs : l.drop 252 = le4 (crc (l.take 252))) (hk : 240 < blkLen l) :
    Calls Try.prog 62 #[.int .i64 n, .slice A 256 c] w fun e w' => e = noBlk 7 ∧ Below w.heap.size w w' := by
  have hz := zero24
  have HS := Lib.hid (show decide (l.drop 252 = le4 (crc (l.take 252))) = true from by simp [hs])
  clear hs
  obtain ⟨b, o, rfl, _, hbs⟩ := hb.at_ (by omega)
  have hc : (252 : Int) ≤ (c : Int) := by have := hb.2.1; omega
  have hd : 256 ≤ c := hb.2.1
  have hx := hb.2.2.1
  have hb1 : Bs (w.alloc (Obj.cells #[Value.int IntKind.i64 0, Value.slice none 0 0] 89)).drew lo (some ⟨b, o, none⟩) 256 c l := (hb.below (B := w.heap.size) (((Below.refl _ _).alloc (Nat.le_refl _) _).drew) (Nat.le_refl _))
  have q1 := hb1.take 252 (by omega)
  have q2 := hb1.cut 252 256 (by omega) (by omega)
  rw [List.take_of_length_le (by have := hb.1; simp; omega)] at q2
  have Q1 := Lib.hid q1
  have Q2 := Lib.hid q2
  clear q1 q2 hb1
  have c1 : w.cell? ⟨b, o + 1, none⟩ = some (.int .u8 (blkLen l : Nat)) := hb.cell 1 (by omega)
  have hk2 : blkLen l < 256 := (l.getD 1 0).toNat_lt
  generalize blkLen l = k at *
  clear hb
  go_enter Try.func62, Try.ntmps62
  go_wp2
  go_region_held3 (fun w' => True) (first | trivial)
    (first | (go_at_call 57; refine (sum_any Q1.out).mono ?_; rintro e w3 ⟨rfl, rfl⟩) | (go_at_call 66; refine (equal_b (Q2.out.below (B := w.heap.size + 1) ((Below.refl _ _).alloc (by simp) _) (by simp)) ((le4_new _ (by simp))) HS.out).mono ?_; rintro e w3 ⟨rfl, rfl⟩))
  go_wp2
  refine bodyPost_ret (v := .tuple #[.agg #[.int .i64 0, .slice none 0 0], .int .i64 7]) (by simp [results, Try.results62, go_sem]) rfl ⟨rfl, ?_⟩
  exact (((Below.refl _ _).alloc (Nat.le_refl _) _).alloc (by simp) _).drew

/-- a block that was read: its kind, and its bytes in memory of their own -/
def GetT (w : World) (n : Int) (kd k : Nat) (bd l : List UInt8) (e : Ending) (w' : World) : Prop :=
  if blkMay n kd k ∧ blkSector n.toNat kd bd = l then ∃ A' c', e = .returned (.tuple #[.agg #[.int .i64 kd, .slice A' k c'], .int .i64 0]) ∧ Own w' w.heap.size 5 1 A' k c' (bvs bd) ∧ Below w.heap.size w w'
  else e = noBlk 7 ∧ Below w.heap.size w w'
def GetTail (w : World) (n : Int) (l : List UInt8) (e : Ending) (w' : World) : Prop := GetT w n (blkKind l) (blkLen l) (blkBody l) l e w'

set_option maxHeartbeats 1000000 in
theorem get_tail (n : Int) {A : Option Addr} {c lo : Nat} {l : List UInt8} {w : World} (hb : Bs w lo A 256 c l) (hs : l.drop 252 = le4 (crc (l.take 252))) (hk : blkLen l ≤ 240) :
    Calls Try.prog 62 #[.int .i64 n, .slice A 256 c] w fun e w' => GetTail w n l e w' := by
  have hz := zero24
  have HS := Lib.hid (show decide (l.drop 252 = le4 (crc (l.take 252))) = true from by simp [hs])
  clear hs
  obtain ⟨b, o, rfl, _, hbs⟩ := hb.at_ (by omega)
  have hc : (252 : Int) ≤ (c : Int) := by have := hb.2.1; omega
  have hd : 256 ≤ c := hb.2.1
  have hx := hb.2.2.1
  have hb1 : Bs (w.alloc (Obj.cells #[Value.int IntKind.i64 0, Value.slice none 0 0] 89)).drew lo (some ⟨b, o, none⟩) 256 c l := (hb.below (B := w.heap.size) (((Below.refl _ _).alloc (Nat.le_refl _) _).drew) (Nat.le_refl _))
  have q1 := hb1.take 252 (by omega)
  have q2 := hb1.cut 252 256 (by omega) (by omega)
  rw [List.take_of_length_le (by have := hb.1; simp; omega)] at q2
  have Q1 := Lib.hid q1
  have Q2 := Lib.hid q2
  clear q1 q2 hb1
  have c0 : w.cell? ⟨b, o, none⟩ = some (.int .u8 (blkKind l : Nat)) := hb.cell 0 (by omega)
  have c1 : w.cell? ⟨b, o + 1, none⟩ = some (.int .u8 (blkLen l : Nat)) := hb.cell 1 (by omega)
  have hk2 : blkKind l < 256 := (l.getD 0 0).toNat_lt
  have q3 := hb.cut 8 (8 + blkLen l) (by omega) (by omega)
  rw [Nat.add_sub_cancel_left] at q3
  have Q3 := Lib.hid q3
  clear q3
  have hbl := length_blkBody l hb.1 hk
  have HB : Hid (GetTail w n l = GetT w n (blkKind l) (blkLen l) (blkBody l) l) := rfl
  have Q3' : Hid (Bs w lo (some ⟨b, o + 8, none⟩) (blkLen l) (c - 8) (blkBody l)) := Q3
  clear Q3
  have Q0 := Lib.hid hb
  generalize blkLen l = k at *
  generalize blkKind l = kd at *
  generalize blkBody l = bd at *
  clear hb
  go_enter Try.func62, Try.ntmps62
  go_wp2
  go_region_held3 (fun w' => True) (first | trivial)
    (first | (go_at_call 57; refine (sum_any Q1.out).mono ?_; rintro e w3 ⟨rfl, rfl⟩) | (go_at_call 66; refine (equal_b (Q2.out.below (B := w.heap.size + 1) ((Below.refl _ _).alloc (by simp) _) (by simp)) ((le4_new _ (by simp))) HS.out).mono ?_; rintro e w3 ⟨rfl, rfl⟩))
  go_wp2
  refine wp_world (fun W => Below w.heap.size w W ∧ w.heap.size < W.heap.size ∧ Blk W w.heap.size 89 [.int .i64 0, .slice none 0 0]) ⟨(((Below.refl _ _).alloc (Nat.le_refl _) _).alloc (by simp) _).drew, by show _ < (World.alloc _ _).heap.size; simp; omega, ((Blk.new_at (cs := [.int .i64 0, .slice none 0 0]) rfl).alloc _).drew⟩ ?_
  rintro W ⟨hbW, hzW, hD⟩
  clear HS Q1 Q2
  go_cut [7] (fun s7 wx => ∃ g A' c', s7 = .pointer (some ⟨g, 0, none⟩) ∧ w.heap.size < g ∧ Blk wx g 89 [.int .i64 kd, .slice A' k c'] ∧ Own wx (w.heap.size + 1) 5 1 A' k c' (bvs bd) ∧ Blk wx w.heap.size 89 [.int .i64 0, .slice none 0 0] ∧ Below w.heap.size w wx)
  case first =>
    have s1 : IntKind.i64.wrap (8 + (k : Int)) = 8 + (k : Int) := IntWalk.i64_in _ (by omega)
    have s2 : (8 + (k : Int)).toNat = 8 + k := by omega
    have s3 : (8 : Int) + (k : Int) ≤ (c : Int) := by omega
    have s4 : (8 : Int) ≤ 8 + (k : Int) := by omega
    have s5 : ¬ c = 8 := by omega
    have c0 : W.cell? ⟨b, o, none⟩ = some (.int .u8 kd) := (hbW.cell (p := ⟨b, o, none⟩) hbs).trans c0
    have hbs : b < W.heap.size := by omega
    have hbs2 : b < W.heap.size + 1 := by omega
    have hne : ¬ b = W.heap.size := by omega
    have hne' : ¬ W.heap.size = b := by omega
    go_region_held3 (fun w' => w'.cell? ⟨b, o, none⟩ = some (.int .u8 kd)) (first | go_keep)
      (first
        | (go_at_call 79; refine (clone_any (Q3'.out.below hbW.drew (Nat.le_refl _)) (by omega)).mono ?_; rintro e w3 ⟨A1, c3, rfl, ho1, hb1⟩; have hk0 : w3.cell? ⟨b, o, none⟩ = some (.int .u8 kd) := (hb1.cell (p := ⟨b, o, none⟩) hbs).trans c0; have hk1 : b < w3.heap.size := Nat.lt_of_lt_of_le hbs hb1.size)
        | (go_at_call 79; refine (clone_any (Q3'.out.below ((hbW.alloc hbW.size _).drew) (Nat.le_refl _)) (by omega)).mono ?_; rintro e w3 ⟨A1, c3, rfl, ho1, hb1⟩; have hk0 : w3.cell? ⟨b, o, none⟩ = some (.int .u8 kd) := (hb1.cell (p := ⟨b, o, none⟩) (by simp; omega)).trans (by go_simp); have hk3 : Blk w3 W.heap.size 89 [.int .i64 0, .slice none 0 0] := (Blk.new_at (w := W) (cs := [.int .i64 0, .slice none 0 0]) rfl).drew.below hb1 (by simp); have hk4 := hk3.cells; have hk5 := hk3.frees))
    all_goals go_wp2_with fail
    all_goals go_meet
    · have hw : W.heap.size ≤ w3.heap.size := hb1.size
      have hb2 : Below w.heap.size w w3 := hbW.drew.trans (hb1.mono hbW.size)
      exact ⟨_, A1, c3, rfl, by omega, by rw [IntWalk.i64_in (kd : Int) (by omega)]; exact Blk.new_at (cs := [.int .i64 kd, .slice A1 k c3]) rfl, (ho1.alloc _).weak hzW, (hD.drew.below hb1 hzW).alloc _, hb2.alloc hb2.size _⟩
    · have hb2 : Below w.heap.size w w3 := ((hbW.alloc hbW.size _).drew).trans (hb1.mono (by have := hbW.size; simp; omega))
      refine ⟨_, A1, c3, rfl, hzW, ?_, ((ho1.far (by simp) _).far (by simp) _).weak (by simp; omega), ((((hD.alloc _).drew.below hb1 (by simp; omega)).far (by simp; omega) _).far (by simp; omega) _), (hb2.setCell (by simp; exact hbW.size) _).setCell (by simp; exact hbW.size) _⟩
      rw [IntWalk.i64_in (kd : Int) (by omega)]
      exact (hk3.set_ 0 _).set_ 1 _
  case rest =>
    obtain ⟨g, A1, c2, rfl, hgz, hg, ho, hD1, hb1⟩ := hcut
    clear hD hbW hzW
    have hgc := hg.cells
    have hz1 := hb1.size
    have hzD := hD1.lt
    by_cases hm : blkMay n kd k
    · obtain ⟨n', rfl⟩ := Int.eq_ofNat_of_zero_le hm.1
      have hm' := hm
      unfold blkMay at hm'
      go_upto_region 10 with (go_at_call 38; refine (put_ok n' kd (own_bs ho) (by omega) (by omega) (by omega) (by omega)).mono ?_; rintro e w3 ⟨rfl, hs, hb3⟩)
      have r1 := Lib.hid (hs.bs0 0 256 256 (Nat.zero_le _) (by omega) (by omega) (length_blkSector n' kd bd (by omega)))
      have r2 := Lib.hid (Q0.out.below (hb1.trans (hb3.mono hz1)) (Nat.le_refl _))
      have D3 := hD1.below hb3 hzD
      have D3c := D3.cells
      have D3f := D3.frees
      have G3 := hg.below hb3 hg.lt
      have G3c := G3.cells
      have O3 := ho.below hb3 (Nat.le_refl _)
      have HM := Lib.hid hm
      have hb5 := hb1.trans (hb3.mono hz1)
      clear hm hgc hs hb3
      by_cases he : blkSector n' kd bd = l
      · have HE := Lib.hid he
        have ht := Lib.hid (show decide (blkSector n' kd bd = l) = true by simp [he])
        clear he
        go_wp2_with (go_at_call 66; refine (equal_b r1.out r2.out ht.out).mono ?_; rintro e w4 ⟨rfl, rfl⟩)
        refine bodyPost_ret (results_blk rfl rfl rfl ((D3.set_ 0 _).set_ 1 _)) rfl ?_
        rw [HB.out, GetT, if_pos ⟨HM.out, HE.out⟩]
        exact ⟨A1, c2, rfl, ((O3.far (by simp) _).far (by simp) _).weak (by omega), (hb5.setCell (Nat.le_refl _) _).setCell (Nat.le_refl _) _⟩
      · have HE := Lib.hid he
        have ht := Lib.hid (show decide (blkSector n' kd bd = l) = false by simp [he])
        clear he
        go_wp2_with (go_at_call 66; refine (equal_b r1.out r2.out ht.out).mono ?_; rintro e w4 ⟨rfl, rfl⟩)
        refine bodyPost_ret (results_blk rfl rfl rfl ((D3.set_ 0 _).set_ 1 _)) rfl ?_
        rw [HB.out, GetT, if_neg (fun h => HE.out h.2)]
        exact ⟨rfl, (hb5.setCell (Nat.le_refl _) _).setCell (Nat.le_refl _) _⟩
    · go_upto_region 10 with (go_at_call 38; refine (put_no _ _ (by unfold blkMay at hm; omega)).mono ?_; rintro e w3 ⟨rfl, hb3⟩)
      have D3 := hD1.below hb3 hzD
      have D3c := D3.cells
      have D3f := D3.frees
      have HM := Lib.hid hm
      clear hm hgc
      go_wp2_with fail
      refine bodyPost_ret (results_blk rfl rfl rfl ((D3.set_ 0 _).set_ 1 _)) rfl ?_
      rw [HB.out, GetT, if_neg (fun h => HM.out h.1)]
      exact ⟨rfl, ((hb1.trans (hb3.mono hz1)).setCell (Nat.le_refl _) _).setCell (Nat.le_refl _) _⟩
end Go.Proofs.Ytdakohbfibcjeaa
namespace Go.Proofs.Ytdakohbfibcjeaa
open Go.RowKit


theorem byte_shift (s j : Nat) : Value.int .u8 ((s : Int) / 2 ^ (8 * j) % 256) = bv (UInt8.ofNat (s / 2 ^ (8 * j) % 256)) := by
  refine bv_of _ _ ?_
  rw [Nat.mod_mod]
  simp
end Go.Proofs.Ytdakohbfibcjeaa
namespace Go.Proofs.Ytdakohbfibcjeaa
open Go.RowKit


/-- what a Get of 256 bytes leaves -/
def GetPost (w : World) (n : Int) (l : List UInt8) (e : Ending) (w' : World) : Prop :=
  if l.drop 252 = le4 (crc (l.take 252)) then
    if 240 < blkLen l then e = noBlk 7 ∧ Below w.heap.size w w' else GetTail w n l e w'
  else e = noBlk 6 ∧ Below w.heap.size w w'

end Go.Proofs.Ytdakohbfibcjeaa
namespace Go.Proofs.Ytdakohbfibcjeaa

theorem blkData_get (n kind : Nat) (l : List UInt8) (i : Nat) (h : i < 8) : (blkSector n kind l).getD i 0 = (blkHead n kind l).getD i 0 := by
  have e : (blkHead n kind l).length = 8 := rfl
  unfold blkSector blkData
  simp only [List.getD_eq_getElem?_getD]
  rw [List.append_assoc, List.getElem?_append_left (by omega)]
theorem blkKind_sector (n kind : Nat) (l : List UInt8) (h : kind < 256) : blkKind (blkSector n kind l) = kind := by
  unfold blkKind
  rw [blkData_get n kind l 0 (by omega)]
  simp [blkHead]
  omega
theorem blkLen_sector (n kind : Nat) (l : List UInt8) (h : l.length < 256) : blkLen (blkSector n kind l) = l.length := by
  unfold blkLen
  rw [blkData_get n kind l 1 (by omega)]
  simp [blkHead]
  omega
theorem blkBody_sector (n kind : Nat) (l : List UInt8) (h : l.length < 256) : blkBody (blkSector n kind l) = l := by
  unfold blkBody
  rw [blkLen_sector n kind l h]
  have e : (blkHead n kind l).length = 8 := rfl
  unfold blkSector blkData
  rw [List.append_assoc, List.drop_append, List.drop_eq_nil_of_le (by omega), e]
  simp
theorem drop_sector (n kind : Nat) (l : List UInt8) (h : l.length ≤ 244) : (blkSector n kind l).drop 252 = le4 (crc ((blkSector n kind l).take 252)) := by
  have e := length_blkData n kind l h
  unfold blkSector
  rw [List.drop_append, List.drop_eq_nil_of_le (by omega), e, List.take_append_of_le_length (by omega), List.take_of_length_le (by omega)]
  rfl
theorem blkNum_sector (n kind : Nat) (l : List UInt8) (h : n ≤ 65535) : ((blkSector n kind l).getD 2 0).toNat + 256 * ((blkSector n kind l).getD 3 0).toNat = n := by
  rw [blkData_get n kind l 2 (by omega), blkData_get n kind l 3 (by omega)]
  simp [blkHead]
  omega
theorem blkSector_inj {n n' k k' : Nat} {l l' : List UInt8} (hn : n ≤ 65535) (hn' : n' ≤ 65535) (hk : k < 256) (hk' : k' < 256) (hl : l.length < 256) (hl' : l'.length < 256)
    (h : blkSector n k l = blkSector n' k' l') : n = n' ∧ k = k' ∧ l = l' := by
  refine ⟨?_, ?_, ?_⟩
  · rw [← blkNum_sector n k l hn, h, blkNum_sector n' k' l' hn']
  · rw [← blkKind_sector n k l hk, h, blkKind_sector n' k' l' hk']
  · rw [← blkBody_sector n k l hl, h, blkBody_sector n' k' l' hl']
end Go.Proofs.Ytdakohbfibcjeaa
namespace Go.Proofs.Ytdakohbfibcjeaa
open Go.RowKit

theorem get_any (n : Int) {A : Option Addr} {c lo : Nat} {l : List UInt8} {w : World} (hb : Bs w lo A 256 c l) :
    Calls Try.prog 62 #[.int .i64 n, .slice A 256 c] w (GetPost w n l) := by
  by_cases h1 : l.drop 252 = le4 (crc (l.take 252))
  · by_cases h2 : 240 < blkLen l
    · exact (get_big n hb h1 h2).mono fun e w' h => by rw [GetPost, if_pos h1, if_pos h2]; exact h
    · exact (get_tail n hb h1 (by omega)).mono fun e w' h => by rw [GetPost, if_pos h1, if_neg h2]; exact h
  · exact (get_sum n hb h1).mono fun e w' h => by rw [GetPost, if_neg h1]; exact h

theorem get_own (n k : Nat) {bd : List UInt8} {A : Option Addr} {c lo : Nat} {w : World} (hb : Bs w lo A 256 c (blkSector n k bd)) (hn : n ≤ 65535) (hk1 : 1 ≤ k) (hk : k ≤ 4) (hl : bd.length ≤ 240) :
    Calls Try.prog 62 #[.int .i64 n, .slice A 256 c] w fun e w' => ∃ A' c', e = .returned (.tuple #[.agg #[.int .i64 k, .slice A' bd.length c'], .int .i64 0]) ∧ Own w' w.heap.size 5 1 A' bd.length c' (bvs bd) ∧ Below w.heap.size w w' := by
  refine (get_any n hb).mono fun e w' h => ?_
  rw [GetPost, if_pos (drop_sector n k bd (by omega)), blkLen_sector n k bd (by omega), if_neg (by omega), GetTail, blkKind_sector n k bd (by omega), blkLen_sector n k bd (by omega), blkBody_sector n k bd (by omega), GetT,
    if_pos ⟨by unfold blkMay; omega, by simp⟩] at h
  exact h

theorem get_other (n' : Int) (n k : Nat) {bd : List UInt8} {A : Option Addr} {c lo : Nat} {w : World} (hb : Bs w lo A 256 c (blkSector n k bd)) (hn : n ≤ 65535) (hk1 : 1 ≤ k) (hk : k ≤ 4) (hl : bd.length ≤ 240) (hne : n' ≠ n) :
    Calls Try.prog 62 #[.int .i64 n', .slice A 256 c] w fun e w' => e = .returned (.tuple #[.agg #[.int .i64 0, .slice none 0 0], .int .i64 7]) ∧ Below w.heap.size w w' := by
  refine (get_any n' hb).mono fun e w' h => ?_
  rw [GetPost, if_pos (drop_sector n k bd (by omega)), blkLen_sector n k bd (by omega), if_neg (by omega), GetTail, blkKind_sector n k bd (by omega), blkLen_sector n k bd (by omega), blkBody_sector n k bd (by omega), GetT,
    if_neg] at h
  · exact h
  · rintro ⟨hm, he⟩
    unfold blkMay at hm
    have := (blkSector_inj (by omega) hn (by omega) (by omega) (by omega) (by omega) he).1
    omega

end Go.Proofs.Ytdakohbfibcjeaa
namespace Go.Proofs.Ytdakohbfibcjeaa
open Go.RowKit

/-- what a sector is read as: the error, the kind, the bytes -/
def gBlk (n : Int) (l : List UInt8) : Nat × Nat × List UInt8 :=
  if l.length ≠ 256 then (1, 0, [])
  else if l.drop 252 = le4 (crc (l.take 252)) then
    if 240 < blkLen l then (7, 0, [])
    else if blkMay n (blkKind l) (blkLen l) ∧ blkSector n.toNat (blkKind l) (blkBody l) = l then (0, blkKind l, blkBody l)
    else (7, 0, [])
  else (6, 0, [])

/-- the answer r in memory -/
def GetsU (w : World) (r : Nat × Nat × List UInt8) (e : Ending) (w' : World) : Prop :=
  ∃ A' c', e = .returned (.tuple #[.agg #[.int .i64 r.2.1, .slice A' r.2.2.length c'], .int .i64 r.1]) ∧ Bs w' w.heap.size A' r.2.2.length c' r.2.2 ∧ Below w.heap.size w w'

theorem getsU_err {w w' : World} {x : Nat} {e : Ending} (h : e = noBlk x ∧ Below w.heap.size w w') : GetsU w (x, 0, []) e w' :=
  ⟨none, 0, h.1, Bs.nil_ _ _, h.2⟩
theorem getsU_of {n : Int} {w w' : World} {l : List UInt8} {e : Ending} (hl : l.length = 256) (h : GetPost w n l e w') : GetsU w (gBlk n l) e w' := by
  unfold GetPost at h
  unfold gBlk
  rw [if_neg (by omega)]
  by_cases h1 : l.drop 252 = le4 (crc (l.take 252))
  · rw [if_pos h1] at h ⊢
    by_cases h2 : 240 < blkLen l
    · rw [if_pos h2] at h ⊢
      exact getsU_err h
    · rw [if_neg h2] at h ⊢
      unfold GetTail GetT at h
      by_cases h3 : blkMay n (blkKind l) (blkLen l) ∧ blkSector n.toNat (blkKind l) (blkBody l) = l
      · rw [if_pos h3] at h ⊢
        obtain ⟨A', c', he, ho, hb⟩ := h
        have hle := length_blkBody l hl (by omega)
        exact ⟨A', c', by rw [he, ← hle]; rfl, by have := own_bs ho; rwa [← hle] at this, hb⟩
      · rw [if_neg h3] at h ⊢
        exact getsU_err h
  · rw [if_neg h1] at h ⊢
    exact getsU_err h
theorem get_u (n : Int) {A : Option Addr} {m c lo : Nat} {l : List UInt8} {w : World} (hb : Bs w lo A m c l) :
    Calls Try.prog 62 #[.int .i64 n, .slice A m c] w (GetsU w (gBlk n l)) := by
  by_cases hm : m = 256
  · subst hm
    exact (get_any n hb).mono fun e w' h => getsU_of hb.1 h
  · refine (get_len n hm).mono fun e w' h => ?_
    unfold gBlk
    rw [if_pos (by rw [hb.1]; exact hm)]
    exact getsU_err h
theorem gBlk_sum (n : Int) (d : List UInt8) (h : d.length = 252) : (gBlk n (d ++ le4 (crc d))).1 ≠ 6 := by
  have e1 : (d ++ le4 (crc d)).length = 256 := by simp [h]
  have e2 : (d ++ le4 (crc d)).drop 252 = le4 (crc d) := by rw [← h, List.drop_left]
  have e3 : (d ++ le4 (crc d)).take 252 = d := by rw [← h, List.take_left]
  unfold gBlk
  rw [if_neg (by omega), e2, e3, if_pos rfl]
  split
  · simp
  · split <;> simp

end Go.Proofs.Ytdakohbfibcjeaa
