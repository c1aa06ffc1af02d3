/- A block's sector as plain lists of bytes. No condition. -/
import Derived.Test.YtnclebnodkkgnaaPlainA
namespace Go.Proofs.Ytnclebnodkkgnaa
/-- a number's four bytes, the lowest first -/
def le4 (s : Nat) : List UInt8 := [UInt8.ofNat (s % 256), UInt8.ofNat (s / 256 % 256), UInt8.ofNat (s / 65536 % 256), UInt8.ofNat (s / 16777216 % 256)]
@[simp] theorem length_le4 (s : Nat) : (le4 s).length = 4 := rfl
def blkHead (n kind : Nat) (l : List UInt8) : List UInt8 := [UInt8.ofNat kind, UInt8.ofNat l.length, UInt8.ofNat (n % 256), UInt8.ofNat (n / 256), 0, 0, 0, 0]
def blkData (n kind : Nat) (l : List UInt8) : List UInt8 := blkHead n kind l ++ (l ++ List.replicate (244 - l.length) 0)
def blkSector (n kind : Nat) (l : List UInt8) : List UInt8 := blkData n kind l ++ le4 (crc (blkData n kind l))
theorem length_blkData (n kind : Nat) (l : List UInt8) (h : l.length ≤ 244) : (blkData n kind l).length = 252 := by
  simp [blkData, blkHead]; omega
theorem length_blkSector (n kind : Nat) (l : List UInt8) (h : l.length ≤ 244) : (blkSector n kind l).length = 256 := by
  simp [blkSector, length_blkData n kind l h]
theorem blkData_eq (n kind : Nat) (l : List UInt8) (k : Nat) (h : 8 + l.length + k = 252) : blkHead n kind l ++ l ++ List.replicate k 0 = blkData n kind l := by
  unfold blkData
  rw [List.append_assoc, show 244 - l.length = k by omega]
theorem le4_snoc (s j : Nat) (h : j < 4) : (le4 s).take (j + 1) = (le4 s).take j ++ [UInt8.ofNat (s / 2 ^ (8 * j) % 256)] := by
  match j, h with
  | 0, _ => simp [le4]
  | 1, _ => simp [le4]
  | 2, _ => simp [le4]
  | 3, _ => simp [le4]
def blkKind (s : List UInt8) : Nat := (s.getD 0 0).toNat
def blkLen (s : List UInt8) : Nat := (s.getD 1 0).toNat
def blkBody (s : List UInt8) : List UInt8 := (s.drop 8).take (blkLen s)
def blkMay (n kind : Int) (m : Nat) : Prop := 0 ≤ n ∧ n ≤ 65535 ∧ 1 ≤ kind ∧ kind ≤ 4 ∧ m ≤ 240
instance (n kind : Int) (m : Nat) : Decidable (blkMay n kind m) := by unfold blkMay; infer_instance
/-- what a sector is read as: 0: a block; else the error -/
def blkCode (n : Int) (s : List UInt8) : Nat :=
  if s.length ≠ 256 then 1
  else if s.drop 252 ≠ le4 (crc (s.take 252)) then 6
  else if 240 < blkLen s then 7
  else if blkMay n (blkKind s) (blkLen s) ∧ blkSector n.toNat (blkKind s) (blkBody s) = s then 0
  else 7
theorem length_blkBody (s : List UInt8) (h : s.length = 256) (h2 : blkLen s ≤ 240) : (blkBody s).length = blkLen s := by
  unfold blkBody; simp; omega
theorem take_drop_snoc (l : List UInt8) (i j : Nat) (h : i + j < l.length) : (l.drop i).take (j + 1) = (l.drop i).take j ++ [l.getD (i + j) 0] := by
  rw [List.take_succ_eq_append_getElem (by simp; omega)]
  simp [List.getD_eq_getElem?_getD, List.getElem?_eq_getElem h]
theorem cast_shift (s j : Nat) : (s : Int) / 2 ^ (8 * j) % 256 = ((s / 2 ^ (8 * j) % 256 : Nat) : Int) := by simp
theorem y_ne {y : UInt8} {s j : Nat} (h : ((y.toNat : Int) != (s : Int) / 2 ^ (8 * j) % 256) = true) : y ≠ UInt8.ofNat (s / 2 ^ (8 * j) % 256) := by
  rw [cast_shift, bne_iff_ne] at h
  rintro rfl
  exact h (by simp)
theorem y_eq {y : UInt8} {s j : Nat} (h : ((y.toNat : Int) != (s : Int) / 2 ^ (8 * j) % 256) = false) : y = UInt8.ofNat (s / 2 ^ (8 * j) % 256) := by
  rw [cast_shift, bne_eq_false_iff_eq] at h
  apply UInt8.toNat.inj
  simp only [UInt8.toNat_ofNat']
  omega
end Go.Proofs.Ytnclebnodkkgnaa
