/- What is read out of a block's own sector is the block. No condition. -/
import Derived.Test.YtjndopmjlbhajaaPlainBD
namespace Go.Proofs.Ytjndopmjlbhajaa

theorem blkData_get (n kind : Nat) (l : List UInt8) (i : Nat) (h : i < 8) : (blkSector n kind l).getD i 0 = (blkHead n kind l).getD i 0 := by
  have e : (blkHead n kind l).length = 8 := rfl
  unfold blkSector blkData
  simp only [List.getD_eq_getElem?_getD]
  rw [List.append_assoc, List.getElem?_append_left (by omega)]
theorem blkKind_sector (n kind : Nat) (l : List UInt8) (h : kind < 256) : blkKind (blkSector n kind l) = kind := by
  unfold blkKind
  rw [blkData_get n kind l 0 (by omega)]
  simp [blkHead]
  omega
theorem blkLen_sector (n kind : Nat) (l : List UInt8) (h : l.length < 256) : blkLen (blkSector n kind l) = l.length := by
  unfold blkLen
  rw [blkData_get n kind l 1 (by omega)]
  simp [blkHead]
  omega
theorem blkBody_sector (n kind : Nat) (l : List UInt8) (h : l.length < 256) : blkBody (blkSector n kind l) = l := by
  unfold blkBody
  rw [blkLen_sector n kind l h]
  have e : (blkHead n kind l).length = 8 := rfl
  unfold blkSector blkData
  rw [List.append_assoc, List.drop_append, List.drop_eq_nil_of_le (by omega), e]
  simp
theorem drop_sector (n kind : Nat) (l : List UInt8) (h : l.length ≤ 244) : (blkSector n kind l).drop 252 = le4 (crc ((blkSector n kind l).take 252)) := by
  have e := length_blkData n kind l h
  unfold blkSector
  rw [List.drop_append, List.drop_eq_nil_of_le (by omega), e, List.take_append_of_le_length (by omega), List.take_of_length_le (by omega)]
  rfl
theorem blkNum_sector (n kind : Nat) (l : List UInt8) (h : n ≤ 65535) : ((blkSector n kind l).getD 2 0).toNat + 256 * ((blkSector n kind l).getD 3 0).toNat = n := by
  rw [blkData_get n kind l 2 (by omega), blkData_get n kind l 3 (by omega)]
  simp [blkHead]
  omega
theorem blkSector_inj {n n' k k' : Nat} {l l' : List UInt8} (hn : n ≤ 65535) (hn' : n' ≤ 65535) (hk : k < 256) (hk' : k' < 256) (hl : l.length < 256) (hl' : l'.length < 256)
    (h : blkSector n k l = blkSector n' k' l') : n = n' ∧ k = k' ∧ l = l' := by
  refine ⟨?_, ?_, ?_⟩
  · rw [← blkNum_sector n k l hn, h, blkNum_sector n' k' l' hn']
  · rw [← blkKind_sector n k l hk, h, blkKind_sector n' k' l' hk']
  · rw [← blkBody_sector n k l hl, h, blkBody_sector n' k' l' hl']
end Go.Proofs.Ytjndopmjlbhajaa
