/- The walks of the laws BlockGets and BlockSums: both Gets answer one plain function. -/
import Derived.Test.YtjndopmjlbhajaaLives
namespace Go.Proofs.Ytjndopmjlbhajaa
open Go.RowKit

/-- what a sector is read as: the error, the kind, the bytes -/
def gBlk (n : Int) (l : List UInt8) : Nat × Nat × List UInt8 :=
  if l.length ≠ 256 then (1, 0, [])
  else if l.drop 252 = le4 (crc (l.take 252)) then
    if 240 < blkLen l then (7, 0, [])
    else if blkMay n (blkKind l) (blkLen l) ∧ blkSector n.toNat (blkKind l) (blkBody l) = l then (0, blkKind l, blkBody l)
    else (7, 0, [])
  else (6, 0, [])

/-- the answer r in memory -/
def GetsU (w : World) (r : Nat × Nat × List UInt8) (e : Ending) (w' : World) : Prop :=
  ∃ A' c', e = .returned (.tuple #[.agg #[.int .i64 r.2.1, .slice A' r.2.2.length c'], .int .i64 r.1]) ∧ Bs w' w.heap.size A' r.2.2.length c' r.2.2 ∧ Below w.heap.size w w'

theorem getsU_err {w w' : World} {x : Nat} {e : Ending} (h : e = noBlk x ∧ Below w.heap.size w w') : GetsU w (x, 0, []) e w' :=
  ⟨none, 0, h.1, Bs.nil_ _ _, h.2⟩
theorem getsU_of {n : Int} {w w' : World} {l : List UInt8} {e : Ending} (hl : l.length = 256) (h : GetPost w n l e w') : GetsU w (gBlk n l) e w' := by
  unfold GetPost at h
  unfold gBlk
  rw [if_neg (by omega)]
  by_cases h1 : l.drop 252 = le4 (crc (l.take 252))
  · rw [if_pos h1] at h ⊢
    by_cases h2 : 240 < blkLen l
    · rw [if_pos h2] at h ⊢
      exact getsU_err h
    · rw [if_neg h2] at h ⊢
      unfold GetTail GetT at h
      by_cases h3 : blkMay n (blkKind l) (blkLen l) ∧ blkSector n.toNat (blkKind l) (blkBody l) = l
      · rw [if_pos h3] at h ⊢
        obtain ⟨A', c', he, ho, hb⟩ := h
        have hle := length_blkBody l hl (by omega)
        exact ⟨A', c', by rw [he, ← hle]; rfl, by have := own_bs ho; rwa [← hle] at this, hb⟩
      · rw [if_neg h3] at h ⊢
        exact getsU_err h
  · rw [if_neg h1] at h ⊢
    exact getsU_err h
theorem get_u (n : Int) {A : Option Addr} {m c lo : Nat} {l : List UInt8} {w : World} (hb : Bs w lo A m c l) :
    Calls Try.prog 32 #[.int .i64 n, .slice A m c] w (GetsU w (gBlk n l)) := by
  by_cases hm : m = 256
  · subst hm
    exact (get_any n hb).mono fun e w' h => getsU_of hb.1 h
  · refine (get_len n hm).mono fun e w' h => ?_
    unfold gBlk
    rw [if_pos (by rw [hb.1]; exact hm)]
    exact getsU_err h
theorem rget_u (n : Int) {A : Option Addr} {m c lo : Nat} {l : List UInt8} {w : World} (hb : Bs w lo A m c l) :
    Calls Try.prog 34 #[.int .i64 n, .slice A m c] w (GetsU w (gBlk n l)) := by
  by_cases hm : m = 256
  · subst hm
    exact (rget_any n hb).mono fun e w' h => getsU_of hb.1 h
  · refine (rget_len n hm).mono fun e w' h => ?_
    unfold gBlk
    rw [if_pos (by rw [hb.1]; exact hm)]
    exact getsU_err h

theorem gBlk_sum (n : Int) (d : List UInt8) (h : d.length = 252) : (gBlk n (d ++ le4 (crc d))).1 ≠ 6 := by
  have e1 : (d ++ le4 (crc d)).length = 256 := by simp [h]
  have e2 : (d ++ le4 (crc d)).drop 252 = le4 (crc d) := by rw [← h, List.drop_left]
  have e3 : (d ++ le4 (crc d)).take 252 = d := by rw [← h, List.take_left]
  unfold gBlk
  rw [if_neg (by omega), e2, e3, if_pos rfl]
  split
  · simp
  · split <;> simp

end Go.Proofs.Ytjndopmjlbhajaa
