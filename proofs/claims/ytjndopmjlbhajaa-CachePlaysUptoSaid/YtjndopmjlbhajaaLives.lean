/- The law's own example; the block's Get of a block's own sector; are two blocks the same. -/
import Derived.Test.YtjndopmjlbhajaaGetR
import Derived.Test.YtjndopmjlbhajaaPlainC
namespace Go.Proofs.Ytjndopmjlbhajaa
open Go.RowKit

theorem get_any (n : Int) {A : Option Addr} {c lo : Nat} {l : List UInt8} {w : World} (hb : Bs w lo A 256 c l) :
    Calls Try.prog 32 #[.int .i64 n, .slice A 256 c] w (GetPost w n l) := by
  by_cases h1 : l.drop 252 = le4 (crc (l.take 252))
  · by_cases h2 : 240 < blkLen l
    · exact (get_big n hb h1 h2).mono fun e w' h => by rw [GetPost, if_pos h1, if_pos h2]; exact h
    · exact (get_tail n hb h1 (by omega)).mono fun e w' h => by rw [GetPost, if_pos h1, if_neg h2]; exact h
  · exact (get_sum n hb h1).mono fun e w' h => by rw [GetPost, if_neg h1]; exact h

theorem get_own (n k : Nat) {bd : List UInt8} {A : Option Addr} {c lo : Nat} {w : World} (hb : Bs w lo A 256 c (blkSector n k bd)) (hn : n ≤ 65535) (hk1 : 1 ≤ k) (hk : k ≤ 4) (hl : bd.length ≤ 240) :
    Calls Try.prog 32 #[.int .i64 n, .slice A 256 c] w fun e w' => ∃ A' c', e = .returned (.tuple #[.agg #[.int .i64 k, .slice A' bd.length c'], .int .i64 0]) ∧ Own w' w.heap.size 5 1 A' bd.length c' (bvs bd) ∧ Below w.heap.size w w' := by
  refine (get_any n hb).mono fun e w' h => ?_
  rw [GetPost, if_pos (drop_sector n k bd (by omega)), blkLen_sector n k bd (by omega), if_neg (by omega), GetTail, blkKind_sector n k bd (by omega), blkLen_sector n k bd (by omega), blkBody_sector n k bd (by omega), GetT,
    if_pos ⟨by unfold blkMay; omega, by simp⟩] at h
  exact h

theorem get_other (n' : Int) (n k : Nat) {bd : List UInt8} {A : Option Addr} {c lo : Nat} {w : World} (hb : Bs w lo A 256 c (blkSector n k bd)) (hn : n ≤ 65535) (hk1 : 1 ≤ k) (hk : k ≤ 4) (hl : bd.length ≤ 240) (hne : n' ≠ n) :
    Calls Try.prog 32 #[.int .i64 n', .slice A 256 c] w fun e w' => e = .returned (.tuple #[.agg #[.int .i64 0, .slice none 0 0], .int .i64 7]) ∧ Below w.heap.size w w' := by
  refine (get_any n' hb).mono fun e w' h => ?_
  rw [GetPost, if_pos (drop_sector n k bd (by omega)), blkLen_sector n k bd (by omega), if_neg (by omega), GetTail, blkKind_sector n k bd (by omega), blkLen_sector n k bd (by omega), blkBody_sector n k bd (by omega), GetT,
    if_neg] at h
  · exact h
  · rintro ⟨hm, he⟩
    unfold blkMay at hm
    have := (blkSector_inj (by omega) hn (by omega) (by omega) (by omega) (by omega) he).1
    omega

set_option maxHeartbeats 400000 in
theorem bsame_any (k1 k2 : Int) {A1 A2 : Option Addr} {m1 m2 c1 c2 : Nat} {l1 l2 : List UInt8} {lo1 lo2 : Nat} {w : World} (h1 : Bs w lo1 A1 m1 c1 l1) (h2 : Bs w lo2 A2 m2 c2 l2) :
    Calls Try.prog 14 #[.agg #[.int .i64 k1, .slice A1 m1 c1], .agg #[.int .i64 k2, .slice A2 m2 c2]] w fun e w' => e = .returned (.bool (decide (k1 = k2 ∧ l1 = l2))) ∧ Below w.heap.size w w' := by
  have hb : Below w.heap.size w ((w.alloc (.cells #[.int .i64 k1, .slice A1 m1 c1] 33)).alloc (.cells #[.int .i64 k2, .slice A2 m2 c2] 33)) := ((Below.refl _ _).alloc (Nat.le_refl _) _).alloc (by simp) _
  have r1 := Lib.hid (h1.below hb (Nat.le_refl _))
  have r2 := Lib.hid (h2.below hb (Nat.le_refl _))
  clear h1 h2
  by_cases hk : k1 = k2
  · subst hk
    go_enter Try.func14, Try.ntmps14
    go_wp2_with (go_at_call 33; refine (same_any r1.out r2.out).mono ?_; rintro e w6 ⟨rfl, q6, rfl⟩)
    go_ret
    exact ⟨by simp, below_drewN hb _⟩
  · have hk' : (k1 == k2) = false := by simp [hk]
    go_enter Try.func14, Try.ntmps14
    go_wp2_with (go_at_call 33; refine (same_any r1.out r2.out).mono ?_; rintro e w6 ⟨rfl, q6, rfl⟩)
    go_ret
    exact ⟨by simp [hk], below_drewN hb _⟩

end Go.Proofs.Ytjndopmjlbhajaa
