/- The law's own example; the block's Get of a block's own sector; are two blocks the same. -/
import Derived.Test.YtcicchijibhigaaGetR
import Derived.Test.YtcicchijibhigaaPlainC
namespace Go.Proofs.Ytcicchijibhigaa
open Go.RowKit

theorem get_any (n : Int) {A : Option Addr} {c lo : Nat} {l : List UInt8} {w : World} (hb : Bs w lo A 256 c l) :
    Calls Try.prog 17 #[.int .i64 n, .slice A 256 c] w (GetPost w n l) := by
  by_cases h1 : l.drop 252 = le4 (crc (l.take 252))
  · by_cases h2 : 240 < blkLen l
    · exact (get_big n hb h1 h2).mono fun e w' h => by rw [GetPost, if_pos h1, if_pos h2]; exact h
    · exact (get_tail n hb h1 (by omega)).mono fun e w' h => by rw [GetPost, if_pos h1, if_neg h2]; exact h
  · exact (get_sum n hb h1).mono fun e w' h => by rw [GetPost, if_neg h1]; exact h

theorem get_own (n k : Nat) {bd : List UInt8} {A : Option Addr} {c lo : Nat} {w : World} (hb : Bs w lo A 256 c (blkSector n k bd)) (hn : n ≤ 65535) (hk1 : 1 ≤ k) (hk : k ≤ 4) (hl : bd.length ≤ 240) :
    Calls Try.prog 17 #[.int .i64 n, .slice A 256 c] w fun e w' => ∃ A' c', e = .returned (.tuple #[.agg #[.int .i64 k, .slice A' bd.length c'], .int .i64 0]) ∧ Own w' w.heap.size 5 1 A' bd.length c' (bvs bd) ∧ Below w.heap.size w w' := by
  refine (get_any n hb).mono fun e w' h => ?_
  rw [GetPost, if_pos (drop_sector n k bd (by omega)), blkLen_sector n k bd (by omega), if_neg (by omega), GetTail, blkKind_sector n k bd (by omega), blkLen_sector n k bd (by omega), blkBody_sector n k bd (by omega), GetT,
    if_pos ⟨by unfold blkMay; omega, by simp⟩] at h
  exact h

theorem get_other (n' : Int) (n k : Nat) {bd : List UInt8} {A : Option Addr} {c lo : Nat} {w : World} (hb : Bs w lo A 256 c (blkSector n k bd)) (hn : n ≤ 65535) (hk1 : 1 ≤ k) (hk : k ≤ 4) (hl : bd.length ≤ 240) (hne : n' ≠ n) :
    Calls Try.prog 17 #[.int .i64 n', .slice A 256 c] w fun e w' => e = .returned (.tuple #[.agg #[.int .i64 0, .slice none 0 0], .int .i64 7]) ∧ Below w.heap.size w w' := by
  refine (get_any n' hb).mono fun e w' h => ?_
  rw [GetPost, if_pos (drop_sector n k bd (by omega)), blkLen_sector n k bd (by omega), if_neg (by omega), GetTail, blkKind_sector n k bd (by omega), blkLen_sector n k bd (by omega), blkBody_sector n k bd (by omega), GetT,
    if_neg] at h
  · exact h
  · rintro ⟨hm, he⟩
    unfold blkMay at hm
    have := (blkSector_inj (by omega) hn (by omega) (by omega) (by omega) (by omega) he).1
    omega

set_option maxHeartbeats 400000 in
theorem bsame_any (k1 k2 : Int) {A1 A2 : Option Addr} {m1 m2 c1 c2 : Nat} {l1 l2 : List UInt8} {lo1 lo2 : Nat} {w : World} (h1 : Bs w lo1 A1 m1 c1 l1) (h2 : Bs w lo2 A2 m2 c2 l2) :
    Calls Try.prog 18 #[.agg #[.int .i64 k1, .slice A1 m1 c1], .agg #[.int .i64 k2, .slice A2 m2 c2]] w fun e w' => e = .returned (.bool (decide (k1 = k2 ∧ l1 = l2))) ∧ Below w.heap.size w w' := by
  have hb : Below w.heap.size w ((w.alloc (.cells #[.int .i64 k1, .slice A1 m1 c1] 24)).alloc (.cells #[.int .i64 k2, .slice A2 m2 c2] 24)) := ((Below.refl _ _).alloc (Nat.le_refl _) _).alloc (by simp) _
  have r1 := Lib.hid (h1.below hb (Nat.le_refl _))
  have r2 := Lib.hid (h2.below hb (Nat.le_refl _))
  clear h1 h2
  by_cases hk : k1 = k2
  · subst hk
    go_enter Try.func18, Try.ntmps18
    go_wp2_with (go_at_call 15; refine (same_any r1.out r2.out).mono ?_; rintro e w6 ⟨rfl, q6, rfl⟩)
    go_ret
    exact ⟨by simp, below_drewN hb _⟩
  · have hk' : (k1 == k2) = false := by simp [hk]
    go_enter Try.func18, Try.ntmps18
    go_wp2_with (go_at_call 15; refine (same_any r1.out r2.out).mono ?_; rintro e w6 ⟨rfl, q6, rfl⟩)
    go_ret
    exact ⟨by simp [hk], below_drewN hb _⟩

set_option maxRecDepth 100000 in
set_option maxHeartbeats 1000000 in
theorem lives_any (w : World) : Calls Try.prog 16 #[] w fun e w' => e = .returned (.bool true) ∧ Below w.heap.size w w' := by
  have HA : Hid (Bs (w.alloc (.cells #[.int .u8 97, .int .u8 98] 5 (2, 3))) 0 (some ⟨w.heap.size, 0, none⟩) 2 2 [97, 98]) := bs_const 5 [97, 98] (2, 3) rfl (by omega)
  have kc := Lib.run_convert_bytes_const (P := Try.prog) w 22 5 #[.int .u8 97, .int .u8 98] 2 2 Try.underlying22 Try.underlying5
  go_enter Try.func16, Try.ntmps16
  go_upto_region 2 with (go_at_call 13; refine (put_ok 258 3 HA.out (by omega) (by omega) (by omega) (by omega)).mono ?_; rintro e w1 ⟨rfl, hs, hb1⟩)
  have hsz : (w.alloc (Obj.cells #[Value.int IntKind.u8 97, Value.int IntKind.u8 98] 5 (2, 3))).heap.size = w.heap.size + 1 := by simp
  rw [hsz] at hs hb1
  have B1 := Lib.hid (hs.bs0 0 256 256 (Nat.zero_le _) (by omega) (by omega) (length_blkSector 258 3 [97, 98] (by simp)))
  have hb2 : Below w.heap.size w w1 := ((Below.refl _ _).alloc (Nat.le_refl _) _).trans (hb1.mono (by omega))
  clear hb1 hs kc HA
  go_upto_region 3 with (go_at_call 17; refine (get_own 258 3 B1.out (by omega) (by omega) (by omega) (by simp)).mono ?_; rintro e w3 ⟨A3, c3, rfl, ho3, hb3⟩)
  refine wp_world (fun V => Below w.heap.size w V ∧ Below w1.heap.size w1 V ∧ ∃ g, Blk V g 24 [.int .i64 3, .slice A3 2 c3] ∧ g = w3.heap.size ∧ Own V w1.heap.size 5 1 A3 2 c3 (bvs [97, 98])) ?_ ?_
  · have h3 : Below w.heap.size w w3 := hb2.trans (hb3.mono hb2.size)
    exact ⟨h3.alloc h3.size _, hb3.alloc hb3.size _, _, Blk.new_at (cs := [.int .i64 3, .slice A3 2 c3]) rfl, rfl, ho3.alloc _⟩
  rintro V ⟨hb4, hb5, g, hg, rfl, ho4⟩
  go_upto_region 4 with (go_at_call 17; refine (get_other 259 258 3 (B1.out.below hb5 (Nat.le_refl _)) (by omega) (by omega) (by omega) (by simp) (by omega)).mono ?_; rintro e w6 ⟨rfl, hb6⟩)
  refine wp_world (fun U => Below w.heap.size w U ∧ Bs U 0 (some ⟨w.heap.size + 1 + 1, 0, none⟩) 256 256 (blkSector 258 3 [97, 98]) ∧ Blk U w3.heap.size 24 [.int .i64 3, .slice A3 2 c3] ∧ Bs U w1.heap.size A3 2 c3 [97, 98]) ?_ ?_
  · have h3 : Below w.heap.size w w6 := hb4.trans (hb6.mono hb4.size)
    exact ⟨h3.alloc h3.size _, (((B1.out.below hb5 (Nat.le_refl _)).below hb6 (Nat.le_refl _)).below (B := w6.heap.size) ((Below.refl _ _).alloc (Nat.le_refl _) _) (Nat.le_refl _)), (hg.below hb6 hg.lt).alloc _, own_bs ((ho4.below hb6 (Nat.le_refl _)).alloc _)⟩
  rintro U ⟨hU, hB, hG, hO⟩
  have c0 := hB.cell 0 (by omega)
  have c1 := hB.cell 1 (by omega)
  have c2 := hB.cell 2 (by omega)
  have c4 := hB.cell 3 (by omega)
  have c8 := hB.cell 8 (by omega)
  rw [show (blkSector 258 3 [97, 98]).getD 0 0 = 3 from rfl] at c0
  rw [show (blkSector 258 3 [97, 98]).getD 1 0 = 2 from rfl] at c1
  rw [show (blkSector 258 3 [97, 98]).getD 2 0 = 2 from rfl] at c2
  rw [show (blkSector 258 3 [97, 98]).getD 3 0 = 1 from rfl] at c4
  rw [show (blkSector 258 3 [97, 98]).getD 8 0 = 97 from rfl] at c8
  have hGc := hG.cells
  have hcv := conv_bs 22 5 9 Try.underlying22 Try.underlying5 Try.underlying9 hO
  clear hB hG hO hg ho4 ho3 hb3 hb4 hb5 hb6 B1
  go_wp2
  go_ret
  exact ⟨rfl, hU⟩
end Go.Proofs.Ytcicchijibhigaa
