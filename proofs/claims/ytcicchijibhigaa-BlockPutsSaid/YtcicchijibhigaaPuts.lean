/- The walk of the law BlockPuts. -/
import Derived.Test.YtcicchijibhigaaLives
namespace Go.Proofs.Ytcicchijibhigaa
open Go.RowKit

set_option maxRecDepth 100000 in
set_option maxHeartbeats 2000000 in
theorem puts_no (n kd ot : Int) {A : Option Addr} {m c : Nat} {w : World} (hm : ¬ blkMay n kd m) :
    Calls Try.prog 3 #[.int .i64 n, .agg #[.int .i64 kd, .slice A m c], .int .i64 ot] w fun e w' => e = .returned (.bool true) ∧ Below w.heap.size w w' := by
  have hm' : n < 0 ∨ 65535 < n ∨ kd < 1 ∨ 4 < kd ∨ 240 < m := by unfold blkMay at hm; omega
  have HM := Lib.hid hm'
  clear hm hm'
  go_enter Try.func3, Try.ntmps3
  go_upto_region 2 with (go_at_call 13; refine (put_no _ _ HM.out).mono ?_; rintro e w1 ⟨rfl, hb1⟩)
  have D1 := (Blk.new w 24 [.int .i64 kd, .slice A m c]).below hb1 (by simp)
  have b1 : Below w.heap.size w w1 := ((Below.refl _ _).alloc (Nat.le_refl _) _).trans (hb1.mono (by simp))
  have D1c := D1.cells
  clear hb1
  go_upto_region 3 with (go_at_call 14; refine (rput_no _ _ HM.out).mono ?_; rintro e w2 ⟨rfl, hb2⟩)
  have b2 := b1.trans (hb2.mono b1.size)
  clear hb2 b1 D1c D1
  go_upto_region 4 with (go_at_call 15; refine (same_any (Bs.nil_ w2 0) (Bs.nil_ w2 0)).mono ?_; rintro e w3 ⟨rfl, q3, rfl⟩)
  have b3 := below_drewN b2 q3
  clear b2
  go_wp2_with (go_at_call 16; refine (lives_any _).mono ?_; rintro e w4 ⟨rfl, hb4⟩)
  go_ret
  exact ⟨rfl, b3.trans (hb4.mono b3.size)⟩

set_option maxRecDepth 100000 in
set_option maxHeartbeats 4000000 in
theorem puts_yes (n kd : Nat) (ot : Int) {A : Option Addr} {m c lo : Nat} {l : List UInt8} {w : World} (hb : Bs w lo A m c l) (hm : blkMay n kd m) :
    Calls Try.prog 3 #[.int .i64 n, .agg #[.int .i64 kd, .slice A m c], .int .i64 ot] w fun e w' => e = .returned (.bool true) ∧ Below w.heap.size w w' := by
  obtain ⟨-, hn, hk1, hk2, hm5⟩ := hm
  have hl : l.length ≤ 240 := by have := hb.1; omega
  have hlS := Lib.hid (length_blkSector n kd l (by omega))
  have HL := Lib.hid hb.1
  have Q := Lib.hid hb
  clear hb
  go_enter Try.func3, Try.ntmps3
  go_upto_region 2 with (go_at_call 13; refine (put_ok n kd (Q.out.below (B := w.heap.size) ((Below.refl _ _).alloc (Nat.le_refl _) _) (Nat.le_refl _)) (by omega) (by omega) (by omega) (by omega)).mono ?_; rintro e w1 ⟨rfl, hs, hb1⟩)
  have hsz : (w.alloc (Obj.cells #[Value.int IntKind.i64 ↑kd, Value.slice A m c] 24)).heap.size = w.heap.size + 1 := by simp
  have D1 := (Blk.new w 24 [.int .i64 kd, .slice A m c]).below hb1 (by simp)
  have b1 : Below w.heap.size w w1 := ((Below.refl _ _).alloc (Nat.le_refl _) _).trans (hb1.mono (by simp))
  have S1 := Lib.hid (hs.bs0 0 256 256 (Nat.zero_le _) (by omega) (by omega) hlS.out)
  rw [hsz] at S1
  have D1c := D1.cells
  clear hs hb1 hsz
  go_upto_region 3 with (go_at_call 14; refine (rput_ok n kd (Q.out.below b1 (Nat.le_refl _)) (by omega) (by omega) (by omega) (by omega)).mono ?_; rintro e w2 ⟨A2, c2, rfl, ho2, hb2⟩)
  have D2 := D1.below hb2 D1.lt
  have b2 := b1.trans (hb2.mono b1.size)
  have S2 := Lib.hid (S1.out.below hb2 (Nat.le_refl _))
  have T2 := Lib.hid (own_bs ho2)
  clear ho2 hb2 D1c D1 S1 b1
  go_upto_region 4 with (go_at_call 15; refine (same_any S2.out T2.out).mono ?_; rw [decide_eq_true rfl]; rintro e w3 ⟨rfl, q3, rfl⟩)
  have D3 := D2.drewN q3
  have b3 := below_drewN b2 q3
  have S3 := Lib.hid (S2.out.drewN q3)
  clear S2 T2 D2 b2
  go_upto_region 8 with fail
  go_upto_region 9 with (go_at_call 17; refine (get_own n kd S3.out (by omega) (by omega) (by omega) hl).mono ?_; rw [HL.out]; rintro e w4 ⟨A4, c4, rfl, ho4, hb4⟩)
  have b4 : Below w.heap.size w w4 := b3.trans (hb4.mono b3.size)
  have D4 := D3.below hb4 D3.lt
  have S4 := Lib.hid (S3.out.below hb4 (Nat.le_refl _))
  refine wp_world (fun V => Below w.heap.size w V ∧ Blk V w.heap.size 24 [.int .i64 kd, .slice A m c] ∧ Bs V 0 (some ⟨w.heap.size + 1 + 1, 0, none⟩) 256 256 (blkSector n kd l) ∧ Blk V w4.heap.size 24 [.int .i64 kd, .slice A4 m c4] ∧ Bs V w.heap.size A4 m c4 l) ⟨b4.alloc b4.size _, D4.alloc _, S4.out.below (B := w4.heap.size) ((Below.refl _ _).alloc (Nat.le_refl _) _) (Nat.le_refl _), Blk.new_at (cs := [.int .i64 kd, .slice A4 m c4]) rfl, (own_bs (ho4.alloc _)).weak b3.size⟩ ?_
  clear b4 D4 S4 D3 b3 S3 ho4 hb4
  rintro V ⟨b5, D5, S5, G5, T5⟩
  have D5c := D5.cells
  have G5c := G5.cells
  go_upto_region 10 with (go_at_call 18; refine (bsame_any _ _ T5 (Q.out.below b5 (Nat.le_refl _))).mono ?_; rw [decide_eq_true ⟨rfl, rfl⟩]; rintro e w6 ⟨rfl, hb6⟩)
  have b6 := b5.trans (hb6.mono b5.size)
  have S6 := Lib.hid (S5.below hb6 (Nat.le_refl _))
  clear D5c G5c D5 G5 S5 b5 hb6 T5
  by_cases ho : ot = n
  · subst ho
    go_upto_region 13 with (go_at_call 17; refine (get_own n kd S6.out (by omega) (by omega) (by omega) hl).mono ?_; rw [HL.out]; rintro e w7 ⟨A7, c7, rfl, ho7, hb7⟩)
    have b7 := b6.trans (hb7.mono b6.size)
    refine wp_world (fun V => Below w.heap.size w V) (b7.alloc b7.size _) ?_
    clear b7 hb7 ho7 b6 S6
    rintro U b7
    go_wp2_with (go_at_call 16; refine (lives_any _).mono ?_; rintro e w8 ⟨rfl, hb8⟩)
    go_ret
    exact ⟨rfl, b7.trans (hb8.mono b7.size)⟩
  · have ho' : (ot == (n : Int)) = false := by simpa using ho
    go_upto_region 13 with (go_at_call 17; refine (get_other ot n kd S6.out (by omega) (by omega) (by omega) hl ho).mono ?_; rintro e w7 ⟨rfl, hb7⟩)
    have b7 := b6.trans (hb7.mono b6.size)
    refine wp_world (fun V => Below w.heap.size w V) (b7.alloc b7.size _) ?_
    clear b7 hb7 b6 S6 ho
    rintro U b7
    go_wp2_with (go_at_call 16; refine (lives_any _).mono ?_; rintro e w8 ⟨rfl, hb8⟩)
    go_ret
    exact ⟨rfl, b7.trans (hb8.mono b7.size)⟩
end Go.Proofs.Ytcicchijibhigaa
