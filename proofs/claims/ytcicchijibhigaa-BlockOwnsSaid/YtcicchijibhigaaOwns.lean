/- The walk of the law BlockOwns. -/
import Derived.Test.YtcicchijibhigaaApart
namespace Go.Proofs.Ytcicchijibhigaa
open Go.RowKit

set_option maxRecDepth 100000 in
set_option maxHeartbeats 2000000 in
theorem owns_no (n kd : Int) {A : Option Addr} {m c lo : Nat} {l : List UInt8} {w : World} (hb : Bs w lo A m c l) (hm : m ≤ 140737488351232) (h : ¬ blkMay n kd m) :
    Calls Try.prog 7 #[.int .i64 n, .agg #[.int .i64 kd, .slice A m c]] w fun e w' => e = .returned (.bool true) ∧ Below w.heap.size w w' := by
  have H := Lib.hid (may_no h)
  have hl := Lib.hid hb.1
  have hr := Lib.hid (hb.2.2.2.below (B := w.heap.size) (w' := w.alloc (.cells #[.int .i64 kd, .slice A m c] 24)) ((Below.refl _ _).alloc (Nat.le_refl _) _) (Nat.le_refl _))
  clear hb h
  go_enter Try.func7, Try.ntmps7
  go_upto_region 3 with (at_builtin; refine wpList_app rfl (.tmp 13) (.tmp 15) 22 rfl 5 1 Try.underlying22 info5 rfl (by omega) rfl (Own.nil_ _ w.heap.size _ _) rfl hr.out (by simpa using hl.out) (bvs_oneCell _) (by omega) (by omega) (by simp) ?_; intro A1 c1 w1 ho1 hg1 _)
  have D1 := (Blk.new w 24 [.int .i64 kd, .slice A m c]).grown hg1 (by simp)
  have b1 : Below w.heap.size w w1 := below_own ((Below.refl _ _).alloc (Nat.le_refl _) _) (Own.nil_ _ w.heap.size 5 1) hg1 (Nat.le_refl _) (by simp)
  rw [Nat.zero_add, List.nil_append] at ho1
  have D1c := D1.cells
  clear hg1 hr
  go_upto_region 4 with (go_at_call 13; refine (put_no _ _ H.out).mono ?_; rintro e w2 ⟨rfl, hb2⟩)
  have b2 := b1.trans (hb2.mono b1.size)
  clear D1c D1 ho1 b1 hb2
  go_wp2_with (go_at_call 16; refine (lives_any _).mono ?_; rintro e w4 ⟨rfl, hb4⟩)
  go_ret
  exact ⟨rfl, b2.trans (hb4.mono b2.size)⟩

set_option maxRecDepth 100000 in
set_option maxHeartbeats 4000000 in
theorem owns_yes (n kd : Nat) {A : Option Addr} {m c lo : Nat} {l : List UInt8} {w : World} (hb : Bs w lo A m c l) (h : blkMay n kd m) :
    Calls Try.prog 7 #[.int .i64 n, .agg #[.int .i64 kd, .slice A m c]] w fun e w' => e = .returned (.bool true) ∧ Below w.heap.size w w' := by
  obtain ⟨-, hn, hk1, hk2, hm⟩ := h
  have hl := Lib.hid hb.1
  have hl2 : l.length ≤ 240 := by have := hb.1; omega
  have Q := Lib.hid hb
  have hS := Lib.hid (length_blkSector n kd l (by omega))
  have hr := Lib.hid (hb.2.2.2.below (B := w.heap.size) (w' := w.alloc (.cells #[.int .i64 kd, .slice A m c] 24)) ((Below.refl _ _).alloc (Nat.le_refl _) _) (Nat.le_refl _))
  clear hb
  go_enter Try.func7, Try.ntmps7
  go_upto_region 3 with (at_builtin; refine wpList_app rfl (.tmp 13) (.tmp 15) 22 rfl 5 1 Try.underlying22 info5 rfl (by omega) rfl (Own.nil_ _ w.heap.size _ _) rfl hr.out (by simpa using hl.out) (bvs_oneCell _) (by omega) (by omega) (by simp) ?_; intro A1 c1 w1 ho1 hg1 _)
  have D1 := (Blk.new w 24 [.int .i64 kd, .slice A m c]).grown hg1 (by simp)
  have b1 : Below w.heap.size w w1 := below_own ((Below.refl _ _).alloc (Nat.le_refl _) _) (Own.nil_ _ w.heap.size 5 1) hg1 (Nat.le_refl _) (by simp)
  rw [Nat.zero_add, List.nil_append] at ho1
  have D1c := D1.cells
  have T1 := Lib.hid (own_bs ho1)
  clear hg1 hr ho1
  go_upto_region 4 with (go_at_call 13; refine (put_ok n kd T1.out (by omega) (by omega) (by omega) (by omega)).mono ?_; rintro e w2 ⟨rfl, hs, hb2⟩)
  have S2 := Lib.hid (hs.bs0 0 256 256 (Nat.zero_le _) (by omega) (by omega) hS.out)
  have HB := Lib.hid hs
  clear hs D1c
  go_upto_region 7 with (go_at_call 17; refine (get_own n kd S2.out (by omega) (by omega) (by omega) hl2).mono ?_; rw [hl.out]; rintro e w3 ⟨A3, c3, rfl, ho3, hb3⟩)
  have hz2 : w1.heap.size + 1 < w2.heap.size := HB.out.lt
  have hz3 : w2.heap.size ≤ w3.heap.size := hb3.size
  refine wp_world (fun V => Below w1.heap.size w1 V ∧ Own V (w1.heap.size + 1 + 1) 5 1 A3 m c3 (bvs l) ∧ Blk V (w1.heap.size + 1) 44 (bvs (blkSector n kd l)) ∧ Blk V w3.heap.size 24 [.int .i64 kd, .slice A3 m c3])
    ⟨(hb2.trans (hb3.mono hb2.size)).alloc (by omega) _, (ho3.alloc _).weak (by omega), (HB.out.below hb3 HB.out.lt).alloc _, Blk.new_at (cs := [.int .i64 kd, .slice A3 m c3]) rfl⟩ ?_
  rintro V ⟨b4, O4, G4, E4⟩
  have hw : w1.heap.size + 1 < w3.heap.size := by omega
  clear hb2 hb3 HB S2 ho3 hz2 hz3
  have hS2 := hS.out
  generalize blkSector n kd l = S at *
  go_wp2
  go_loopw [10] (fun s10 wr => ∃ i : Nat, i ≤ 256 ∧ s10 = .int .i64 i ∧ Below w1.heap.size w1 wr ∧ Own wr (w1.heap.size + 1 + 1) 5 1 A3 m c3 (bvs l) ∧ (∃ cs, cs.length = 256 ∧ Blk wr (w1.heap.size + 1) 44 cs) ∧ Blk wr w3.heap.size 24 [.int .i64 kd, .slice A3 m c3])
    (fun i _ => 256 - (intOf i).toNat)
  case atStart => exact ⟨0, by omega, rfl, b4, O4, ⟨_, by simpa using hS2, G4⟩, E4⟩
  case round =>
    obtain ⟨i, hi, rfl, b5, O5, ⟨cs, hcs, G5⟩, E5⟩ := hrel
    clear b4 O4 G4 E4 hS2
    have hlen := Lib.hid hcs
    by_cases hlt : i < 256
    · obtain ⟨y, gc⟩ : ∃ y, wr.cell? ⟨w1.heap.size + 1, i, none⟩ = some y := ⟨cs[i], by rw [G5.cell]; simp [hcs, hlt]⟩
      have gf := G5.frozen i
      clear hcs
      go_wp2
      go_roundw
      case rel => exact ⟨i + 1, by omega, by go_num, b5.setCell (by simp) _, O5.far (by simp) _, ⟨_, by rw [List.length_set]; exact hlen.out, G5.set_ i _⟩, E5.far (by simp; omega) _⟩
      case measure => simp [intOf]; omega
    · have D5 := D1.below b5 D1.lt
      have D5c := D5.cells
      have E5c := E5.cells
      have b6 := b1.trans (b5.mono b1.size)
      have T5 := Lib.hid (T1.out.below b5 (Nat.le_refl _))
      have U5 := Lib.hid (own_bs O5)
      have Q5 := Lib.hid (Q.out.below b6 (Nat.le_refl _))
      clear hcs G5 O5 hlen
      go_upto_region 12 with (go_at_call 15; refine (same_any T5.out Q5.out).mono ?_; rw [decide_eq_true rfl]; rintro e w4 ⟨rfl, q4, rfl⟩)
      go_upto_region 13 with (go_at_call 15; refine (same_any (U5.out.drewN q4) (Q5.out.drewN q4)).mono ?_; rw [decide_eq_true rfl]; rintro e w7 ⟨rfl, q7, rfl⟩)
      have b7 := below_drewN b6 (q4 + q7)
      clear D5 D5c E5c E5 T5 U5 Q5 b6 b5
      go_wp2_with (go_at_call 16; refine (lives_any _).mono ?_; rintro e w8 ⟨rfl, hb8⟩)
      go_ret
      exact ⟨rfl, b7.trans (hb8.mono b7.size)⟩
end Go.Proofs.Ytcicchijibhigaa
