/- The walks of the laws BlockApart and BlockOwns. -/
import Derived.Test.YtcicchijibhigaaLives
namespace Go.Proofs.Ytcicchijibhigaa
open Go.RowKit

theorem may_no {n kd : Int} {m : Nat} (h : ¬ blkMay n kd m) : n < 0 ∨ 65535 < n ∨ kd < 1 ∨ 4 < kd ∨ 240 < m := by unfold blkMay at h; omega

set_option maxRecDepth 100000 in
set_option maxHeartbeats 2000000 in
theorem apart_no1 (n1 n2 k1 k2 : Int) {A1 A2 : Option Addr} {m1 c1 m2 c2 : Nat} {w : World} (h1 : ¬ blkMay n1 k1 m1) (h2 : ¬ blkMay n2 k2 m2) :
    Calls Try.prog 8 #[.agg #[.int .i64 k1, .slice A1 m1 c1], .agg #[.int .i64 k2, .slice A2 m2 c2], .int .i64 n1, .int .i64 n2] w fun e w' => e = .returned (.bool true) ∧ Below w.heap.size w w' := by
  have H1 := Lib.hid (may_no h1)
  have H2 := Lib.hid (may_no h2)
  clear h1 h2
  go_enter Try.func8, Try.ntmps8
  go_upto_region 1 with fail
  refine wp_world (fun V => Below w.heap.size w V ∧ Blk V w.heap.size 24 [.int .i64 k1, .slice A1 m1 c1] ∧ Blk V (w.heap.size + 1) 24 [.int .i64 k2, .slice A2 m2 c2]) ⟨((Below.refl _ _).alloc (Nat.le_refl _) _).alloc (by simp) _, (Blk.new _ _ [.int .i64 k1, .slice A1 m1 c1]).alloc _, Blk.new_at (cs := [.int .i64 k2, .slice A2 m2 c2]) (by simp)⟩ ?_
  rintro V ⟨b1, D1, E1⟩
  have D1c := D1.cells
  go_upto_region 2 with (go_at_call 13; refine (put_no _ _ H1.out).mono ?_; rintro e w1 ⟨rfl, hb1⟩)
  have E2 := E1.below hb1 E1.lt
  have b2 := b1.trans (hb1.mono b1.size)
  have E2c := E2.cells
  clear D1c D1 E1 b1 hb1
  go_upto_region 3 with (go_at_call 13; refine (put_no _ _ H2.out).mono ?_; rintro e w2 ⟨rfl, hb2⟩)
  have b3 := b2.trans (hb2.mono b2.size)
  clear E2c E2 b2 hb2
  go_wp2_with (go_at_call 16; refine (lives_any _).mono ?_; rintro e w4 ⟨rfl, hb4⟩)
  go_ret
  exact ⟨rfl, b3.trans (hb4.mono b3.size)⟩

set_option maxRecDepth 100000 in
set_option maxHeartbeats 2000000 in
theorem apart_no2 (n1 k1 : Int) (n2 k2 : Nat) {A1 A2 : Option Addr} {m1 c1 m2 c2 lo : Nat} {l2 : List UInt8} {w : World} (h1 : ¬ blkMay n1 k1 m1) (hb2 : Bs w lo A2 m2 c2 l2) (h2 : blkMay n2 k2 m2) :
    Calls Try.prog 8 #[.agg #[.int .i64 k1, .slice A1 m1 c1], .agg #[.int .i64 k2, .slice A2 m2 c2], .int .i64 n1, .int .i64 n2] w fun e w' => e = .returned (.bool true) ∧ Below w.heap.size w w' := by
  have H1 := Lib.hid (may_no h1)
  have H2 := Lib.hid h2
  have Q2 := Lib.hid hb2
  clear h1 h2 hb2
  go_enter Try.func8, Try.ntmps8
  go_upto_region 1 with fail
  refine wp_world (fun V => Below w.heap.size w V ∧ Blk V w.heap.size 24 [.int .i64 k1, .slice A1 m1 c1] ∧ Blk V (w.heap.size + 1) 24 [.int .i64 k2, .slice A2 m2 c2]) ⟨((Below.refl _ _).alloc (Nat.le_refl _) _).alloc (by simp) _, (Blk.new _ _ [.int .i64 k1, .slice A1 m1 c1]).alloc _, Blk.new_at (cs := [.int .i64 k2, .slice A2 m2 c2]) (by simp)⟩ ?_
  rintro V ⟨b1, D1, E1⟩
  have D1c := D1.cells
  go_upto_region 2 with (go_at_call 13; refine (put_no _ _ H1.out).mono ?_; rintro e w1 ⟨rfl, hb1⟩)
  have E2 := E1.below hb1 E1.lt
  have b2 := b1.trans (hb1.mono b1.size)
  have E2c := E2.cells
  clear D1c D1 E1 b1 hb1
  obtain ⟨-, hn, hk1, hk2, hm5⟩ := H2.out
  go_upto_region 3 with (go_at_call 13; refine (put_ok n2 k2 (Q2.out.below b2 (Nat.le_refl _)) (by omega) (by omega) (by omega) (by omega)).mono ?_; rintro e w2 ⟨rfl, -, hb2⟩)
  have b3 := b2.trans (hb2.mono b2.size)
  clear E2c E2 b2 hb2
  go_wp2_with (go_at_call 16; refine (lives_any _).mono ?_; rintro e w4 ⟨rfl, hb4⟩)
  go_ret
  exact ⟨rfl, b3.trans (hb4.mono b3.size)⟩

set_option maxRecDepth 100000 in
set_option maxHeartbeats 2000000 in
theorem apart_no3 (n1 k1 : Nat) (n2 k2 : Int) {A1 A2 : Option Addr} {m1 c1 m2 c2 lo : Nat} {l1 : List UInt8} {w : World} (hb1 : Bs w lo A1 m1 c1 l1) (h1 : blkMay n1 k1 m1) (h2 : ¬ blkMay n2 k2 m2) :
    Calls Try.prog 8 #[.agg #[.int .i64 k1, .slice A1 m1 c1], .agg #[.int .i64 k2, .slice A2 m2 c2], .int .i64 n1, .int .i64 n2] w fun e w' => e = .returned (.bool true) ∧ Below w.heap.size w w' := by
  have H1 := Lib.hid h1
  have H2 := Lib.hid (may_no h2)
  have Q1 := Lib.hid hb1
  clear h1 h2 hb1
  go_enter Try.func8, Try.ntmps8
  go_upto_region 1 with fail
  refine wp_world (fun V => Below w.heap.size w V ∧ Blk V w.heap.size 24 [.int .i64 k1, .slice A1 m1 c1] ∧ Blk V (w.heap.size + 1) 24 [.int .i64 k2, .slice A2 m2 c2]) ⟨((Below.refl _ _).alloc (Nat.le_refl _) _).alloc (by simp) _, (Blk.new _ _ [.int .i64 k1, .slice A1 m1 c1]).alloc _, Blk.new_at (cs := [.int .i64 k2, .slice A2 m2 c2]) (by simp)⟩ ?_
  rintro V ⟨b1, D1, E1⟩
  have D1c := D1.cells
  obtain ⟨-, hn, hk1, hk2, hm5⟩ := H1.out
  go_upto_region 2 with (go_at_call 13; refine (put_ok n1 k1 (Q1.out.below b1 (Nat.le_refl _)) (by omega) (by omega) (by omega) (by omega)).mono ?_; rintro e w1 ⟨rfl, -, hb1⟩)
  have E2 := E1.below hb1 E1.lt
  have b2 := b1.trans (hb1.mono b1.size)
  have E2c := E2.cells
  clear D1c D1 E1 b1 hb1
  go_upto_region 3 with (go_at_call 13; refine (put_no _ _ H2.out).mono ?_; rintro e w2 ⟨rfl, hb2⟩)
  have b3 := b2.trans (hb2.mono b2.size)
  clear E2c E2 b2 hb2
  go_wp2_with (go_at_call 16; refine (lives_any _).mono ?_; rintro e w4 ⟨rfl, hb4⟩)
  go_ret
  exact ⟨rfl, b3.trans (hb4.mono b3.size)⟩

set_option maxRecDepth 100000 in
set_option maxHeartbeats 4000000 in
theorem apart_yes (n1 k1 n2 k2 : Nat) {A1 A2 : Option Addr} {m1 c1 m2 c2 lo1 lo2 : Nat} {l1 l2 : List UInt8} {w : World} (hb1 : Bs w lo1 A1 m1 c1 l1) (h1 : blkMay n1 k1 m1) (hb2 : Bs w lo2 A2 m2 c2 l2) (h2 : blkMay n2 k2 m2)
    (tS tL : Bool) (hS : decide (blkSector n1 k1 l1 = blkSector n2 k2 l2) = tS) (hL : decide ((k1 : Int) = k2 ∧ l1 = l2) = tL) (hT : tL = true → ((n1 : Int) == n2) = tS) (hF : tL = false → tS = false) :
    Calls Try.prog 8 #[.agg #[.int .i64 k1, .slice A1 m1 c1], .agg #[.int .i64 k2, .slice A2 m2 c2], .int .i64 n1, .int .i64 n2] w fun e w' => e = .returned (.bool true) ∧ Below w.heap.size w w' := by
  have Q1 := Lib.hid hb1
  have Q2 := Lib.hid hb2
  have HS := Lib.hid hS
  have HL := Lib.hid hL
  have HT := Lib.hid hT
  have HF := Lib.hid hF
  obtain ⟨-, hn1, hk1, hk1', hm1⟩ := h1
  obtain ⟨-, hn2, hk2, hk2', hm2⟩ := h2
  have e1 := Lib.hid (length_blkSector n1 k1 l1 (by have := hb1.1; omega))
  have e2 := Lib.hid (length_blkSector n2 k2 l2 (by have := hb2.1; omega))
  clear hb1 hb2 hS hL hT hF
  go_enter Try.func8, Try.ntmps8
  go_upto_region 1 with fail
  refine wp_world (fun V => Below w.heap.size w V ∧ Blk V w.heap.size 24 [.int .i64 k1, .slice A1 m1 c1] ∧ Blk V (w.heap.size + 1) 24 [.int .i64 k2, .slice A2 m2 c2]) ⟨((Below.refl _ _).alloc (Nat.le_refl _) _).alloc (by simp) _, (Blk.new _ _ [.int .i64 k1, .slice A1 m1 c1]).alloc _, Blk.new_at (cs := [.int .i64 k2, .slice A2 m2 c2]) (by simp)⟩ ?_
  rintro V ⟨b1, D1, E1⟩
  have D1c := D1.cells
  go_upto_region 2 with (go_at_call 13; refine (put_ok n1 k1 (Q1.out.below b1 (Nat.le_refl _)) (by omega) (by omega) (by omega) (by omega)).mono ?_; rintro e w1 ⟨rfl, hs1, hb1⟩)
  have S1 := Lib.hid (hs1.bs0 0 256 256 (Nat.zero_le _) (by omega) (by omega) e1.out)
  have D2 := D1.below hb1 D1.lt
  have E2 := E1.below hb1 E1.lt
  have b2 := b1.trans (hb1.mono b1.size)
  have E2c := E2.cells
  clear D1c D1 E1 b1 hb1 hs1
  go_upto_region 3 with (go_at_call 13; refine (put_ok n2 k2 (Q2.out.below b2 (Nat.le_refl _)) (by omega) (by omega) (by omega) (by omega)).mono ?_; rintro e w2 ⟨rfl, hs2, hb2⟩)
  have S2 := Lib.hid (hs2.bs0 0 256 256 (Nat.zero_le _) (by omega) (by omega) e2.out)
  have S1' := Lib.hid (S1.out.below hb2 (Nat.le_refl _))
  have D3 := D2.below hb2 D2.lt
  have E3 := E2.below hb2 E2.lt
  have b3 := b2.trans (hb2.mono b2.size)
  clear E2c D2 E2 b2 hb2 hs2 S1
  go_upto_region 6 with (go_at_call 15; refine (same_any S1'.out S2.out).mono ?_; rw [HS.out]; rintro e w4 ⟨rfl, q4, rfl⟩)
  have b4 := below_drewN b3 q4
  have D4c := (D3.drewN q4).cells
  have E4c := (E3.drewN q4).cells
  clear D3 E3 b3 S1' S2
  go_upto_region 7 with (go_at_call 18; refine (bsame_any _ _ (Q1.out.below b4 (Nat.le_refl _)) (Q2.out.below b4 (Nat.le_refl _))).mono ?_; rw [HL.out]; rintro e w5 ⟨rfl, hb5⟩)
  have b5 := b4.trans (hb5.mono b4.size)
  clear b4 hb5 D4c E4c Q1 Q2 HL HS
  cases tL with
  | true =>
    have ht := HT.out rfl
    have ht2 : (tS == tS) = true := by simp
    go_wp2_with (go_at_call 16; refine (lives_any _).mono ?_; rintro e w6 ⟨rfl, hb6⟩)
    go_ret
    exact ⟨rfl, b5.trans (hb6.mono b5.size)⟩
  | false =>
    obtain rfl := HF.out rfl
    go_wp2_with (go_at_call 16; refine (lives_any _).mono ?_; rintro e w6 ⟨rfl, hb6⟩)
    go_ret
    exact ⟨rfl, b5.trans (hb6.mono b5.size)⟩

theorem apart_law {n1 k1 n2 k2 : Int} {A1 A2 : Option Addr} {m1 c1 m2 c2 lo1 lo2 : Nat} {l1 l2 : List UInt8} {w : World} (hb1 : Bs w lo1 A1 m1 c1 l1) (hb2 : Bs w lo2 A2 m2 c2 l2) :
    Calls Try.prog 8 #[.agg #[.int .i64 k1, .slice A1 m1 c1], .agg #[.int .i64 k2, .slice A2 m2 c2], .int .i64 n1, .int .i64 n2] w fun e w' => e = .returned (.bool true) ∧ Below w.heap.size w w' := by
  by_cases h1 : blkMay n1 k1 m1
  · obtain ⟨a1, rfl⟩ := Int.eq_ofNat_of_zero_le h1.1
    obtain ⟨d1, rfl⟩ := Int.eq_ofNat_of_zero_le (show 0 ≤ k1 by have := h1.2.2.1; omega)
    by_cases h2 : blkMay n2 k2 m2
    · obtain ⟨a2, rfl⟩ := Int.eq_ofNat_of_zero_le h2.1
      obtain ⟨d2, rfl⟩ := Int.eq_ofNat_of_zero_le (show 0 ≤ k2 by have := h2.2.2.1; omega)
      have g1 := h1
      have g2 := h2
      unfold blkMay at g1 g2
      have z1 := hb1.1
      have z2 := hb2.1
      refine apart_yes a1 d1 a2 d2 hb1 h1 hb2 h2 _ _ rfl rfl (fun h => ?_) (fun h => ?_)
      · obtain ⟨hk, rfl⟩ := of_decide_eq_true h
        obtain rfl : d1 = d2 := by omega
        rw [Bool.eq_iff_iff, beq_iff_eq, decide_eq_true_eq]
        constructor
        · intro h; obtain rfl : a1 = a2 := by omega
          rfl
        · intro h
          have := (blkSector_inj (by omega) (by omega) (by omega) (by omega) (by omega) (by omega) h).1
          omega
      · have h := of_decide_eq_false h
        refine decide_eq_false fun he => h ?_
        obtain ⟨_, rfl, rfl⟩ := blkSector_inj (by omega) (by omega) (by omega) (by omega) (by omega) (by omega) he
        exact ⟨rfl, rfl⟩
    · exact apart_no3 a1 d1 n2 k2 hb1 h1 h2
  · by_cases h2 : blkMay n2 k2 m2
    · obtain ⟨a2, rfl⟩ := Int.eq_ofNat_of_zero_le h2.1
      obtain ⟨d2, rfl⟩ := Int.eq_ofNat_of_zero_le (show 0 ≤ k2 by have := h2.2.2.1; omega)
      exact apart_no2 n1 k1 a2 d2 h1 hb2 h2
    · exact apart_no1 n1 n2 k1 k2 h1 h2
end Go.Proofs.Ytcicchijibhigaa
