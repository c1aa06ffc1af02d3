/- The walk of the law BlockTells. -/
import Derived.Test.YtcicchijibhigaaApart
import Derived.Test.YtcicchijibhigaaPlainD
namespace Go.Proofs.Ytcicchijibhigaa
open Go.RowKit

set_option maxRecDepth 100000 in
set_option maxHeartbeats 2000000 in
theorem tells_no (n kd at_ mask : Int) {A : Option Addr} {m c : Nat} {w : World} (h : ¬ blkMay n kd m) :
    Calls Try.prog 6 #[.int .i64 n, .agg #[.int .i64 kd, .slice A m c], .int .i64 at_, .int .u32 mask] w fun e w' => e = .returned (.bool true) ∧ Below w.heap.size w w' := by
  have H := Lib.hid (may_no h)
  clear h
  go_enter Try.func6, Try.ntmps6
  go_upto_region 2 with (go_at_call 13; refine (put_no _ _ H.out).mono ?_; rintro e w2 ⟨rfl, hb2⟩)
  have b2 : Below w.heap.size w w2 := ((Below.refl _ _).alloc (Nat.le_refl _) _).trans (hb2.mono (by simp))
  clear hb2
  go_wp2_with (go_at_call 16; refine (lives_any _).mono ?_; rintro e w4 ⟨rfl, hb4⟩)
  go_ret
  exact ⟨rfl, b2.trans (hb4.mono b2.size)⟩

def chg (mask a n k : Nat) : Bool := decide (mbits mask a n k ≠ 0)
theorem chg_yes {mask a n k : Nat} (h : mask / 2 ^ k % 2 = 1 ∧ a + k < n) : chg mask a n (k + 1) = true := by
  have : 0 < 2 ^ k := Nat.pow_pos (by omega)
  unfold chg mbits
  rw [if_pos h]
  exact decide_eq_true (by omega)
theorem chg_no {mask a n k : Nat} (h : ¬ (mask / 2 ^ k % 2 = 1 ∧ a + k < n)) : chg mask a n (k + 1) = chg mask a n k := by
  unfold chg
  rw [mbits, if_neg h]
theorem flips_yes {mask a n k : Nat} (s : List UInt8) (h : mask / 2 ^ k % 2 = 1 ∧ a + k < n) : flips mask a n s (k + 1) = flip (flips mask a n s k) (a + k) := by
  rw [flips, if_pos h]
theorem flips_no {mask a n k : Nat} (s : List UInt8) (h : ¬ (mask / 2 ^ k % 2 = 1 ∧ a + k < n)) : flips mask a n s (k + 1) = flips mask a n s k := by
  rw [flips, if_neg h]
theorem flip_val (y : UInt8) (r : Nat) (h : r < 8) : Value.int .u8 (bits .xor .u8 (y.toNat : Int) (2 ^ r % 256)) = bv (UInt8.ofNat (y.toNat ^^^ 2 ^ r)) := by
  have hp : 2 ^ r < 256 := Nat.pow_lt_pow_right (by omega) (show r < 8 from h)
  have hlt : y.toNat ^^^ 2 ^ r < 256 := Nat.xor_lt_two_pow (n := 8) y.toNat_lt hp
  have := u8_xor y.toNat (2 ^ r) y.toNat_lt hp
  refine bv_of _ _ ?_
  rw [Nat.mod_eq_of_lt hlt, ← this]
  congr 1
  have e : ((2 : Int) ^ r) = ((2 ^ r : Nat) : Int) := by rw [Int.natCast_pow]; rfl
  rw [e]
  generalize 2 ^ r = q at *
  omega
theorem bvs_set (l : List UInt8) (j : Nat) (b : UInt8) : (bvs l).set j (bv b) = bvs (l.set j b) := by simp [bvs, List.map_set]
theorem mask_bit (mask k : Nat) (h : mask < 4294967296) : bits .and .u32 ((mask : Int) / 2 ^ k) 1 = ((mask / 2 ^ k % 2 : Nat) : Int) := by
  have h1 : mask / 2 ^ k < 4294967296 := Nat.lt_of_le_of_lt (Nat.div_le_self _ _) h
  have := u32_and (mask / 2 ^ k) 1 h1 (by omega)
  rw [Nat.and_one_is_mod] at this
  rw [← this]
  simp

set_option maxRecDepth 100000 in
set_option maxHeartbeats 4000000 in
theorem tells_yes (n kd : Nat) (at_ : Int) (mask : Nat) {A : Option Addr} {m c lo : Nat} {l : List UInt8} {w : World} (hb : Bs w lo A m c l) (h : blkMay n kd m) (hat : -9223372036854775808 ≤ at_) (hat2 : at_ ≤ 9223372036854775807) (hmk : mask < 4294967296) :
    Calls Try.prog 6 #[.int .i64 n, .agg #[.int .i64 kd, .slice A m c], .int .i64 at_, .int .u32 mask] w fun e w' => e = .returned (.bool true) ∧ Below w.heap.size w w' := by
  obtain ⟨-, hn, hk1, hk2, hm⟩ := h
  have hl2 : l.length ≤ 240 := by have := hb.1; omega
  have Q := Lib.hid (hb.below (B := w.heap.size) (w' := w.alloc (.cells #[.int .i64 kd, .slice A m c] 24)) ((Below.refl _ _).alloc (Nat.le_refl _) _) (Nat.le_refl _))
  have hS := Lib.hid (length_blkSector n kd l (by omega))
  have hv := Lib.hid (drop_sector n kd l (by omega))
  clear hb
  go_enter Try.func6, Try.ntmps6
  go_upto_region 2 with (go_at_call 13; refine (put_ok n kd Q.out (by omega) (by omega) (by omega) (by omega)).mono ?_; rintro e w2 ⟨rfl, hs, hb2⟩)
  have b2 : Below w.heap.size w w2 := ((Below.refl _ _).alloc (Nat.le_refl _) _).trans (hb2.mono (by simp))
  have hsz : (w.alloc (Obj.cells #[Value.int IntKind.i64 ↑kd, Value.slice A m c] 24)).heap.size = w.heap.size + 1 := by simp
  rw [hsz] at hs
  clear hb2 hsz
  have hS2 := hS.out
  have hG := Lib.hid hs
  generalize hSS : blkSector n kd l = S at *
  have HSS := Lib.hid hSS
  clear hs hSS
  by_cases h0 : at_ < 0
  all_goals
    go_upto_region 8 with fail
    go_cut [2] (fun s2 wx => (∃ a : Nat, a < 2048 ∧ s2 = .int .i64 a) ∧ wx = w2)
  · go_wp2
    go_meet
    refine ⟨⟨(-(at_ + 1)).toNat % 2048, by omega, ?_⟩, rfl⟩
    rw [← Int.neg_tmod, Int.tmod_eq_emod_of_nonneg (by omega)]
    congr 1
    omega
  rotate_left
  · go_wp2
    go_meet
    exact ⟨⟨at_.toNat % 2048, by omega, by congr 1; omega⟩, rfl⟩
  all_goals
    obtain ⟨⟨a, ha, rfl⟩, rfl⟩ := hcut
    clear h0
    go_wp2
    go_loopw [11, 12] (fun s11 s12 wr => ∃ k : Nat, k ≤ 32 ∧ s12 = .int .i64 k ∧ s11 = .bool (chg mask a 2048 k) ∧ Blk wr (w.heap.size + 1 + 1) 44 (bvs (flips mask a 2048 S k)) ∧ Below w.heap.size w wr)
      (fun _ s12 _ => 32 - (intOf s12).toNat)
    case atStart => exact ⟨0, by omega, rfl, rfl, hG.out, b2⟩
    case round =>
      obtain ⟨k, hk, rfl, rfl, hg, hbw⟩ := hrel
      by_cases hlt : k < 32
      · have hfl := length_flips mask a 2048 S k
        have hmb := mask_bit mask k hmk
        by_cases hbit : mask / 2 ^ k % 2 = 1
        · have hb1 : bits .and .u32 ((mask : Int) / 2 ^ k) 1 = 1 := by rw [hmb, hbit]; rfl
          clear hmb
          by_cases hi : a + k < 2048
          · have HY := Lib.hid (chg_yes ⟨hbit, hi⟩)
            have HF := Lib.hid (flips_yes S ⟨hbit, hi⟩)
            have hj : (a + k) / 8 < 256 := by omega
            have HG := Lib.hid hg
            have gc : wr.cell? ⟨w.heap.size + 1 + 1, (a + k) / 8, none⟩ = some (.int .u8 (((flips mask a 2048 S k).getD ((a + k) / 8) 0).toNat : Int)) := by
              have := (hg.bs0 0 256 256 (Nat.zero_le _) (by omega) (by omega) (by omega)).cell ((a + k) / 8) hj
              rwa [Nat.zero_add] at this
            have gf := hg.frozen ((a + k) / 8)
            generalize hy : (flips mask a 2048 S k).getD ((a + k) / 8) 0 = y at *
            have HV := Lib.hid hy
            clear hy
            have HB := Lib.hid hbit
            clear hbit hg hfl
            have s1 : IntKind.i64.wrap (((a : Int) + (k : Int)).tdiv 8) = (((a + k) / 8 : Nat) : Int) := by
              rw [Int.tdiv_eq_ediv_of_nonneg (by omega), IntWalk.i64_in _ (by omega)]; omega
            have s2 : IntKind.i64.wrap (((a : Int) + (k : Int)).tmod 8) = (((a + k) % 8 : Nat) : Int) := by
              rw [Int.tmod_eq_emod_of_nonneg (by omega), IntWalk.i64_in _ (by omega)]; omega
            have s2' : (((a : Int) + (k : Int)).tmod 8) = (((a + k) % 8 : Nat) : Int) := by
              rw [Int.tmod_eq_emod_of_nonneg (by omega)]; omega
            have s3 : (0 : Int) ≤ (((a + k) / 8 : Nat) : Int) := by omega
            have s4 : (((a + k) / 8 : Nat) : Int) < 256 := by omega
            have s5 : (0 : Int) ≤ (((a + k) % 8 : Nat) : Int) := by omega
            have s6 : (a + k) % 8 < 8 := by omega
            generalize hgj : (a + k) / 8 = j at *
            generalize hgr : (a + k) % 8 = r at *
            have HJ := Lib.hid hgj
            have HR := Lib.hid hgr
            clear hgj hgr
            go_wp2
            go_region_law (fail)
            go_wp2
            go_roundw
            case rel =>
              refine ⟨k + 1, by omega, by go_num, by rw [HY.out], ?_, ((hbw.setCell (by show w.heap.size ≤ w.heap.size + 1 + 1; omega) _).drew)⟩
              rw [flip_val y r s6, HF.out]
              have h1 := (HG.out.set_ j (bv (UInt8.ofNat (y.toNat ^^^ 2 ^ r)))).drew
              rw [bvs_set] at h1
              unfold flip
              rw [HJ.out, HR.out, HV.out]
              exact h1
            case measure => simp [intOf]; omega
          · have HN := Lib.hid (show ¬ (mask / 2 ^ k % 2 = 1 ∧ a + k < 2048) from fun h => hi h.2)
            clear hbit hfl
            go_wp2
            go_roundw
            case rel => exact ⟨k + 1, by omega, by go_num, by rw [chg_no HN.out], by rw [flips_no S HN.out]; exact hg, hbw⟩
            case measure => simp [intOf]; omega
        · have hb0 : mask / 2 ^ k % 2 = 0 := by omega
          have hb1 : bits .and .u32 ((mask : Int) / 2 ^ k) 1 = 0 := by rw [hmb, hb0]; rfl
          have HN := Lib.hid (show ¬ (mask / 2 ^ k % 2 = 1 ∧ a + k < 2048) from fun h => hbit h.1)
          clear hmb hbit hb0 hfl
          go_wp2
          go_roundw
          case rel => exact ⟨k + 1, by omega, by go_num, by rw [chg_no HN.out], by rw [flips_no S HN.out]; exact hg, hbw⟩
          case measure => simp [intOf]; omega
      · obtain rfl : k = 32 := by omega
        have hfl := length_flips mask a 2048 S 32
        have B := Lib.hid (hg.bs0 0 256 256 (Nat.zero_le _) (by omega) (by omega) (by omega))
        have HW := Lib.hid (flips_valid mask a S hS2 hv.out)
        have HC : Hid (chg mask a 2048 32 = decide (mbits mask a 2048 32 ≠ 0)) := rfl
        by_cases hz : mbits mask a 2048 32 = 0
        · have hcf : chg mask a 2048 32 = false := by rw [HC.out]; simp [hz]
          have B2 : Hid (Bs wr 0 (some ⟨w.heap.size + 1 + 1, 0, none⟩) 256 256 (blkSector n kd l)) := by
            have := B.out
            rw [flips_zero mask a 2048 S 32 hz] at this
            rw [HSS.out]
            exact this
          have HCF := Lib.hid hcf
          clear hcf hg hfl hz hS2
          go_upto_region 18 with (go_at_call 17; refine (get_own n kd B2.out (by omega) (by omega) (by omega) hl2).mono ?_; rintro e w5 ⟨A5, c5, rfl, ho5, hb5⟩)
          have b5 := hbw.trans (hb5.mono hbw.size)
          refine wp_world (fun V => Below w.heap.size w V) (b5.alloc b5.size _) ?_
          clear b5 hb5 ho5 hbw
          rintro V b6
          rw [HCF.out]
          go_wp2_with (go_at_call 16; refine (lives_any _).mono ?_; rintro e w7 ⟨rfl, hb7⟩)
          go_ret
          exact ⟨rfl, b6.trans (hb7.mono b6.size)⟩
        · have hcf : chg mask a 2048 32 = true := by rw [HC.out]; simp [hz]
          have hnv := Lib.hid (fun h => hz (HW.out.1 h))
          have HCF := Lib.hid hcf
          clear hcf hg hfl hz hS2
          go_upto_region 18 with (go_at_call 17; refine (get_sum n B.out hnv.out).mono ?_; unfold noBlk; rintro e w5 ⟨rfl, hb5⟩)
          have b5 := hbw.trans (hb5.mono hbw.size)
          refine wp_world (fun V => Below w.heap.size w V) (b5.alloc b5.size _) ?_
          clear b5 hb5 hbw
          rintro V b6
          rw [HCF.out]
          go_wp2_with (go_at_call 16; refine (lives_any _).mono ?_; rintro e w7 ⟨rfl, hb7⟩)
          go_ret
          exact ⟨rfl, b6.trans (hb7.mono b6.size)⟩
end Go.Proofs.Ytcicchijibhigaa
