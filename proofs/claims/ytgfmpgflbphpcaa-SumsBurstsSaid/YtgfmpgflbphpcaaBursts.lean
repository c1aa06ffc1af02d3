/- The statement that a burst of turned bits is told: its walk. -/
import Derived.Test.YtgfmpgflbphpcaaSums
import Derived.Test.YtgfmpgflbphpcaaFlip
import Derived.Deep.DeepCutAuto
namespace Go.Proofs.Ytgfmpgflbphpcaa
open Go.RowKit

theorem mod_pos (x : Int) (m : Nat) : ∃ a : Nat, a ≤ 8 * m ∧ Value.int .i64 (x % (8 * (m : Int) + 1)) = .int .i64 (a : Int) := by
  have h1 := Int.emod_nonneg x (show (8 * (m : Int) + 1) ≠ 0 by omega)
  have h2 := Int.emod_lt_of_pos x (show 0 < (8 * (m : Int) + 1) by omega)
  exact ⟨(x % (8 * (m : Int) + 1)).toNat, by omega, by congr 1; omega⟩
theorem mod_neg (x : Int) (m : Nat) (h : x < 0) : ∃ a : Nat, a ≤ 8 * m ∧ Value.int .i64 (-(x + 1).tmod (8 * (m : Int) + 1)) = .int .i64 (a : Int) := by
  rw [← Int.neg_tmod, Int.tmod_eq_emod_of_nonneg (by omega)]
  exact mod_pos _ m

set_option maxRecDepth 100000 in
set_option maxHeartbeats 4000000 in
theorem sumsBursts_any (at_ : Int) (mask : Nat) {A : Option Addr} {m c lo : Nat} {l : List UInt8} {w : World} (hb : Bs w lo A m c l) (hat : -9223372036854775808 ≤ at_) (hat2 : at_ ≤ 9223372036854775807) (hmk : mask < 4294967296) :
    Calls Try.prog 5 #[.slice A m c, .int .i64 at_, .int .u32 mask] w fun e w' => e = .returned (.bool true) ∧ Below w.heap.size w w' := by
  have hc1 := hb.2.1
  have hc2 := hb.2.2.1
  have HB0 := Lib.hid hb
  clear hb
  by_cases hm : m ≤ 65536
  all_goals
    go_enter Try.func5, Try.ntmps5
    go_upto_region 3 with fail
    go_cut [0, 7] (fun s0 s7 wx => (∃ (M : Nat) (l' : List UInt8), M ≤ 65536 ∧ s0 = .slice A M c ∧ Bs wx lo A M c l') ∧ s7 = .slice none 0 0 ∧ w = wx)
  · go_wp2
    go_meet
    exact ⟨⟨m, l, hm, rfl, HB0.out⟩, rfl, rfl⟩
  rotate_left
  · go_wp2
    go_meet
    exact ⟨⟨65536, l.take 65536, Nat.le_refl _, rfl, HB0.out.take 65536 (by omega)⟩, rfl, rfl⟩
  all_goals
    obtain ⟨⟨M, l', hM, rfl, hb⟩, rfl, rfl⟩ := hcut
    have HB := Lib.hid hb
    have HL := Lib.hid hb.1
    clear hb hm HB0 hc1 hc2 l
    obtain ⟨l, rfl⟩ : ∃ l, l = l' := ⟨_, rfl⟩
    by_cases h0 : at_ < 0
    all_goals
      go_upto_region 8 with (at_builtin; refine wpList_app rfl (.tmp 16) (.tmp 17) 22 rfl 5 1 Try.underlying22 info5 rfl (by omega) rfl (Own.nil_ _ w.heap.size 5 1) rfl HB.out.2.2.2 (by simpa using HL.out) (bvs_oneCell _) (by omega) (by omega) (Nat.le_refl _) ?_; intro A1 c1 w1 ho1 hg1 _; rw [Nat.zero_add, List.nil_append] at ho1; rw [Nat.zero_add])
      have b1 : Below w.heap.size w w1 := below_own (Below.refl _ _) (Own.nil_ _ w.heap.size 5 1) hg1 (Nat.le_refl _) (Nat.le_refl _)
      have HO := Lib.hid ho1
      clear hg1 ho1
      go_cut [1, 8] (fun s1 s8 wx => (∃ a : Nat, a ≤ 8 * M ∧ s1 = .int .i64 a) ∧ s8 = .bool false ∧ w1 = wx)
    · go_wp2
      go_meet
      refine ⟨?_, rfl, rfl⟩
      exact mod_neg at_ M h0
    rotate_left
    · go_wp2
      go_meet
      refine ⟨?_, rfl, rfl⟩
      exact mod_pos at_ M
    all_goals
      obtain ⟨⟨a, ha, rfl⟩, rfl, rfl⟩ := hcut
      clear h0
      go_wp2
      go_loopw [8, 9] (fun s8 s9 wr => ∃ k : Nat, k ≤ 32 ∧ s9 = .int .i64 k ∧ s8 = .bool (chg mask a (8 * M) k) ∧ Own wr w.heap.size 5 1 A1 M c1 (bvs (flips mask a (8 * M) l k)) ∧ Below w.heap.size w wr)
        (fun _ s9 _ => 32 - (intOf s9).toNat)
      case atStart => exact ⟨0, by omega, rfl, rfl, HO.out, b1⟩
      case round =>
        clear HO b1
        obtain ⟨k, hk, rfl, rfl, hg, hbw⟩ := hrel
        by_cases hlt : k < 32
        · have hfl := (length_flips mask a (8 * M) l k).trans HL.out
          have hmb := mask_bit mask k hmk
          by_cases hbit : mask / 2 ^ k % 2 = 1
          · have hb1 : bits .and .u32 ((mask : Int) / 2 ^ k) 1 = 1 := by rw [hmb, hbit]; rfl
            clear hmb
            by_cases hi : a + k < 8 * M
            · have HY := Lib.hid (chg_yes ⟨hbit, hi⟩)
              have HF := Lib.hid (flips_yes l ⟨hbit, hi⟩)
              have hj : (a + k) / 8 < M := by omega
              obtain ⟨g1, rfl, hg1, hl1⟩ := hg.head (by omega)
              have HG := Lib.hid hg
              have gc := (own_bs hg).cell ((a + k) / 8) hj
              rw [Nat.zero_add] at gc
              have gf := own_free hg ((a + k) / 8)
              generalize hy : (flips mask a (8 * M) l k).getD ((a + k) / 8) 0 = y at *
              have HV := Lib.hid hy
              clear hy
              have HB := Lib.hid hbit
              have HD := Lib.hid hfl
              clear hbit hg hfl
              have s1 : IntKind.i64.wrap (((a : Int) + (k : Int)).tdiv 8) = (((a + k) / 8 : Nat) : Int) := by
                rw [Int.tdiv_eq_ediv_of_nonneg (by omega), IntWalk.i64_in _ (by omega)]; omega
              have s2 : IntKind.i64.wrap (((a : Int) + (k : Int)).tmod 8) = (((a + k) % 8 : Nat) : Int) := by
                rw [Int.tmod_eq_emod_of_nonneg (by omega), IntWalk.i64_in _ (by omega)]; omega
              have s2' : (((a : Int) + (k : Int)).tmod 8) = (((a + k) % 8 : Nat) : Int) := by
                rw [Int.tmod_eq_emod_of_nonneg (by omega)]; omega
              have s3 : (0 : Int) ≤ (((a + k) / 8 : Nat) : Int) := by omega
              have s4 : (((a + k) / 8 : Nat) : Int) < (M : Int) := by omega
              have s5 : (0 : Int) ≤ (((a + k) % 8 : Nat) : Int) := by omega
              have s6 : (a + k) % 8 < 8 := by omega
              generalize hgj : (a + k) / 8 = j at *
              generalize hgr : (a + k) % 8 = r at *
              have HJ := Lib.hid hgj
              have HR := Lib.hid hgr
              clear hgj hgr
              go_wp2
              go_region_law (fail)
              go_wp2
              go_roundw
              case rel =>
                refine ⟨k + 1, by omega, by go_num, by rw [HY.out], ?_, ((hbw.setCell hg1 _).drew)⟩
                rw [flip_val y r s6, HF.out]
                have h1 := (HG.out.set_ j (bv (UInt8.ofNat (y.toNat ^^^ 2 ^ r)))).drew
                rw [bvs_set] at h1
                unfold flip
                rw [HJ.out, HR.out, HV.out]
                exact h1
              case measure => simp [intOf]; omega
            · have HN := Lib.hid (show ¬ (mask / 2 ^ k % 2 = 1 ∧ a + k < 8 * M) from fun h => hi h.2)
              clear hbit hfl
              go_wp2
              go_roundw
              case rel => exact ⟨k + 1, by omega, by go_num, by rw [chg_no HN.out], by rw [flips_no l HN.out]; exact hg, hbw⟩
              case measure => simp [intOf]; omega
          · have hb0 : mask / 2 ^ k % 2 = 0 := by omega
            have hb1 : bits .and .u32 ((mask : Int) / 2 ^ k) 1 = 0 := by rw [hmb, hb0]; rfl
            have HN := Lib.hid (show ¬ (mask / 2 ^ k % 2 = 1 ∧ a + k < 8 * M) from fun h => hbit h.1)
            clear hmb hbit hb0 hfl
            go_wp2
            go_roundw
            case rel => exact ⟨k + 1, by omega, by go_num, by rw [chg_no HN.out], by rw [flips_no l HN.out]; exact hg, hbw⟩
            case measure => simp [intOf]; omega
        · obtain rfl : k = 32 := by omega
          have B := Lib.hid (own_bs hg)
          have D := Lib.hid (HB.out.below hbw (Nat.le_refl _))
          have HW := flips_sum mask a l
          rw [HL.out] at HW
          have HC : Hid (chg mask a (8 * M) 32 = decide (mbits mask a (8 * M) 32 ≠ 0)) := rfl
          have hq := Lib.hid (show ((crc (flips mask a (8 * M) l 32) : Int) != (crc l : Int)) = chg mask a (8 * M) 32 by
            rw [HC.out]
            by_cases hz : mbits mask a (8 * M) 32 = 0
            · rw [HW.2 hz]; simp [hz]
            · have hne : ¬ crc (flips mask a (8 * M) l 32) = crc l := fun h => hz (HW.1 h)
              have hne2 : ¬ ((crc (flips mask a (8 * M) l 32) : Int) = (crc l : Int)) := by omega
              simp [hz, hne2])
          clear HW HC hg
          generalize flips mask a (8 * M) l 32 = F at *
          generalize chg mask a (8 * M) 32 = C at *
          have hq2 := hq.out
          go_wp2_with (first
            | ((with_reducible refine (scrc_any B.out).mono ?_); rintro e w3 ⟨rfl, rfl⟩)
            | ((with_reducible refine (scrc_any D.out).mono ?_); rintro e w3 ⟨rfl, rfl⟩)
            | (go_at_call 17; refine (slives_any _).mono ?_; rintro e w4 ⟨rfl, hb4⟩))
          go_ret
          exact ⟨rfl, hbw.trans (hb4.mono hbw.size)⟩
end Go.Proofs.Ytgfmpgflbphpcaa
