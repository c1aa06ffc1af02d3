/- The statements of layer 7: their own example; the gears. -/
import Derived.Test.YtgfmpgflbphpcaaCut3
namespace Go.Proofs.Ytgfmpgflbphpcaa
open Go.RowKit

theorem cuts_ten : cuts (List.replicate 10 0) = [10] := by decide +kernel
theorem gear_pos : 0 < gearN 97 := by decide +kernel
theorem make22 (w : World) : (Instr.makeSlice 22 (.int .i64 10) (.int .i64 10)).run Try.prog w = .ok (.slice (some ⟨w.heap.size, 0, none⟩) 10 10) (w.alloc (.cells (bvs (List.replicate 10 0)).toArray 5)) := by kernel_rfl
theorem cut_ten (w : World) : Calls Try.prog 29 #[.slice (some ⟨w.heap.size, 0, none⟩) 10 10] (w.alloc (.cells (bvs (List.replicate 10 0)).toArray 5)) fun e w' => ∃ A' c', e = .returned (.slice A' 1 c') ∧ Own w' (w.heap.size + 1) 3 1 A' 1 c' (is [10]) ∧ Below (w.heap.size + 1) (w.alloc (.cells (bvs (List.replicate 10 0)).toArray 5)) w' := by
  have h := cut_any (w := w.alloc (.cells (bvs (List.replicate 10 0)).toArray 5)) ((Blk.new w 5 (bvs (List.replicate 10 0))).bs0 0 10 10 (Nat.zero_le _) (by omega) (by omega) rfl) (by omega)
  rw [cuts_ten] at h
  simpa using h

set_option maxRecDepth 100000 in
set_option maxHeartbeats 1000000 in
theorem clives_any (w : World) : Calls Try.prog 31 #[] w fun e w' => e = .returned (.bool true) ∧ Below w.heap.size w w' := by
  have hmk := make22
  have HC := Lib.hid cut_ten
  have G1 : Hid (∀ w, Calls Try.prog 32 #[.int .u8 97] w fun e w' => e = .returned (.int .i64 (gearN 97 : Nat)) ∧ Below w.heap.size w w') := fun w => Gear_any 97 w
  have G2 : Hid (∀ w, Calls Try.prog 33 #[.int .u8 97] w fun e w' => e = .returned (.int .i64 (gearN 97 : Nat)) ∧ Below w.heap.size w w') := fun w => rgear_any 97 w
  have hp := gear_pos
  generalize gearN 97 = g at *
  go_enter Try.func31, Try.ntmps31
  go_upto_region 2 with (go_at_call 29; refine (HC.out _).mono ?_; rintro e w1 ⟨A1, c1, rfl, ho1, hb1⟩)
  clear hmk HC
  have b1 : Below w.heap.size w w1 := ((Below.refl _ _).alloc (Nat.le_refl _) _).trans (hb1.mono (by omega))
  refine wp_world (fun V => Own V (w.heap.size + 1) 3 1 A1 1 c1 (is [10]) ∧ Below w.heap.size w V) ⟨ho1, b1⟩ ?_
  clear ho1 hb1 b1
  rintro V ⟨ho, hV⟩
  obtain ⟨g1, rfl, hg1, hl1, hc⟩ := own_is ho (by omega)
  have c0 := Lib.hid (hc 0 (by simp))
  clear hc ho
  go_wp2_with fail
  refine (G1.out _).mono ?_
  rintro e w2 ⟨rfl, hb2⟩
  go_wp2_with fail
  refine (G2.out _).mono ?_
  rintro e w3 ⟨rfl, hb3⟩
  go_wp2_with fail
  refine (G1.out _).mono ?_
  rintro e w4 ⟨rfl, hb4⟩
  have c4 := below_cell hb4 (below_cell hb3 (below_cell hb2 c0.out))
  rw [show (([10] : List Nat).getD 0 0 : Nat) = 10 from rfl] at c4
  go_wp2
  go_ret
  exact ⟨rfl, ((hV.trans (hb2.mono hV.size)).trans (hb3.mono (Nat.le_trans hV.size hb2.size))).trans (hb4.mono (Nat.le_trans (Nat.le_trans hV.size hb2.size) hb3.size))⟩

theorem cutGears_any (b : UInt8) (w : World) : Calls Try.prog 11 #[.int .u8 (b.toNat : Int)] w fun e w' => e = .returned (.bool true) ∧ Below w.heap.size w w' := by
  go_enter Try.func11, Try.ntmps11
  go_wp2_with fail
  refine (Gear_any b _).mono ?_
  rintro e w2 ⟨rfl, hb2⟩
  go_wp2_with fail
  refine (rgear_any b _).mono ?_
  rintro e w3 ⟨rfl, hb3⟩
  go_wp2_with fail
  refine (clives_any _).mono ?_
  rintro e w4 ⟨rfl, hb4⟩
  go_wp2
  go_ret
  exact ⟨rfl, (hb2.trans (hb3.mono hb2.size)).trans (hb4.mono (Nat.le_trans hb2.size hb3.size))⟩

set_option maxRecDepth 100000 in
set_option maxHeartbeats 1000000 in
theorem cutCuts_any {A : Option Addr} {m c lo : Nat} {l : List UInt8} {w : World} (hb : Bs w lo A m c l) :
    Calls Try.prog 10 #[.slice A m c] w fun e w' => e = .returned (.bool true) ∧ Below w.heap.size w w' := by
  have hc1 := hb.2.1
  have hc2 := hb.2.2.1
  have HB0 := Lib.hid hb
  clear hb
  by_cases hm : m ≤ 65536
  all_goals
    go_enter Try.func10, Try.ntmps10
    go_upto_region 3 with fail
    go_cut [0, 3] (fun s0 s3 wx => ∃ (M : Nat) (l' : List UInt8), s0 = .slice A M c ∧ Bs w lo A M c l' ∧ M ≤ 65536 ∧ ∃ A3 c3, s3 = .slice A3 (cuts l').length c3 ∧ Own wx w.heap.size 3 1 A3 (cuts l').length c3 (is (cuts l')) ∧ Below w.heap.size w wx)
  · go_wp2_with (go_at_call 29; refine (cut_any HB0.out (by omega)).mono ?_; rintro e w1 ⟨A1, c1, rfl, ho1, hb1⟩)
    go_meet
    exact ⟨m, l, rfl, HB0.out, hm, A1, c1, rfl, ho1, hb1⟩
  rotate_left
  · go_wp2_with (go_at_call 29; refine (cut_any (HB0.out.take 65536 (by omega)) (by omega)).mono ?_; rintro e w1 ⟨A1, c1, rfl, ho1, hb1⟩)
    go_meet
    exact ⟨65536, l.take 65536, rfl, HB0.out.take 65536 (by omega), Nat.le_refl _, A1, c1, rfl, ho1, hb1⟩
  all_goals
    obtain ⟨M, l', rfl, hb, hM, A3, c3, rfl, ho, hbw⟩ := hcut
    have HB := Lib.hid hb
    have HO := Lib.hid ho
    clear hb hm HB0 hc1 hc2 ho
    generalize hcc : cuts l' = C at *
    have HCC := Lib.hid hcc
    clear hcc
    go_upto_region 5 with (go_at_call 30; refine (rcut_any (HB.out.below hbw (Nat.le_refl _)) (by omega)).mono ?_; rintro e w2 ⟨A2, c2, rfl, ho2, hb2⟩)
    rw [HCC.out] at ho2
    rw [HCC.out]
    have hcap := ho2.cap
    have h63 : C.length ≤ 9223372036854775807 := Nat.le_trans hcap.1 hcap.2
    have b2 := hbw.trans (hb2.mono hbw.size)
    have HO2 := Lib.hid ho2
    have HO3 := Lib.hid (HO.out.below hb2 (Nat.le_refl _))
    clear ho2 hb2 hcap HO HB HCC
    go_wp2
    go_loopw [5] (fun s5 wr => ∃ k : Nat, k ≤ C.length ∧ s5 = .int .i64 k ∧ ∃ q, wr = w2.drewN q) (fun s5 _ => C.length - (intOf s5).toNat)
    case atStart => exact ⟨0, Nat.zero_le _, rfl, 0, rfl⟩
    case round =>
      obtain ⟨k, hk, rfl, q, rfl⟩ := hrel
      by_cases hlt : k < C.length
      · obtain ⟨g2, rfl, _, _, hc2⟩ := own_is HO2.out (by omega)
        obtain ⟨g3, rfl, _, _, hc3⟩ := own_is HO3.out (by omega)
        have x2 := hc2 k hlt
        have x3 := hc3 k hlt
        clear hc2 hc3
        generalize C.getD k 0 = y at *
        have kM : (k : Int) < (C.length : Int) := by omega
        go_wp2
        go_quiet (fail)
        go_wp2
        go_roundw
        case rel => exact ⟨k + 1, by omega, by go_num, _, rfl⟩
        case measure => simp [intOf]; omega
      · go_wp2_with (go_at_call 31; refine (clives_any _).mono ?_; rintro e w5 ⟨rfl, hb5⟩)
        go_ret
        exact ⟨rfl, (below_drewN b2 q).trans (hb5.mono b2.size)⟩
end Go.Proofs.Ytgfmpgflbphpcaa
