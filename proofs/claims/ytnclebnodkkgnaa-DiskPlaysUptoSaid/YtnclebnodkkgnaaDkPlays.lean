/- The statement DiskPlays: its walk. Condition: fewer than 2^38 deeds. -/
import Derived.Test.YtnclebnodkkgnaaDkWhole
namespace Go.Proofs.Ytnclebnodkkgnaa
open Go.RowKit Go.Maps
set_option linter.unusedSimpArgs false
set_option linter.unusedVariables false

set_option maxRecDepth 100000 in
set_option maxHeartbeats 8000000 in
theorem dplays_any {A : Option Addr} {N : Int} {n c : Nat} {f : Nat → D8} {w : World} (hN : -9223372036854775808 ≤ N ∧ N ≤ 9223372036854775807) (hd : D8s w A n f) (hn : n ≤ 1048576) :
    Calls Try.prog 7 #[.int .i64 N, .slice A n c] w fun e w' => e = .returned (.bool true) ∧ Below w.heap.size w w' := by
  have HDs := Lib.hid hd
  clear hd
  by_cases h40 : 40 < N
  · by_cases h4 : N ≤ 4096
    · obtain ⟨k, rfl⟩ : ∃ k : Nat, N = (k : Int) := ⟨N.toNat, by omega⟩
      have D := Lib.hid (dnew_ok k (by omega) w)
      go_enter Try.func7, Try.ntmps7
      go_upto_region 3 with ((with_reducible refine Calls.mono D.out ?_); rintro e w1 ⟨d0, rfl, hd1, hb1⟩)
      have LV := Lib.hid (lives8_any w1)
      have HB := Lib.hid hb1
      clear D hd1 hb1
      go_wp2_with ((with_reducible refine Calls.mono LV.out ?_); rintro e wb ⟨rfl, hbb⟩)
      go_ret
      exact ⟨rfl, HB.out.trans (hbb.mono HB.out.size)⟩
    · have h4b : decide (N ≤ 4096) = false := decide_eq_false h4
      have h4c : 4096 < N := by omega
      have D := Lib.hid (dnew_bad (n := N) (by omega) w)
      have LV := Lib.hid (lives8_any w)
      go_enter Try.func7, Try.ntmps7
      go_wp2_with (first | ((with_reducible refine Calls.mono D.out ?_); rintro e w1 ⟨rfl, hw1⟩; replace hw1 := hw1.symm; subst hw1) | ((with_reducible refine Calls.mono LV.out ?_); rintro e wb ⟨rfl, hbb⟩))
      go_ret
      exact ⟨rfl, hbb⟩
  · by_cases h1 : N < 1
    · have D := Lib.hid (dnew_bad (n := N) (by omega) w)
      have R := Lib.hid (rnew_bad (n := N) (by omega) w)
      have LV := Lib.hid (lives8_any w)
      go_enter Try.func7, Try.ntmps7
      go_upto_region 9 with (first | ((with_reducible refine Calls.mono D.out ?_); rintro e w1 ⟨rfl, hw1⟩; replace hw1 := hw1.symm; subst hw1) | ((with_reducible refine Calls.mono R.out ?_); rintro e w1 ⟨rfl, hw1⟩; replace hw1 := hw1.symm; subst hw1))
      go_loopw [11] (fun s11 wr => s11 = .int .i64 0 ∧ wr = w) (fun _ _ => 0)
      case atStart => exact ⟨rfl, rfl⟩
      case round =>
        obtain ⟨rfl, rfl⟩ := hrel
        go_wp2_with ((with_reducible refine Calls.mono LV.out ?_); rintro e wb ⟨rfl, hbb⟩)
        all_goals go_ret
        all_goals exact ⟨rfl, hbb⟩
    · obtain ⟨k, rfl⟩ : ∃ k : Nat, N = (k : Int) := ⟨N.toNat, by omega⟩
      have D := Lib.hid (dnew_ok k (by omega) w)
      have hk40 : k ≤ 40 := by omega
      go_enter Try.func7, Try.ntmps7
      go_upto_region 5 with ((with_reducible refine Calls.mono D.out ?_); rintro e w1 ⟨d0, rfl, hd1, hb1⟩)
      have R := Lib.hid (rnew_ok k (by omega) w1)
      have HD1 := Lib.hid hd1
      have HB1 := Lib.hid hb1
      clear hd1 hb1 D
      go_upto_region 6 with ((with_reducible refine Calls.mono R.out ?_); rintro e w2 ⟨r0, rfl, hr2, hb2⟩)
      have HT := Lib.hid (Two.mk (HD1.out.below hb2 (Nat.le_refl _)) hr2 HB1.out.size)
      have HB := Lib.hid (HB1.out.trans (hb2.mono HB1.out.size))
      obtain ⟨gd, hgd⟩ : ∃ gd, gd = d0.g := ⟨_, rfl⟩
      obtain ⟨gr, hgr⟩ : ∃ gr, gr = r0.g := ⟨_, rfl⟩
      obtain ⟨br, hbr⟩ : ∃ br, br = w1.heap.size := ⟨_, rfl⟩
      rw [← hbr] at HT
      rw [← hgd, ← hgr]
      have HGd := Lib.hid hgd
      have HGr := Lib.hid hgr
      clear hr2 hb2 R HD1 HB1 hgd hgr hbr
      go_wp2
      go_loopw [11, 12, 13] (fun s11 _ _ wr => ∃ (i : Nat) (d : Dw) (r : Rw), i ≤ n ∧ s11 = .int .i64 i ∧ Two wr w.heap.size br d r (sfo (newD k) f i) (tfo (newD k) f i) ∧ d.g = gd ∧ r.g = gr ∧ Below w.heap.size w wr) (fun s11 _ _ _ => n - (intOf s11).toNat)
      case atStart => exact ⟨0, d0, r0, by omega, rfl, HT.out, HGd.out.symm, HGr.out.symm, HB.out⟩
      case round =>
        clear HT HB
        obtain ⟨i, d, r, hi, rfl, hT, hg1, hg2, hB⟩ := hrel
        have hR := rel_fo (rel_new k) f i (by omega)
        rw [Nat.zero_add] at hR
        have HT := Lib.hid hT
        have HR := Lib.hid hR
        have HG1 := Lib.hid hg1
        have HG2 := Lib.hid hg2
        have HB := Lib.hid hB
        clear hT hR hg1 hg2 hB
        by_cases hlt : i < n
        · obtain ⟨b, o, rfl, _, hbl, hrg⟩ := rd_elem (k := 6) HDs.out.rd (fun _ _ => rfl) (by omega) hlt
          have hok := HDs.out.ok i hlt
          have hrw := range_kept hrg (HB.out.block b hbl)
          have D0 := does_any HT.out HR.out (by omega) (hok.below HB.out hok.lt) hok.lt
          rw [HG1.out, HG2.out] at D0
          have D := Lib.hid D0
          have HRg := Lib.hid hrw
          clear D0 hrg hrw hok
          go_upto_region 12 with (first
            | (((with_reducible refine wpList_load_mid (op := ⟨some 72, _, _, _, _, _⟩) ?_ 48 (.tmp 71) ?_ b (o + i * 6) ?_ (d8c (f i)) _ ?_ Try.underlying48 ?_ ?_ ?_); rfl; rfl; (first | rfl | (go_simp; rfl)); exact HRg.out; rfl; (rw [sizeDeed]; rfl)))
            | ((with_reducible refine Calls.mono D.out ?_); rintro e w3 ⟨rfl, d3, r3, hT3, hg3, hg4, hb3⟩))
          have hR3 := rel_fo (rel_new k) f (i + 1) (by omega)
          have HRt : Hid (dirtyL (tdo (tfo (newD k) f i) (f i)) = dirtyL (sdo (sfo (newD k) f i) (f i))) := Lib.hid hR3.dirty
          have HT3 := Lib.hid hT3
          have HB3 := Lib.hid (HB.out.trans hb3)
          have L0 := dirty_any hT3.dk
          rw [hg3] at L0
          have L := Lib.hid L0
          have hdl : (dirtyL (sdo (sfo (newD k) f i) (f i))).length ≤ 4096 := by
            refine Nat.le_trans (List.length_filter_le _ _) ?_
            rw [List.length_range]
            exact hT3.dk.small.2
          clear hT3 hb3 D HRg HT HR HB L0 hR3
          go_upto_region 13 with (first
            | ((with_reducible refine Calls.mono L.out ?_); rintro e w4 ⟨A4, c4, rfl, ho4, hb4⟩; have hT4 := HT3.out.below hb4; have L2 := rdirty_any hT4.rk; rw [hg4, HRt.out] at L2)
            | ((with_reducible refine Calls.mono L2 ?_); rintro e w5 ⟨A5, c5, rfl, ho5, hb5⟩; have N0 := numbers_any (ho4.below hb5 (Nat.le_refl _)) ho5 rfl (by omega))
            | ((with_reducible refine Calls.mono N0 ?_); rintro e w6 ⟨rfl, q6, hw6⟩))
          subst hw6
          have HT6 := Lib.hid ((hT4.below hb5).below (below_drewN (Below.refl _ _) q6))
          have HB6 := Lib.hid (below_drewN ((HB3.out.trans (hb4.mono HB3.out.size)).trans (hb5.mono (Nat.le_trans HB3.out.size hb4.size))) q6)
          clear N0 L2 hT4 ho4 ho5 hb4 hb5 HT3 HB3 L hdl
          go_wp2
          go_roundw
          case rel => exact ⟨i + 1, d3, r3, by omega, by norm_cast, HT6.out, hg3, hg4, HB6.out⟩
          case measure => simp only [intOf]; omega
        · obtain rfl : i = n := by omega
          have W0 := whole_any HT.out HR.out
          rw [HG1.out, HG2.out] at W0
          have W := Lib.hid W0
          clear hlt W0
          go_upto_region 17 with ((with_reducible refine Calls.mono W.out ?_); rintro e w3 ⟨rfl, hb3⟩)
          have LV := Lib.hid (lives8_any w3)
          have HB3 := Lib.hid (HB.out.trans (hb3.mono HB.out.size))
          clear hb3 W HT HB
          go_wp2_with ((with_reducible refine Calls.mono LV.out ?_); rintro e wb ⟨rfl, hbb⟩)
          go_ret
          exact ⟨rfl, HB3.out.trans (hbb.mono HB3.out.size)⟩
end Go.Proofs.Ytnclebnodkkgnaa
