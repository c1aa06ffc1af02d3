/- The statement DiskCuts: its walk. -/
import Derived.Test.YtnclebnodkkgnaaDkCu
namespace Go.Proofs.Ytnclebnodkkgnaa
open Go.RowKit
set_option linter.unusedSimpArgs false
set_option linter.unusedVariables false

theorem pred_cast {n : Nat} (h : 0 < n) : (n : Int) - 1 = ((n - 1 : Nat) : Int) := by omega
theorem pred_wrap {n : Nat} (h : n ≤ 20) : wrap64 ((n - 1 : Nat) : Int) = ((n - 1 : Nat) : Int) := by unfold wrap64; omega
theorem pred_wrap2 {n : Nat} (h0 : 0 < n) (h : n ≤ 20) : IntKind.i64.wrap ((n : Int) - 1) = ((n - 1 : Nat) : Int) := by rw [IntWalk.i64_in _ (by omega)]; exact pred_cast h0
def nils12 : List Value := [.slice none 0 0, .slice none 0 0, .slice none 0 0, .slice none 0 0, .slice none 0 0, .slice none 0 0, .slice none 0 0, .slice none 0 0, .slice none 0 0, .slice none 0 0, .slice none 0 0, .slice none 0 0]
theorem nils12_at (k : Nat) (h : k < 12) : nils12[k]? = some (.slice none 0 0) := by
  obtain rfl | rfl | rfl | rfl | rfl | rfl | rfl | rfl | rfl | rfl | rfl | rfl : k = 0 ∨ k = 1 ∨ k = 2 ∨ k = 3 ∨ k = 4 ∨ k = 5 ∨ k = 6 ∨ k = 7 ∨ k = 8 ∨ k = 9 ∨ k = 10 ∨ k = 11 := by omega
  all_goals rfl
theorem zeroLast (w : World) : (zeroValue 56).run Try.prog w = .ok (.agg nils12.toArray) w := by kernel_rfl
theorem sizeD8 : (Try.prog.info? 48).map (·.size) = some 6 := by kernel_rfl
theorem LastI.new (w : World) (d : Dw) (base : Nat) {s : Dsk} (h : Dk w base d s) : LastI (w.alloc (.cells nils12.toArray 56)) d w.heap.size nils12 (fun _ => []) :=
  ⟨Blk.new w _ nils12, rfl, fun e => absurd (h.foot_base _ e).2 (Nat.lt_irrefl _), fun k hk => ⟨none, 0, 0, nils12_at k hk, Bs.nil_ _ 0, fun h => absurd h (by omega)⟩⟩

set_option maxRecDepth 100000 in
set_option maxHeartbeats 8000000 in
theorem dcuts_any {A : Option Addr} {n c : Nat} {f : Nat → D8} {N : Int} {w : World} (hd : D8s w A n f) (hn : n ≤ 2932031007403) (hN : -9223372036854775808 ≤ N ∧ N ≤ 9223372036854775807) :
    Calls Try.prog 6 #[.slice A n c, .int .i64 N] w fun e w' => e = .returned (.bool true) ∧ Below w.heap.size w w' := by
  have D0 := dnew_ok 12 (by omega) w
  push_cast at D0
  have D := Lib.hid D0
  have HDs := Lib.hid hd
  have P0 := fun W => pick8_any N hN (n := 20) (by omega) (by omega) W
  have hN20 := pickN_lt N (n := 20) (by omega)
  obtain ⟨N0, hN0⟩ : ∃ k, k = pickN N 20 := ⟨_, rfl⟩
  rw [← hN0] at P0 hN20
  push_cast at P0
  have P := Lib.hid P0
  clear D0 hd P0 hN0 hN
  go_enter Try.func6, Try.ntmps6
  go_upto_region 4 with ((with_reducible refine Calls.mono D.out ?_); rintro e w1 ⟨d0, rfl, hd1, hb1⟩)
  have C0 := dcut_ok hd1 (n := (N0 : Int)) (by omega)
  have C := Lib.hid C0
  have HD1 := Lib.hid hd1
  have HB1 := Lib.hid hb1
  clear C0 hd1 hb1 D
  go_upto_region 7 with (first | ((with_reducible refine Calls.mono (P.out _) ?_); rintro e wa ⟨rfl, rfl⟩) | ((with_reducible refine Calls.mono C.out ?_); rintro e w2 ⟨rfl, hc2⟩))
  have hB2 := HB1.out.trans (hc2.bel HD1.out)
  have hL := LastI.new w2 d0 _ hc2.dk
  have hd3 := hc2.dk.alloc (.cells nils12.toArray 56)
  have hB3 : Below w.heap.size w (w2.alloc (.cells nils12.toArray 56)) := hB2.alloc hB2.size _
  have hgl0 : w.heap.size ≤ w2.heap.size := hB2.size
  have HL := Lib.hid hL
  have HD3 := Lib.hid hd3
  have HB3 := Lib.hid hB3
  have hz := zeroLast
  clear hc2 hB2 hL hd3 hB3 C P HD1 HB1
  go_upto_region 8 with fail
  refine wp_world (fun U => LastI U d0 w2.heap.size nils12 (fun _ => []) ∧ Dk U w.heap.size d0 (cutD (newD 12) N0) ∧ Below w.heap.size w U) ⟨HL.out, HD3.out, HB3.out⟩ ?_
  obtain ⟨gL, hgL⟩ : ∃ gL, gL = w2.heap.size := ⟨_, rfl⟩
  rw [← hgL]
  rw [← hgL] at hgl0
  rintro U ⟨hL, hD, hB⟩
  obtain ⟨gd, hgd⟩ : ∃ gd, gd = d0.g := ⟨_, rfl⟩
  rw [← hgd]
  have HGd := Lib.hid hgd
  have HL2 := Lib.hid hL
  have HD2 := Lib.hid hD
  have HB2 := Lib.hid hB
  clear hz hL hD hB HL HD3 HB3 hgL hgd
  go_wp2
  go_loopw [1, 8, 9, 10] (fun s1 s8 s9 s10 wr => ∃ (i nn : Nat) (d : Dw) (s : Dsk) (vs : List Value) (ll : Nat → List UInt8), i ≤ n ∧ s8 = .int .i64 i ∧ s1 = .int .i64 nn ∧
      Dk wr w.heap.size d s ∧ d.g = gd ∧ CutI s N0 nn i ll ∧ LastI wr d gL vs ll ∧ Below w.heap.size w wr) (fun _ s8 _ _ _ => n - (intOf s8).toNat)
  case atStart => exact ⟨0, N0, d0, _, _, _, by omega, rfl, rfl, HD2.out, HGd.out.symm, cutI_new (by omega), HL2.out, HB2.out⟩
  case round =>
    clear HD2 HL2 HB2
    obtain ⟨i, nn, d, s, vs, ll, hi, rfl, rfl, hD, hg, hC, hL, hB⟩ := hrel
    have HD := Lib.hid hD
    have HG := Lib.hid hg
    have HC := Lib.hid hC
    have HL := Lib.hid hL
    have HB := Lib.hid hB
    clear hD hg hC hL hB
    by_cases hlt : i < n
    · obtain ⟨b, o, rfl, _, hbl, hrg⟩ := rd_elem (k := 6) HDs.out.rd (fun _ _ => rfl) (by omega) hlt
      have hok := HDs.out.ok i hlt
      obtain ⟨x, hx⟩ : ∃ x, x = f i := ⟨_, rfl⟩
      rw [← hx] at hrg hok
      have hrw := range_kept hrg (HB.out.block b hbl)
      have hca : wr.cell? ⟨b, o + i * 6 + 1, none⟩ = some (.int .i64 x.at_) := hrw 1 _ rfl
      have P0 := pick8_any x.at_ hok.a (n := 12) (by omega) (by omega) wr
      have hk12 := pickN_lt x.at_ (n := 12) (by omega)
      obtain ⟨k, hk⟩ : ∃ k, k = pickN x.at_ 12 := ⟨_, rfl⟩
      rw [← hk] at P0 hk12
      push_cast at P0
      have P := Lib.hid P0
      have B0 : Calls Try.prog 29 #[.agg (d8c x).toArray] wr _ := bytes8_any x.K x.at_ x.fl x.la x.sh x.pA x.pn x.pc hok.a wr
      obtain ⟨m, hm⟩ : ∃ m, m = deedN x.at_ x.sh := ⟨_, rfl⟩
      obtain ⟨y, hy⟩ : ∃ y, y = deedB x.at_ x.fl x.la x.sh := ⟨_, rfl⟩
      have hyl : y.length = m := by rw [hy, hm]; exact deedB_len _ _ _ _
      have hm300 : m ≤ 300 := by rw [hm]; exact deedN_le _ _
      rw [← hm, ← hy] at B0
      have B := Lib.hid B0
      have HRg := Lib.hid hrw
      have HYl := Lib.hid hyl
      clear P0 B0 hk hm hy hx hrg hrw hok hyl
      go_upto_region 13 with (first
        | (((with_reducible refine wpList_load_mid (op := ⟨some 55, _, _, _, _, _⟩) ?_ 48 (.tmp 54) ?_ b (o + i * 6) ?_ (d8c x) _ ?_ Try.underlying48 ?_ ?_ ?_); rfl; rfl; (first | rfl | (go_simp; rfl)); exact HRg.out; rfl; (rw [sizeD8]; rfl)))
        | ((with_reducible refine Calls.mono P.out ?_); rintro e wa ⟨rfl, rfl⟩)
        | ((with_reducible refine Calls.mono B.out ?_); rintro e w3 ⟨gb, rfl, hxb, hgb, hb3⟩))
      have hgd : w.heap.size ≤ gb := by have := HB.out.size; omega
      have hB3 := HB.out.trans (hb3.mono HB.out.size)
      have hD3 := HD.out.below hb3 (Nat.le_refl _)
      have hL3 := HL.out.below hb3
      have hgbl := hxb.lt
      have hgbL : gb ≠ gL := by have := HL.out.blk.lt; omega
      have hgbd : ¬ d.foot gb := fun e => by have := (HD.out.foot_base gb e).2; omega
      have HB3 := Lib.hid hB3
      have HD3 := Lib.hid hD3
      have HL3 := Lib.hid hL3
      have HXb := Lib.hid hxb
      clear hB3 hD3 hL3 hb3 hxb HB HD HL P B HRg hca
      by_cases hm : m = 256
      · subst hm
        have hX0 := HXb.out.bs0 0 256 256 (Nat.zero_le _) (Nat.le_refl _) (by omega) HYl.out
        have hkn : k < s.n := by rw [HC.out.n_]; exact hk12
        have W0 := dwrite_ok HD3.out hkn (by have := HC.out.cnt k; omega) hX0 hgbd
        rw [HG.out] at W0
        have W := Lib.hid W0
        clear W0 hX0 hkn
        rcases Nat.eq_zero_or_pos nn with h0 | h0
        · subst h0
          go_upto_region 10 with ((with_reducible refine Calls.mono W.out ?_); rintro e w4 ⟨rfl, d4, hd4, hg4, hk4, hf4⟩)
          have hc4 : Ch w3 w4 w.heap.size d d4 _ := ⟨hd4, hg4.trans HG.out.symm, hk4, hf4⟩
          have HD4 := Lib.hid hd4
          have HL4 := Lib.hid (HL3.out.ch hc4)
          have HB4 := Lib.hid (HB3.out.trans (hc4.bel HD3.out))
          have HC4 := Lib.hid (HC.out.lost (k := k) (x := y) (by omega))
          clear hc4 hd4 hk4 hf4 W HD3 HL3 HB3 HXb HC
          go_wp2
          go_roundw
          case rel => exact ⟨i + 1, 0, d4, _, vs, ll, by omega, by norm_cast, rfl, HD4.out, hg4, HC4.out, HL4.out, HB4.out⟩
          case measure => simp only [intOf]; omega
        · have hn1 : (0 : Int) < (nn : Int) := by omega
          have hn2 := pred_wrap2 h0 HC.out.nn_
          have hn4 := pred_wrap HC.out.nn_
          have hn3 := pred_cast h0
          have hkI : (k : Int) < 12 := by omega
          have hlc := HL3.out.blk.frees
          go_upto_region 14 with ((with_reducible refine Calls.mono W.out ?_); rintro e w4 ⟨rfl, d4, hd4, hg4, hk4, hf4⟩)
          have hc4 : Ch w3 w4 w.heap.size d d4 _ := ⟨hd4, hg4.trans HG.out.symm, hk4, hf4⟩
          have hx4 := hk4.blk HXb.out hgbd
          have hL4 := HL3.out.ch hc4
          have hl4 : gb < w4.heap.size := Nat.lt_of_lt_of_le hgbl hk4.size
          have hL5 := hL4.set_ hk12 (hx4.bs0 0 256 256 (Nat.zero_le _) (Nat.le_refl _) (by omega) HYl.out) (hc4.away hgbd hgbl) hgbL hl4
          have K5 : Kept (fun y => y = gL) w4 (w4.setCell ⟨gL, k, none⟩ (.slice (some ⟨gb, 0, none⟩) 256 256)) := ⟨rfl, rfl, rfl, by simp, fun y _ hn => Below.heap_setCell w4 _ _ y hn⟩
          have HD5 := Lib.hid (hd4.kept K5 (fun b hb e => hL4.off (by rw [← e]; exact hb)))
          have HL5 := Lib.hid hL5
          have HB5 := Lib.hid ((HB3.out.trans (hc4.bel HD3.out)).setCell (show w.heap.size ≤ (⟨gL, k, none⟩ : Addr).block from hgl0) (.slice (some ⟨gb, 0, none⟩) 256 256))
          have HC5 := Lib.hid (HC.out.put (k := k) h0 HYl.out)
          have bl := hL4.blk.frees
          have bc := hL4.blk.cell k
          obtain ⟨Ak, mk, ck, ek, -, -⟩ := hL4.at_ k hk12
          rw [ek] at bc
          clear hc4 hd4 hk4 hf4 hx4 hL4 hL5 K5 W HD3 HL3 HB3 HXb HC hlc
          go_upto_region 10 with fail
          go_wp2
          go_roundw
          case rel => exact ⟨i + 1, nn - 1, d4, _, _, _, by omega, by norm_cast, by first | rfl | rw [hn4], HD5.out, hg4, HC5.out, HL5.out, HB5.out⟩
          case measure => simp only [intOf]; omega
      · have W0 := dwrite_bad (A := some ⟨gb, 0, none⟩) (c := m) HD3.out (by rw [HC.out.n_]; exact hk12) hm
        rw [HG.out] at W0
        have W := Lib.hid W0
        clear W0
        go_wp2_with ((with_reducible refine Calls.mono W.out ?_); rintro e wa ⟨rfl, rfl⟩)
        go_roundw
        case rel => exact ⟨i + 1, nn, d, s, vs, ll, by omega, by norm_cast, rfl, HD3.out, HG.out, HC.out.idle, HL3.out, HB3.out⟩
        case measure => simp only [intOf]; omega
    · obtain rfl : i = n := by omega
      clear hlt
      have HDs := 0
      go_wp2
      go_loopw [11, 12, 13, 14, 15] (fun s11 _ _ _ _ wr => ∃ j : Nat, j ≤ 12 ∧ s11 = .int .i64 j ∧ Dk wr w.heap.size d s ∧ LastI wr d gL vs ll ∧ Below w.heap.size w wr) (fun s11 _ _ _ _ _ => 12 - (intOf s11).toNat)
      case atStart => exact ⟨0, by omega, rfl, HD.out, HL.out, HB.out⟩
      case round =>
        clear HD HL HB
        rename World => wr2
        obtain ⟨j, hj, rfl, hD, hL, hB⟩ := hrel
        have HB := Lib.hid hB
        by_cases hlt : j < 12
        · have hjI : (j : Int) < 12 := by omega
          have R0 := dread_ok hD (k := j) (by rw [HC.out.n_]; exact hlt)
          rw [HG.out] at R0
          have R := Lib.hid R0
          have HD := Lib.hid hD
          have HL := Lib.hid hL
          clear R0 hD hL hB
          go_upto_region 20 with ((with_reducible refine Calls.mono R.out ?_); rintro e w3 ⟨g3, rfl, hx3, hg3, hb3⟩)
          have hB3 := HB.out.trans (hb3.mono HB.out.size)
          have hL3 := HL.out.below hb3
          have hD3 := HD.out.below hb3 (Nat.le_refl _)
          have hbl := hL3.blk.frees
          have hbc := hL3.blk.cell j
          obtain ⟨Aj, mj, cj, ej, hbs, -⟩ := hL3.at_ j hlt
          rw [ej] at hbc
          have hlenj := hbs.1
          have hxs := hx3.bs0 0 256 256 (Nat.zero_le _) (Nat.le_refl _) (by omega) (by have := hasD_len hD3 (k := j) (by rw [HC.out.n_]; exact hlt); exact this)
          have HB3 := Lib.hid hB3
          have HL3 := Lib.hid hL3
          have HD3 := Lib.hid hD3
          clear R hb3 hB3 hL3 hD3 HB HL HD ej hx3
          by_cases h0 : mj = 0
          · subst h0
            have hz : hasD s j = z256 := by
              rw [HC.out.has_, if_pos (List.eq_nil_of_length_eq_zero hlenj)]
              rfl
            rw [hz] at hxs
            have hmk := make_256
            have hb4 := (Below.refl w3.heap.size w3).alloc (Nat.le_refl _) (.cells (bvs z256).toArray 5)
            have S0 := same_any (hxs.below hb4 (Nat.le_refl _)) ((Blk.new w3 5 (bvs z256)).bs0 0 256 256 (Nat.zero_le _) (Nat.le_refl _) (by omega) z256_len)
            rw [decide_eq_true rfl] at S0
            have S := Lib.hid S0
            have HB4 := Lib.hid (HB3.out.trans (hb4.mono HB3.out.size))
            have HL4 := Lib.hid (HL3.out.below hb4)
            have HD4 := Lib.hid (HD3.out.below hb4 (Nat.le_refl _))
            clear S0 hb4 HB3 HL3 HD3 hz hxs hbs hlenj
            go_upto_region 18 with ((with_reducible refine Calls.mono S.out ?_); rintro e w4 ⟨rfl, q4, hw4⟩)
            subst hw4
            have HB5 := Lib.hid (below_drewN HB4.out q4)
            have HL5 := Lib.hid (HL4.out.below (below_drewN (Below.refl _ _) q4))
            have HD5 := Lib.hid (HD4.out.drewN q4)
            clear HB4 HL4 HD4 S hbl hbc
            go_wp2
            go_roundw
            case rel => exact ⟨j + 1, by omega, by norm_cast, HD5.out, HL5.out, HB5.out⟩
            case measure => simp only [intOf]; omega
          · have hz : hasD s j = ll j := by
              rw [HC.out.has_, if_neg (by intro e; rw [e] at hlenj; exact h0 hlenj.symm)]
            rw [hz] at hxs
            have S0 := same_any hxs hbs
            rw [decide_eq_true rfl] at S0
            have S := Lib.hid S0
            have h1 : ¬ ((mj : Int) = 0) := by omega
            clear S0 hz hxs hbs hlenj
            go_upto_region 18 with ((with_reducible refine Calls.mono S.out ?_); rintro e w4 ⟨rfl, q4, hw4⟩)
            subst hw4
            have HB5 := Lib.hid (below_drewN HB3.out q4)
            have HL5 := Lib.hid (HL3.out.below (below_drewN (Below.refl _ _) q4))
            have HD5 := Lib.hid (HD3.out.drewN q4)
            clear HB3 HL3 HD3 S hbl hbc
            go_wp2
            go_roundw
            case rel => exact ⟨j + 1, by omega, by norm_cast, HD5.out, HL5.out, HB5.out⟩
            case measure => simp only [intOf]; omega
        · obtain rfl : j = 12 := by omega
          have W0 := dpower_any hD (fun k hk => by have := HC.out.cnt k; omega) (lo := 0) (m := 0) (c := 0) (A := none) (ps := []) (by exact Rd.nil_) rfl (by omega) (fun h => absurd h (by omega))
          rw [HG.out] at W0
          have W := Lib.hid W0
          have HD := Lib.hid hD
          have hp := power_all s []
          have hpn : (powerD s []).n = 12 := hp.1.trans HC.out.n_
          have HPn := Lib.hid hpn
          clear W0 hD hL hB hp hpn
          go_upto_region 27 with ((with_reducible refine Calls.mono W.out ?_); rintro e w3 ⟨rfl, d3, hc3⟩)
          have R0 := dread_ok hc3.dk (k := 3) (by rw [HPn.out]; omega)
          rw [hc3.g, HG.out, HC.out.gone] at R0
          push_cast at R0
          have R := Lib.hid R0
          have HD3 := Lib.hid hc3.dk
          have HG3 : Hid (d3.g = gd) := Lib.hid (hc3.g.trans HG.out)
          have HB3 := Lib.hid (HB.out.trans (hc3.bel HD.out))
          clear R0 hc3 W HD HB HG
          go_upto_region 28 with ((with_reducible refine Calls.mono R.out ?_); rintro e w4 ⟨g4, rfl, hx4, hg4, hb4⟩)
          have hmk := make_256
          have hxs := hx4.bs0 0 256 256 (Nat.zero_le _) (Nat.le_refl _) (by omega) z256_len
          have hb5 := (Below.refl w4.heap.size w4).alloc (Nat.le_refl _) (.cells (bvs z256).toArray 5)
          have S0 := same_any (hxs.below hb5 (Nat.le_refl _)) ((Blk.new w4 5 (bvs z256)).bs0 0 256 256 (Nat.zero_le _) (Nat.le_refl _) (by omega) z256_len)
          rw [decide_eq_true rfl] at S0
          have S := Lib.hid S0
          have hB4 := HB3.out.trans (hb4.mono HB3.out.size)
          have HB5 := Lib.hid (hB4.trans (hb5.mono hB4.size))
          have HD5 := Lib.hid ((HD3.out.below hb4 (Nat.le_refl _)).below hb5 (Nat.le_refl _))
          clear S0 hb5 hb4 hx4 hxs hB4 R HD3 HB3
          go_upto_region 29 with ((with_reducible refine Calls.mono S.out ?_); rintro e w5 ⟨rfl, q5, hw5⟩)
          subst hw5
          have HB6 := Lib.hid (below_drewN HB5.out q5)
          have HD6 := Lib.hid (HD5.out.drewN q5)
          clear HB5 HD5 S hmk
          generalize (w4.alloc (.cells (bvs z256).toArray 5)).drewN q5 = w5 at *
          have B := Lib.hid (byt_new 9 (k := 9) rfl w5)
          have hbld := build_deed
          go_upto_region 30 with ((with_reducible refine Calls.mono B.out ?_); rintro e w6 ⟨g6, rfl, hx6, hg6, hb6⟩)
          have hd6 := HD6.out.below hb6 (Nat.le_refl _)
          have W0 := dwrite_ok hd6 (k := 3) (by rw [HPn.out]; omega) (by rw [((power_all s []).2.2 3 (by rw [HC.out.n_]; omega)).1]; show 0 < _; omega) (hx6.bs0 0 256 256 (Nat.zero_le _) (Nat.le_refl _) (by omega) (dB_len 9)) (fun e => by have := (HD6.out.foot_base g6 e).2; omega)
          rw [HG3.out] at W0
          push_cast at W0
          have W := Lib.hid W0
          have hgl6 := hx6.lt
          have HX6 := Lib.hid hx6
          have HF6 : Hid (¬ d3.foot g6) := Lib.hid (fun e => by have := (HD6.out.foot_base g6 e).2; omega)
          have HB7 := Lib.hid (HB6.out.trans (hb6.mono HB6.out.size))
          have HD7 := Lib.hid hd6
          clear W0 hd6 hx6 hb6 hg6 B HB6 HD6 hbld
          go_upto_region 31 with ((with_reducible refine Calls.mono W.out ?_); rintro e w8 ⟨rfl, d8, hd8, hg8, hk8, hf8⟩)
          have R0 := dread_ok hd8 (k := 3) (by rw [show (writeD (powerD s []) 3 (dB 9)).n = 12 from by rw [write_new (power_all s []).2.1]; exact HPn.out]; omega)
          rw [hg8, HC.out.again] at R0
          push_cast at R0
          have R := Lib.hid R0
          have HX8 := Lib.hid (hk8.blk HX6.out HF6.out)
          have HB8 := Lib.hid (HB7.out.trans (Ch.bel ⟨hd8, hg8.trans HG3.out.symm, hk8, hf8⟩ HD7.out))
          have hgl8 : g6 < w8.heap.size := Nat.lt_of_lt_of_le hgl6 hk8.size
          clear R0 hd8 hg8 hk8 hf8 W HX6 HF6 HB7 HD7
          go_upto_region 32 with ((with_reducible refine Calls.mono R.out ?_); rintro e w9 ⟨g9, rfl, hx9, hg9, hb9⟩)
          have S0 := same_any (hx9.bs0 0 256 256 (Nat.zero_le _) (Nat.le_refl _) (by omega) (dB_len 9)) ((HX8.out.below hb9 hgl8).bs0 0 256 256 (Nat.zero_le _) (Nat.le_refl _) (by omega) (dB_len 9))
          rw [decide_eq_true rfl] at S0
          have S := Lib.hid S0
          have HB9 := Lib.hid (HB8.out.trans (hb9.mono HB8.out.size))
          clear S0 hx9 hb9 R HX8 HB8
          go_upto_region 33 with ((with_reducible refine Calls.mono S.out ?_); rintro e wa ⟨rfl, qa, hwa⟩)
          subst hwa
          have HBa := Lib.hid (below_drewN HB9.out qa)
          clear S HB9
          generalize w9.drewN qa = wa at *
          have LV := Lib.hid (lives8_any wa)
          go_wp2_with ((with_reducible refine Calls.mono LV.out ?_); rintro e wb ⟨rfl, hbb⟩)
          go_ret
          exact ⟨rfl, HBa.out.trans (hbb.mono HBa.out.size)⟩
end Go.Proofs.Ytnclebnodkkgnaa
