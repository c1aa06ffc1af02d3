/- The statement CacheLater: its walk. No condition. -/
import Derived.Test.YtjndopmjlbhajaaCaQ
namespace Go.Proofs.Ytjndopmjlbhajaa
open Go.RowKit Go.Maps
set_option linter.unusedSimpArgs false
set_option linter.unusedVariables false

theorem sizeDc : (Try.prog.info? 37).map (·.size) = some 5 := by kernel_rfl
theorem zeroDc (w : World) : (zeroValue 37).run Try.prog w = .ok (.agg #[.int .i64 0, .int .i64 0, .int .i64 0, .slice none 0 0, .slice none 0 0]) w := by kernel_rfl
theorem later_dirty : dirtyL (newD 60) = [] := by
  unfold dirtyL
  rw [List.filter_eq_nil_iff]
  intro k _ h
  cases h
/-- what a round holds -/
def LS (w wr : World) (base gd kg : Nat) : Prop := ∃ (d : Dw) (k : Cw) (s : Ca), CD wr base d k (newD 60) s ∧ CaOk 60 s ∧ d.g = gd ∧ k.g = kg ∧ Below base w wr
set_option maxRecDepth 100000 in
set_option maxHeartbeats 8000000 in
theorem later_any {A : Option Addr} {n c : Nat} {f : Nat → Dc} {w : World} (hd : Dcs w A n f) (hn : n ≤ 4611686018427387904) :
    Calls Try.prog 5 #[.slice A n c] w fun e w' => e = .returned (.bool true) ∧ Below w.heap.size w w' := by
  have D0 := dnew_ok 60 (by omega) w
  push_cast at D0
  have D := Lib.hid D0
  have HDs := Lib.hid hd
  have hzd := zeroDc
  clear D0 hd
  go_enter Try.func5, Try.ntmps5
  go_upto_region 4 with ((with_reducible refine Calls.mono D.out ?_); rintro e w1 ⟨d, rfl, hd1, hb1⟩)
  have N0 := cnew_ok hd1 hb1.size (room := 3) (by omega) (by omega)
  push_cast at N0
  have N := Lib.hid N0
  have HB1 := Lib.hid hb1
  clear N0 hd1 hb1 D
  go_upto_region 7 with ((with_reducible refine Calls.mono N.out ?_); rintro e w2 ⟨k, rfl, hcd2, hb2⟩)
  obtain ⟨gd, hgd⟩ : ∃ z, z = d.g := ⟨_, rfl⟩
  obtain ⟨kg, hkg⟩ : ∃ z, z = k.g := ⟨_, rfl⟩
  rw [← hgd, ← hkg]
  have HI : Hid (LS w w2 w.heap.size gd kg) := Lib.hid ⟨d, k, _, hcd2, new_ok ⟨by omega, by omega⟩, hgd.symm, hkg.symm, HB1.out.trans (hb2.mono HB1.out.size)⟩
  clear hcd2 hb2 N HB1 hgd hkg
  go_wp2
  go_loopw [7] (fun s7 wr => ∃ i : Nat, i ≤ n ∧ s7 = .int .i64 i ∧ LS w wr w.heap.size gd kg) (fun s7 _ => n - (intOf s7).toNat)
  case atStart => exact ⟨0, by omega, rfl, HI.out⟩
  case round =>
    clear HI
    obtain ⟨i, hi, rfl, d, k, s, hC, hO, hgd, hkg, hB⟩ := hrel
    have HC := Lib.hid hC
    have HO := Lib.hid hO
    have HGd := Lib.hid hgd
    have HKg := Lib.hid hkg
    have HB := Lib.hid hB
    clear hC hO hgd hkg hB
    by_cases hlt : i < n
    · obtain ⟨b, o, rfl, _, hbl, hrg⟩ := rd_elem (k := 5) HDs.out.rd (fun _ _ => rfl) (by omega) hlt
      have hok := HDs.out.ok i hlt
      have hrw := range_kept hrg (HB.out.block b hbl)
      obtain ⟨x, hx⟩ : ∃ x, x = f i := ⟨_, rfl⟩
      rw [← hx] at hrw hok
      have HRg := Lib.hid hrw
      have HOk := Lib.hid hok
      clear hrg hok hrw hx
      have HN : Hid (Blk (wr.alloc (.cells #[.int .i64 0, .int .i64 0, .int .i64 0, .slice none 0 0, .slice none 0 0] 37)) wr.heap.size 37 [.int .i64 0, .int .i64 0, .int .i64 0, .slice none 0 0, .slice none 0 0]) := Lib.hid (Blk.new wr _ [.int .i64 0, .int .i64 0, .int .i64 0, .slice none 0 0, .slice none 0 0])
      go_upto_region 11 with (first
        | (((with_reducible refine wpList_load_mid (op := ⟨some 41, _, _, _, _, _⟩) ?_ 37 (.tmp 40) ?_ b (o + i * 5) ?_ (dcc x) _ ?_ Try.underlying37 ?_ ?_ ?_); rfl; rfl; (first | rfl | (go_simp; rfl)); exact HRg.out; rfl; (rw [sizeDc]; rfl)))
        | (((with_reducible refine row_put (o := ⟨none, _, _, _, _, _⟩) ?_ ?_ 37 (.tmp 8) (.tmp 41) ?_ wr.heap.size ?_ (dcc x) ?_ 37 [.int .i64 0, .int .i64 0, .int .i64 0, .slice none 0 0, .slice none 0 0] ?_ ?_ ?_ ?_ ?_); rfl; rfl; rfl; rfl; rfl; exact HN.out; (rw [sizeDc]; rfl); rfl; (intro u hu; simp [dcc] at hu; rcases hu with rfl | rfl | rfl | rfl | rfl <;> rfl); (intro w9 X9 g9))))
      have hb9 : Below wr.heap.size wr w9 := ((Below.refl _ _).alloc (Nat.le_refl _) _).grown g9 (by simp) (by intro k hk; cases hk; exact Nat.le_refl _)
      obtain ⟨g8, hg8⟩ : ∃ g, g = wr.heap.size := ⟨_, rfl⟩
      have X9b := X9.out
      rw [← hg8] at X9b
      rw [← hg8]
      have hnf : ¬ footC d k g8 := fun y => by have := (HC.out.foot_base _ y).2; omega
      have HC9 := Lib.hid (HC.out.below hb9 (Nat.le_refl _))
      have HB9 := Lib.hid (HB.out.trans (hb9.mono HB.out.size))
      have P0 := pick13_any x.K HOk.out.k (n := 2) (by omega) (by omega) w9
      have hkl := pickN_lt x.K (n := 2) (by omega)
      obtain ⟨kd, hkd⟩ : ∃ kd, kd = pickN x.K 2 := ⟨_, rfl⟩
      rw [← hkd] at P0 hkl
      push_cast at P0
      have HPk := Lib.hid P0
      have xc0 := X9b.cell 0
      have xc1 := X9b.cell 1
      have xc2 := X9b.cell 2
      have xc3 := X9b.cell 3
      simp only [dcc, List.getElem?_cons_zero, List.getElem?_cons_succ] at xc0 xc1 xc2 xc3
      have hbd : Bs w9 0 x.bA x.b.length x.bc x.b := (HOk.out.b.below HB9.out (Nat.le_refl _))
      have hoff : 0 < x.b.length → ∀ b, ablk x.bA = some b → ¬ hardC d k b := fun hm b e y => by
        obtain ⟨b', o', e2, _, h4⟩ := HOk.out.b.at_ hm
        rw [e2] at e; injection e with e; have e : b' = b := e
        have := (HC.out.foot_base b (hard_foot y)).1
        omega
      have G0 := get_any_c HC9.out (HO.out) (z := x.N)
      have Q0 := put_any_c HC9.out (HO.out) (z := x.N) (kd := x.kd) HOk.out.n hbd hoff
      rw [HKg.out] at G0 Q0
      have G := Lib.hid G0
      have Q := Lib.hid Q0
      clear hkd P0 X9 X9b g9 hb9 hbd hoff G0 Q0 HC HB HRg HN hg8 hnf
      go_upto_if 45 with ((with_reducible refine Calls.mono HPk.out ?_); rintro e wa ⟨rfl, rfl⟩)
      go_cut [] (fun wx => LS w wx w.heap.size gd kg)
      case first =>
        by_cases hk0 : kd = 0
        · have hkI : ((kd : Int) == 0) = true := by rw [beq_iff_eq]; omega
          go_wp2_with ((with_reducible refine Calls.mono G.out ?_); rintro e w3 hG; obtain ⟨k3, A3, c3, rfl, hc3, ho3, hf3⟩ := hG)
          go_meet
          exact ⟨d, k3, _, hc3.cd, get_c_ok (t := newD 60) HO.out x.N, HGd.out, hc3.gk.trans HKg.out, HB9.out.trans (hc3.bel HC9.out)⟩
        · have hkI : ((kd : Int) == 0) = false := by rw [beq_eq_false_iff_ne]; omega
          go_wp2_with ((with_reducible refine Calls.mono Q.out ?_); rintro e w3 hQ; obtain ⟨rfl, k3, hc3⟩ := hQ)
          go_meet
          exact ⟨d, k3, _, hc3.cd, put_ca_ok (t := newD 60) HO.out, HGd.out, hc3.gk.trans HKg.out, HB9.out.trans (hc3.bel HC9.out)⟩
      case rest =>
        obtain ⟨d4, k4, s4, hC, hO, hgd, hkg, hB⟩ := hcut
        have L0 := dirty_any hC.dk
        rw [later_dirty, hgd] at L0
        have L := Lib.hid L0
        have HJ : Hid (∀ W, Below wc.heap.size wc W → LS w W w.heap.size gd kg) := Lib.hid fun W hb => ⟨d4, k4, s4, hC.below hb (Nat.le_refl _), hO, hgd, hkg, hB.trans (hb.mono hB.size)⟩
        clear L0 hC hO hgd hkg hB HO HGd HKg HC9 HB9 xc0 xc1 xc2 xc3 G Q HPk hkl
        go_wp2_with ((with_reducible refine Calls.mono L.out ?_); rintro e w6 ⟨A6, c6, rfl, ho6, hb6⟩)
        go_roundw
        case rel => exact ⟨i + 1, by omega, by norm_cast, HJ.out _ hb6⟩
        case measure => simp only [intOf]; omega
    · obtain rfl : i = n := by omega
      have E0 := cdirty_any HC.out
      rw [HKg.out] at E0
      obtain ⟨L, hL⟩ : ∃ L, L = dirtyN (newD 60).n s := ⟨_, rfl⟩
      rw [← hL] at E0
      have E := Lib.hid E0
      have HL := Lib.hid hL
      clear E0 hL hlt hzd
      go_upto_region 17 with ((with_reducible refine Calls.mono E.out ?_); rintro e w3 ⟨A3, c3, rfl, ho3, hb3⟩)
      have hC3 := HC.out.below hb3 (Nat.le_refl _)
      have F0 := flush_any_c hC3 (show CaOk (newD 60).n s from HO.out) (fun j hj => by show 0 < _; omega)
      rw [HKg.out] at F0
      have F := Lib.hid F0
      have HC3 := Lib.hid hC3
      have HO3 := Lib.hid ho3
      have HB3 := Lib.hid (HB.out.trans (hb3.mono HB.out.size))
      have hA3 : ∀ b, ablk A3 = some b → ¬ hardC d k b := fun b e y => by
        have h1 := (ho3.blk e).1
        have h2 := (HC.out.foot_base b (hard_foot y)).2
        omega
      have HA3 := Lib.hid hA3
      clear F0 hC3 ho3 hb3 hA3 E
      go_upto_region 19 with ((with_reducible refine Calls.mono F.out ?_); rintro e w4 ⟨rfl, d4, k4, hc4⟩)
      have ho4 := own_kept HO3.out hc4.K HA3.out
      have L0 := dirty_any hc4.cd.dk
      have hfd : dirtyL (flushC (newD 60) s).1 = L := by rw [flush_dirty rfl (fun _ => rfl)]; exact HL.out.symm
      rw [hfd, hc4.gd, HGd.out] at L0
      have DL := Lib.hid L0
      have HC4 := Lib.hid hc4
      have HO4 := Lib.hid ho4
      have HB4 := Lib.hid (HB3.out.trans (hc4.bel HC3.out))
      have hll : L.length ≤ 4611686018427387904 := by rw [HL.out]; exact Nat.le_trans (List.length_filter_le _ _) (by rw [List.length_range]; show 60 ≤ _; omega)
      clear L0 hfd hc4 ho4 F HC3 HO3
      go_upto_region 20 with (first
        | ((with_reducible refine Calls.mono DL.out ?_); rintro e w5 ⟨A5, c5, rfl, ho5, hb5⟩; have N0 := numbers13_any ho5 (HO4.out.below hb5 (Nat.le_refl _)) rfl hll)
        | ((with_reducible refine Calls.mono N0 ?_); rintro e w6 ⟨rfl, q6, hw6⟩))
      subst hw6
      have hb6 : Below w4.heap.size w4 (w5.drewN q6) := below_drewN hb5 q6
      have hC6 := HC4.out.cd.below hb6 (Nat.le_refl _)
      have E0 := cdirty_any hC6
      have hfc : dirtyN (flushC (newD 60) s).1.n (flushC (newD 60) s).2 = [] := by
        rw [(flushC_ok (t := newD 60) HO.out).2.1]
        exact flush_clean (t := newD 60) HO.out
      rw [hfc, HC4.out.gk, HKg.out] at E0
      have E := Lib.hid E0
      have HB6 := Lib.hid (HB4.out.trans (hb6.mono HB4.out.size))
      clear E0 hfc hC6 hb6 ho5 hb5 N0 HC4 HO4 HB4 DL hll
      have HLv : Hid (∀ W, Calls Try.prog 15 #[] W fun e w' => e = .returned (.bool true) ∧ Below W.heap.size W w') := Lib.hid lives13_any
      go_wp2_with (first
        | ((with_reducible refine Calls.mono E.out ?_); rintro e w7 ⟨A7, c7, rfl, ho7, hb7⟩)
        | ((with_reducible refine Calls.mono (HLv.out _) ?_); rintro e w8 ⟨rfl, hb8⟩))
      go_ret
      have h7 := HB6.out.trans (hb7.mono HB6.out.size)
      exact ⟨rfl, h7.trans (hb8.mono h7.size)⟩
end Go.Proofs.Ytjndopmjlbhajaa
