/- The statement DiskElse: its walk. Condition: fewer than 2^38 deeds. -/
import Derived.Test.YtnclebnodkkgnaaDkHad
namespace Go.Proofs.Ytnclebnodkkgnaa
open Go.RowKit Go.Maps
set_option linter.unusedSimpArgs false
set_option linter.unusedVariables false

theorem D8s.below {w w' : World} {A : Option Addr} {n : Nat} {f : Nat → D8} (h : D8s w A n f) (hb : Below w.heap.size w w') : D8s w' A n f :=
  ⟨h.rd.below hb (Nat.le_refl _), fun i hi => (h.ok i hi).below hb (h.ok i hi).lt⟩
theorem mul_fill (fl : UInt8) : pickN ((fl.toNat : Int) * 8) 2048 = fl.toNat * 8 := by
  have := UInt8.toNat_lt fl
  unfold pickN
  rw [if_neg (by omega)]
  omega
set_option maxRecDepth 100000 in
set_option maxHeartbeats 8000000 in
theorem delse_any {A : Option Addr} {n c : Nat} {f : Nat → D8} {x : D8} {w : World} (hd : D8s w A n f) (hn : n ≤ 1048576) (hx : D8Ok w x) :
    Calls Try.prog 8 #[.slice A n c, .agg (d8c x).toArray] w fun e w' => e = .returned (.bool true) ∧ Below w.heap.size w w' := by
  have hN := Blk.new w 48 (d8c x)
  have hB : Below w.heap.size w (w.alloc (.cells (d8c x).toArray 48)) := (Below.refl _ _).alloc (Nat.le_refl _) _
  have HN := Lib.hid hN
  have HB := Lib.hid hB
  have HX := Lib.hid hx
  have HDs := Lib.hid (hd.below hB)
  clear hN hB hx hd
  go_enter Try.func8, Try.ntmps8
  go_upto_region 1 with fail
  refine wp_world (fun U => Blk U w.heap.size 48 (d8c x) ∧ Below w.heap.size w U ∧ D8s U A n f) ⟨HN.out, HB.out, HDs.out⟩ ?_
  obtain ⟨gx, hgx⟩ : ∃ gx, gx = w.heap.size := ⟨_, rfl⟩
  rw [← hgx]
  clear HN HB HDs
  rintro U ⟨hX, hB, hd⟩
  have hgU : gx < U.heap.size := hX.lt
  have HGx := Lib.hid hgx
  have HBx := Lib.hid hX
  have HB0 := Lib.hid hB
  have HDs := Lib.hid hd
  have D0 := dnew_ok 12 (by omega) U
  push_cast at D0
  have D := Lib.hid D0
  clear hX hB hd D0 hgx
  go_upto_region 2 with ((with_reducible refine Calls.mono D.out ?_); rintro e w1 ⟨d0, rfl, hd1, hb1⟩)
  have R0 := rnew_ok 12 (by omega) w1
  push_cast at R0
  have R := Lib.hid R0
  have HD1 := Lib.hid hd1
  have HB1 := Lib.hid hb1
  clear R0 hd1 hb1 D
  go_upto_region 3 with ((with_reducible refine Calls.mono R.out ?_); rintro e w2 ⟨r0, rfl, hr2, hb2⟩)
  have HT := Lib.hid (Two.mk (HD1.out.below hb2 (Nat.le_refl _)) hr2 HB1.out.size)
  have HB := Lib.hid (HB1.out.trans (hb2.mono HB1.out.size))
  obtain ⟨gd, hgd⟩ : ∃ gd, gd = d0.g := ⟨_, rfl⟩
  obtain ⟨gr, hgr⟩ : ∃ gr, gr = r0.g := ⟨_, rfl⟩
  obtain ⟨br, hbr⟩ : ∃ br, br = w1.heap.size := ⟨_, rfl⟩
  rw [← hbr] at HT
  rw [← hgd, ← hgr]
  have HGd := Lib.hid hgd
  have HGr := Lib.hid hgr
  clear hr2 hb2 R HD1 HB1 hgd hgr hbr
  go_wp2
  go_loopw [9] (fun s9 wr => ∃ (i : Nat) (d : Dw) (r : Rw), i ≤ n ∧ s9 = .int .i64 i ∧ Two wr U.heap.size br d r (sfo (newD 12) f i) (tfo (newD 12) f i) ∧ d.g = gd ∧ r.g = gr ∧ Below U.heap.size U wr) (fun s9 _ => n - (intOf s9).toNat)
  case atStart => exact ⟨0, d0, r0, by omega, rfl, HT.out, HGd.out.symm, HGr.out.symm, HB.out⟩
  case round =>
    clear HT HB
    obtain ⟨i, d, r, hi, rfl, hT, hg1, hg2, hB⟩ := hrel
    have hR := rel_fo (rel_new 12) f i (by omega)
    rw [Nat.zero_add] at hR
    have HT := Lib.hid hT
    have HR := Lib.hid hR
    have HG1 := Lib.hid hg1
    have HG2 := Lib.hid hg2
    have HB := Lib.hid hB
    clear hT hR hg1 hg2 hB
    by_cases hlt : i < n
    · obtain ⟨b, o, rfl, _, hbl, hrg⟩ := rd_elem (k := 6) HDs.out.rd (fun _ _ => rfl) (by omega) hlt
      have hok := HDs.out.ok i hlt
      have hrw := range_kept hrg (HB.out.block b hbl)
      have D0 := does_any HT.out HR.out (by omega) (hok.below HB.out hok.lt) hok.lt
      rw [HG1.out, HG2.out] at D0
      have D := Lib.hid D0
      have HRg := Lib.hid hrw
      clear D0 hrg hrw hok
      go_upto_region 7 with (first
        | (((with_reducible refine wpList_load_mid (op := ⟨some 47, _, _, _, _, _⟩) ?_ 48 (.tmp 46) ?_ b (o + i * 6) ?_ (d8c (f i)) _ ?_ Try.underlying48 ?_ ?_ ?_); rfl; rfl; (first | rfl | (go_simp; rfl)); exact HRg.out; rfl; (rw [sizeDeed]; rfl)))
        | ((with_reducible refine Calls.mono D.out ?_); rintro e w3 ⟨rfl, d3, r3, hT3, hg3, hg4, hb3⟩))
      have HT3 := Lib.hid hT3
      have HB3 := Lib.hid (HB.out.trans hb3)
      clear hT3 hb3 D HRg HT HR HB
      go_wp2
      go_roundw
      case rel => exact ⟨i + 1, d3, r3, by omega, by norm_cast, HT3.out, hg3, hg4, HB3.out⟩
      case measure => simp only [intOf]; omega
    · obtain rfl : i = n := by omega
      clear hlt
      obtain ⟨S, hS⟩ : ∃ S, S = sfo (newD 12) f i := ⟨_, rfl⟩
      rw [← hS] at HT HR
      have hSn : S.n = 12 := by rw [hS, sfo_n]; rfl
      have hcnt : ∀ k, k < S.n → (S.vers k).length < 549755813887 := fun k hk => by have := HR.out.cnt k hk; omega
      have HSn := Lib.hid hSn
      have HC := Lib.hid hcnt
      have HD := Lib.hid HT.out.dk
      have HBw := Lib.hid HB.out
      clear hS hSn hcnt HT HR HB
      go_wp2
      go_loopw [10, 11, 12, 13] (fun s10 s11 _ _ wr2 => ∃ (j : Nat) (Ah : Option Addr) (ch : Nat) (vs : List Value) (ll : Nat → List UInt8), j ≤ 12 ∧ s11 = .int .i64 j ∧ s10 = .slice Ah j ch ∧
        HadI wr2 d U.heap.size Ah j ch vs ll ∧ Dk wr2 U.heap.size d S ∧ Below U.heap.size U wr2) (fun _ s11 _ _ _ => 12 - (intOf s11).toNat)
      case atStart => exact ⟨0, none, 0, [], fun _ => [], by omega, rfl, rfl, HadI.nil_ _ _ _ _, HD.out, HBw.out⟩
      case round =>
        clear HD HBw
        rename World => wr2
        obtain ⟨j, Ah, ch, vs, ll, hj, rfl, rfl, hH, hD, hB⟩ := hrel
        have HH := Lib.hid hH
        have HD := Lib.hid hD
        have HB := Lib.hid hB
        clear hH hD hB
        by_cases hlt : j < 12
        · have hjI : (j : Int) < 12 := by omega
          have R0 := dread_ok HD.out (k := j) (by rw [HSn.out]; exact hlt)
          rw [HG1.out] at R0
          have R := Lib.hid R0
          clear R0
          go_upto_region 14 with ((with_reducible refine Calls.mono R.out ?_); rintro e w3 ⟨g3, rfl, hx3, hg3, hb3⟩)
          have hl3 := hasD_len HD.out (k := j) (by rw [HSn.out]; exact hlt)
          have hH3 := HH.out.below hb3
          have hD3 := HD.out.below hb3 (Nat.le_refl _)
          have hB3 := HB.out.trans (hb3.mono HB.out.size)
          have hf3 : ¬ d.foot g3 := fun y => by have := (HD.out.foot_base _ y).2; omega
          have hb4 := (Below.refl w3.heap.size w3).alloc (Nat.le_refl _) (.cells #[.slice (some ⟨g3, 0, none⟩) 256 256] 33)
          have HH4 := Lib.hid (hH3.below hb4)
          have HD4 := Lib.hid (hD3.below hb4 (Nat.le_refl _))
          have HX4 := Lib.hid (hx3.below hb4 hx3.lt)
          have HB4 := Lib.hid (hB3.trans (hb4.mono hB3.size))
          have HF4 := Lib.hid hf3
          have HL4 := Lib.hid hl3
          have hz4 := HB4.out.size
          clear hl3 hH3 hD3 hB3 hf3 hb4 hb3 hx3 R HH HD HB
          go_upto_region 12 with (at_builtin; refine wpList_app rfl (.tmp 59) (.tmp 61) 22 rfl 33 1 Try.underlying22 info33h rfl (by omega) rfl HH4.out.own rfl (rd_one (.slice (some ⟨g3, 0, none⟩) 256 256) 33 rfl) rfl (one_slc _ _ _) (by omega) (by omega) hz4 ?_; intro A5 c5 w5 ho5 hg5 hf5)
          obtain ⟨hH5, hD5⟩ := HH4.out.snoc HD4.out HX4.out HL4.out HF4.out ho5 hg5 hf5
          have hB5 := below_own HB4.out HH4.out.own hg5 (Nat.le_refl _) HB4.out.size
          have HH5 := Lib.hid hH5
          have HD5 := Lib.hid hD5
          have HB5 := Lib.hid hB5
          clear hH5 hD5 hB5 ho5 hg5 hf5 HH4 HD4 HX4 HB4 HF4 HL4 hz4
          go_wp2
          go_roundw
          case rel => exact ⟨j + 1, A5, c5, _, _, by omega, by norm_cast, rfl, HH5.out, HD5.out, HB5.out⟩
          case measure => simp only [intOf]; omega
        · obtain rfl : j = 12 := by omega
          clear hlt
          have W0 := dpower_any HD.out HC.out (lo := 0) (m := 0) (c := 0) (A := none) (ps := []) (by exact Rd.nil_) rfl (by omega) (fun h => absurd h (by omega))
          rw [HG1.out] at W0
          have W := Lib.hid W0
          obtain ⟨S1, hS1⟩ : ∃ z, z = powerD S [] := ⟨_, rfl⟩
          have hp := power_all S []
          rw [← hS1] at hp W
          have HPn : Hid (S1.n = 12) := Lib.hid (hp.1.trans HSn.out)
          have HPv : Hid (∀ k, k < 12 → S1.vers k = []) := Lib.hid (fun k hk => (hp.2.2 k (by rw [HSn.out]; exact hk)).1)
          clear W0 hp hS1
          go_upto_region 16 with ((with_reducible refine Calls.mono W.out ?_); rintro e w3 ⟨rfl, d3, hc3⟩)
          have hg3 : d3.g = gd := hc3.g.trans HG1.out
          have HG3 := Lib.hid hg3
          have HH3 := Lib.hid (HH.out.ch hc3)
          have HB3 := Lib.hid (HB.out.trans (hc3.bel HD.out))
          have HD3 := Lib.hid hc3.dk
          obtain ⟨ah, rfl, -, -⟩ := HH.out.own.head (by omega)
          clear W hg3 hc3 HH HD HB HC
          go_wp2
          go_loopw [14, 15, 16] (fun s14 _ _ wr3 => ∃ (q : Nat) (vs : List Value) (ll : Nat → List UInt8), q ≤ 12 ∧ s14 = .int .i64 q ∧ (∀ k, k < q → ll k = hasD S1 k) ∧
            HadI wr3 d3 U.heap.size (some ⟨ah, 0, none⟩) 12 ch vs ll ∧ Dk wr3 U.heap.size d3 S1 ∧ Below U.heap.size U wr3) (fun s14 _ _ _ => 12 - (intOf s14).toNat)
          case atStart => exact ⟨0, _, _, by omega, rfl, fun k h => absurd h (by omega), HH3.out, HD3.out, HB3.out⟩
          case round =>
            clear HH3 HD3 HB3
            rename World => wr3
            obtain ⟨q, vs, ll, hq, rfl, hll, hH, hD, hB⟩ := hrel
            have HLl := Lib.hid hll
            have HH := Lib.hid hH
            have HD := Lib.hid hD
            have HB := Lib.hid hB
            clear hH hD hB hll
            by_cases hlt : q < 12
            · have hqI : (q : Int) < 12 := by omega
              have R0 := dread_ok HD.out (k := q) (by rw [HPn.out]; exact hlt)
              rw [HG3.out] at R0
              have R := Lib.hid R0
              clear R0
              go_upto_region 20 with ((with_reducible refine Calls.mono R.out ?_); rintro e w4 ⟨g4, rfl, hx4, hg4, hb4⟩)
              have hH4 := HH.out.below hb4
              have hD4 := HD.out.below hb4 (Nat.le_refl _)
              have hB4 := HB.out.trans (hb4.mono HB.out.size)
              have hf4 : ¬ d3.foot g4 := fun y => by have := (HD.out.foot_base _ y).2; omega
              have hl4 := hasD_len HD.out (k := q) (by rw [HPn.out]; exact hlt)
              obtain ⟨hH5, hD5⟩ := hH4.set_ hD4 hx4 hl4 hf4 hlt
              have hbe := hH4.own.blk (g := ah) rfl
              have hB5 := hB4.setCell (p := ⟨ah, q, none⟩) (show U.heap.size ≤ ah from hbe.1) (.slice (some ⟨g4, 0, none⟩) 256 256)
              have hca : ∃ v, w4.cell? ⟨ah, q, none⟩ = some v := by
                obtain ⟨g, e1, -, -, e2, -⟩ := hH4.own.cell (k := q) (by rw [hH4.own.len1]; exact hlt)
                injection e1 with e1
                injection e1 with e1
                subst e1
                exact ⟨_, e2⟩
              have hfr : w4.frozen? ⟨ah, q, none⟩ = false := by
                obtain ⟨g, e1, -, -, -, e2⟩ := hH4.own.cell (k := q) (by rw [hH4.own.len1]; exact hlt)
                injection e1 with e1
                injection e1 with e1
                subst e1
                exact e2
              obtain ⟨vo, hvo⟩ := hca
              have HH5 := Lib.hid hH5
              have HD5 := Lib.hid hD5
              have HB5 := Lib.hid hB5
              clear hH4 hD4 hB4 hf4 hl4 hx4 hg4 hb4 hbe hH5 hD5 hB5 R HH HD HB
              go_upto_region 18 with fail
              go_wp2
              go_roundw
              case rel => exact ⟨q + 1, _, _, by omega, by norm_cast, fun k hk => (by
                  by_cases e : k = q
                  · rw [if_pos e, e]
                  · rw [if_neg e]; exact HLl.out k (by omega)), HH5.out, HD5.out, HB5.out⟩
              case measure => simp only [intOf]; omega
            · obtain rfl : q = 12 := by omega
              clear hlt
              have hxb : gx < U.heap.size := hgU
              have hX3 := HBx.out.below HB.out hxb
              have c1 := hX3.cell 1
              have c2 := hX3.cell 2
              simp only [d8c, List.getElem?_cons_zero, List.getElem?_cons_succ] at c1 c2
              have P0 := pick8_any x.at_ HX.out.a (n := 12) (by omega) (by omega) wr3
              have hk12 := pickN_lt x.at_ (n := 12) (by omega)
              obtain ⟨k, hk⟩ : ∃ k, k = pickN x.at_ 12 := ⟨_, rfl⟩
              rw [← hk] at P0 hk12
              push_cast at P0
              have P := Lib.hid P0
              clear P0 hk
              go_upto_region 22 with ((with_reducible refine Calls.mono P.out ?_); rintro e wa ⟨rfl, rfl⟩)
              have hok := HX.out
              have B0 : Calls Try.prog 29 #[.agg (d8c x).toArray] wr3 _ := bytes8_any x.K x.at_ x.fl x.la x.sh x.pA x.pn x.pc hok.a wr3
              obtain ⟨m, hm⟩ : ∃ m, m = deedN x.at_ x.sh := ⟨_, rfl⟩
              obtain ⟨y, hy⟩ : ∃ y, y = deedB x.at_ x.fl x.la x.sh := ⟨_, rfl⟩
              have hyl : y.length = m := by rw [hy, hm]; exact deedB_len _ _ _ _
              have hm300 : m ≤ 300 := by rw [hm]; exact deedN_le _ _
              rw [← hm, ← hy] at B0
              have B := Lib.hid B0
              have hrw : wr3.rangeAt gx 0 (d8c x) := fun q v hv => by rw [Nat.zero_add, show wr3.cell? ⟨gx, q, none⟩ = _ from hX3.cell q]; exact hv
              have HRg := Lib.hid hrw
              have HYl := Lib.hid hyl
              have HX3 := Lib.hid hX3
              clear hok B0 hm hy hrw hyl hX3
              go_upto_region 23 with (first
                | (((with_reducible refine wpList_load_mid (op := ⟨some 84, _, _, _, _, _⟩) ?_ 48 (.tmp 3) ?_ gx 0 ?_ (d8c x) _ ?_ Try.underlying48 ?_ ?_ ?_); rfl; rfl; (first | rfl | (go_simp; rfl)); exact HRg.out; rfl; (rw [sizeDeed]; rfl)))
                | ((with_reducible refine Calls.mono B.out ?_); rintro e w5 ⟨g5, rfl, hx5, hg5, hb5⟩; have hD5 := HD.out.below hb5 (Nat.le_refl _); have hf5 : ¬ d3.foot g5 := (fun z => by have := (HD.out.foot_base _ z).2; omega); have W0 := d_write_at hD5 (k := k) (by rw [HPn.out]; exact hk12) (by rw [HPv.out k hk12]; show 0 < _; omega) hx5 HYl.out (by omega) hf5; rw [HG3.out] at W0)
                | ((with_reducible refine Calls.mono W0 ?_); rintro e w6 ⟨rfl, d6, hc6⟩))
              have hbU := HB.out.size
              have hb6 : Below U.heap.size U w6 := (HB.out.trans (hb5.mono hbU)).trans (hc6.bel hD5)
              have hH6 := (HH.out.below hb5).ch hc6
              have hX6 := HBx.out.below hb6 hgU
              have c2 := hX6.cell 2
              simp only [d8c, List.getElem?_cons_zero, List.getElem?_cons_succ] at c2
              have hS6n : (wrAt S1 k m y).n = 12 := by rw [wrAt_n]; exact HPn.out
              have hS6h : ∀ j, j < 12 → j ≠ k → hasD (rotD (wrAt S1 k m y) k (x.fl.toNat * 8)) j = ll j := fun j hj e => by rw [has_rot e, has_wrAt e, HLl.out j hj]
              have hS6v : ((wrAt S1 k m y).vers k).length < 549755813887 := by
                rcases (wrAt_vers S1 k k m y).2 with e | ⟨_, e⟩
                · rw [e, HPv.out k hk12]; show 0 < _; omega
                · rw [e, HPv.out k hk12]; show 1 < _; omega
              have hf2 := UInt8.toNat_lt x.fl
              have T0 := drot_any hc6.dk (k := k) (i := x.fl.toNat * 8) (by rw [hS6n]; exact hk12) (by omega) hS6v
              have hg6 : d6.g = gd := hc6.g.trans HG3.out
              rw [hg6] at T0
              have P0 := pick8_any ((x.fl.toNat : Int) * 8) (by omega) (n := 2048) (by omega) (by omega) w6
              rw [mul_fill] at P0
              push_cast at P0 T0
              rw [Int.mul_comm (k : Int) 2048] at T0
              obtain ⟨S7, hS7⟩ : ∃ z, z = rotD (wrAt S1 k m y) k (x.fl.toNat * 8) := ⟨_, rfl⟩
              rw [← hS7] at T0 hS6h
              have T := Lib.hid T0
              have P2 := Lib.hid P0
              have HS6 := Lib.hid hS6h
              have HS7 := Lib.hid hS7
              have HH6 := Lib.hid hH6
              have HB6 := Lib.hid hb6
              have HG6 := Lib.hid hg6
              have HD6 := Lib.hid hc6.dk
              obtain ⟨fl, hfl⟩ : ∃ z, z = x.fl.toNat := ⟨_, rfl⟩
              rw [← hfl] at T P2 c2 hf2
              have HFl := Lib.hid hfl
              clear T0 P0 hS6h hS6v hS7 hH6 hb6 hX6 hc6 hb5 hx5 hg5 hf5 hD5 W0 B P HH HB HD HX3 HRg HLl hfl c1 hg6 hbU
              go_upto_region 24 with (first
                | ((with_reducible refine Calls.mono P2.out ?_); rintro e wa ⟨rfl, rfl⟩)
                | ((with_reducible refine Calls.mono T.out ?_); rintro e w7 ⟨rfl, hc7⟩))
              have HH7 := Lib.hid (HH6.out.ch hc7)
              have HB7 := Lib.hid (HB6.out.trans (hc7.bel HD6.out))
              have HD7 := Lib.hid hc7.dk
              have HS7n : Hid (S7.n = 12) := Lib.hid (by rw [HS7.out]; exact hS6n)
              clear hc7 T P2 HH6 HB6 HD6 hS6n
              have hkI : (k : Int) < 12 := by omega
              go_wp2
              go_loopw [18, 19, 20, 21] (fun s18 _ _ _ wr4 => ∃ j : Nat, j ≤ 12 ∧ s18 = .int .i64 j ∧ HadI wr4 d6 U.heap.size (some ⟨ah, 0, none⟩) 12 ch vs ll ∧ Dk wr4 U.heap.size d6 S7 ∧ Below U.heap.size U wr4) (fun s18 _ _ _ _ => 12 - (intOf s18).toNat)
              case atStart => exact ⟨0, by omega, rfl, HH7.out, HD7.out, HB7.out⟩
              case round =>
                clear HH7 HD7 HB7
                rename World => wr4
                obtain ⟨j, hj, rfl, hH, hD, hB⟩ := hrel
                have HB := Lib.hid hB
                by_cases hlt : j < 12
                · have hjI : (j : Int) < 12 := by omega
                  have R0 := dread_ok hD (k := j) (by rw [HS7n.out]; exact hlt)
                  rw [HG6.out] at R0
                  have R := Lib.hid R0
                  have hl8 := hasD_len hD (k := j) (by rw [HS7n.out]; exact hlt)
                  have HL8 := Lib.hid hl8
                  have HH := Lib.hid hH
                  have HD := Lib.hid hD
                  clear R0 hH hD hB hl8
                  go_upto_region 28 with ((with_reducible refine Calls.mono R.out ?_); rintro e w8 ⟨g8, rfl, hx8, hg8, hb8⟩)
                  have hH8 := HH.out.below hb8
                  obtain ⟨gj, ej, hxj, hlj, -⟩ := hH8.at_ j hlt
                  have hcj : w8.cell? ⟨ah, j, none⟩ = some (.slice (some ⟨gj, 0, none⟩) 256 256) := by
                    obtain ⟨g, e1, -, -, e2, -⟩ := hH8.own.cell (k := j) (by rw [hH8.own.len1]; exact hlt)
                    injection e1 with e1
                    injection e1 with e1
                    subst e1
                    rw [e2, ← List.getElem?_eq_getElem, ej]
                  have S0 := same_any (hx8.bs0 0 256 256 (Nat.zero_le _) (Nat.le_refl _) (by omega) HL8.out) (hxj.bs0 0 256 256 (Nat.zero_le _) (Nat.le_refl _) (by omega) hlj)
                  have S := Lib.hid S0
                  have HH8 := Lib.hid hH8
                  have HD8 := Lib.hid (HD.out.below hb8 (Nat.le_refl _))
                  have HB8 := Lib.hid (HB.out.trans (hb8.mono HB.out.size))
                  clear S0 hx8 hxj ej hlj hH8 hb8 hg8 R HH HD HB
                  go_upto_region 29 with ((with_reducible refine Calls.mono S.out ?_); rintro e wa ⟨rfl, qa, hwa⟩)
                  subst hwa
                  have HH9 := Lib.hid (HH8.out.below (below_drewN (Below.refl _ _) qa))
                  have HD9 := Lib.hid (HD8.out.drewN qa)
                  have HB9 := Lib.hid (below_drewN HB8.out qa)
                  clear HH8 HD8 HB8 S hcj
                  by_cases ejk : j = k
                  · have ejI : (j : Int) = (k : Int) := by omega
                    subst ejk
                    go_wp2
                    go_roundw
                    case rel => exact ⟨j + 1, by omega, by norm_cast, HH9.out, HD9.out, HB9.out⟩
                    case measure => simp only [intOf]; omega
                  · have ejI : ¬ ((j : Int) = (k : Int)) := by omega
                    have heq : decide (hasD S7 j = ll j) = true := decide_eq_true (HS6.out j hlt ejk)
                    rw [heq]
                    clear heq
                    go_wp2
                    go_roundw
                    case rel => exact ⟨j + 1, by omega, by norm_cast, HH9.out, HD9.out, HB9.out⟩
                    case measure => simp only [intOf]; omega
                · obtain rfl : j = 12 := by omega
                  have LV := Lib.hid (lives8_any wr4)
                  clear hH hD hB hlt
                  go_wp2_with ((with_reducible refine Calls.mono LV.out ?_); rintro e wb ⟨rfl, hbb⟩)
                  go_ret
                  rw [HGx.out] at HB0
                  exact ⟨rfl, (HB0.out.trans (HB.out.mono HB0.out.size)).trans (hbb.mono (Nat.le_trans HB0.out.size HB.out.size))⟩
end Go.Proofs.Ytnclebnodkkgnaa
