/- The statement DiskAgain: its walk. Condition: fewer than 2^39 deeds. -/
import Derived.Test.YtnclebnodkkgnaaDkDoes
import Derived.Test.YtnclebnodkkgnaaDkCopy
namespace Go.Proofs.Ytnclebnodkkgnaa
open Go.RowKit Go.Maps
set_option linter.unusedSimpArgs false
set_option linter.unusedVariables false

theorem again_has (s : Dsk) (ps qs : List Int) {k : Nat} (hk : k < s.n) : hasD (powerD (powerD s ps) qs) k = hasD (copyD (powerD s ps)) k := by
  have h1 := power_all s ps
  have h2 := power_all (powerD s ps) qs
  have hk1 : k < (powerD s ps).n := by rw [h1.1]; exact hk
  have v1 := (h1.2.2 k hk).1
  have v2 := h2.2.2 k hk1
  rw [hasD_flat v2.1, hasD_flat (s := copyD (powerD s ps)) v1]
  rcases v2.2 with e | e
  · exact e
  · rw [v1] at e; cases e

set_option maxRecDepth 100000 in
set_option maxHeartbeats 8000000 in
theorem dagain_any {A A1 A2 : Option Addr} {n c m1 c1 m2 c2 : Nat} {f : Nat → D8} {ps qs : List Int} {w : World} (hd : D8s w A n f) (hn : n ≤ 1048576) (hp : Rd w 0 A1 (iz ps)) (hpl : ps.length = m1) (hpm : m1 ≤ 17592186044416) (hq : Rd w 0 A2 (iz qs)) (hql : qs.length = m2) (hqm : m2 ≤ 17592186044416) :
    Calls Try.prog 10 #[.slice A n c, .slice A1 m1 c1, .slice A2 m2 c2] w fun e w' => e = .returned (.bool true) ∧ Below w.heap.size w w' := by
  have D0 := dnew_ok 12 (by omega) w
  push_cast at D0
  have D := Lib.hid D0
  have HDs := Lib.hid hd
  have HPs := Lib.hid hp
  have HQs := Lib.hid hq
  have HPl := Lib.hid hpl
  have HQl := Lib.hid hql
  have HPm := Lib.hid hpm
  have HQm := Lib.hid hqm
  clear D0 hd hp hq hpl hql hpm hqm
  go_enter Try.func10, Try.ntmps10
  go_upto_region 2 with ((with_reducible refine Calls.mono D.out ?_); rintro e w1 ⟨d0, rfl, hd1, hb1⟩)
  have R0 := rnew_ok 12 (by omega) w1
  push_cast at R0
  have R := Lib.hid R0
  have HD1 := Lib.hid hd1
  have HB1 := Lib.hid hb1
  clear R0 hd1 hb1 D
  go_upto_region 3 with ((with_reducible refine Calls.mono R.out ?_); rintro e w2 ⟨r0, rfl, hr2, hb2⟩)
  have HT := Lib.hid (Two.mk (HD1.out.below hb2 (Nat.le_refl _)) hr2 HB1.out.size)
  have HB := Lib.hid (HB1.out.trans (hb2.mono HB1.out.size))
  obtain ⟨gd, hgd⟩ : ∃ gd, gd = d0.g := ⟨_, rfl⟩
  obtain ⟨gr, hgr⟩ : ∃ gr, gr = r0.g := ⟨_, rfl⟩
  obtain ⟨br, hbr⟩ : ∃ br, br = w1.heap.size := ⟨_, rfl⟩
  rw [← hbr] at HT
  rw [← hgd, ← hgr]
  have HGd := Lib.hid hgd
  have HGr := Lib.hid hgr
  clear hr2 hb2 R HD1 HB1 hgd hgr hbr
  go_wp2
  go_loopw [11] (fun s11 wr => ∃ (i : Nat) (d : Dw) (r : Rw) (s t : Dsk), i ≤ n ∧ s11 = .int .i64 i ∧ Two wr w.heap.size br d r s t ∧ Rel s t i ∧ d.g = gd ∧ r.g = gr ∧ s.n = 12 ∧ Below w.heap.size w wr) (fun s11 _ => n - (intOf s11).toNat)
  case atStart => exact ⟨0, d0, r0, _, _, by omega, rfl, HT.out, rel_new 12, HGd.out.symm, HGr.out.symm, rfl, HB.out⟩
  case round =>
    clear HT HB
    obtain ⟨i, d, r, s, t, hi, rfl, hT, hR, hg1, hg2, hn12, hB⟩ := hrel
    have HT := Lib.hid hT
    have HR := Lib.hid hR
    have HG1 := Lib.hid hg1
    have HG2 := Lib.hid hg2
    have H12 := Lib.hid hn12
    have HB := Lib.hid hB
    clear hT hR hg1 hg2 hn12 hB
    by_cases hlt : i < n
    · obtain ⟨b, o, rfl, _, hbl, hrg⟩ := rd_elem (k := 6) HDs.out.rd (fun _ _ => rfl) (by omega) hlt
      have hok := HDs.out.ok i hlt
      have hrw := range_kept hrg (HB.out.block b hbl)
      have D0 := does_any HT.out HR.out (by omega) (hok.below HB.out hok.lt) hok.lt
      rw [HG1.out, HG2.out] at D0
      have D := Lib.hid D0
      have HRg := Lib.hid hrw
      clear D0 hrg hrw hok
      go_upto_region 7 with (first
        | (((with_reducible refine wpList_load_mid (op := ⟨some 44, _, _, _, _, _⟩) ?_ 48 (.tmp 43) ?_ b (o + i * 6) ?_ (d8c (f i)) _ ?_ Try.underlying48 ?_ ?_ ?_); rfl; rfl; (first | rfl | (go_simp; rfl)); exact HRg.out; rfl; (rw [sizeDeed]; rfl)))
        | ((with_reducible refine Calls.mono D.out ?_); rintro e w3 ⟨rfl, d3, r3, hT3, hg3, hg4, hb3⟩))
      have HT3 := Lib.hid hT3
      have HB3 := Lib.hid (HB.out.trans hb3)
      have HR3 := Lib.hid (HR.out.do_ (by omega) (f i))
      have H123 : Hid ((sdo s (f i)).n = 12) := Lib.hid (by rw [sdo_n]; exact H12.out)
      clear hT3 hb3 D HRg HT HR HB
      go_wp2
      go_roundw
      case rel => exact ⟨i + 1, d3, r3, _, _, by omega, by norm_cast, HT3.out, HR3.out, hg3, hg4, H123.out, HB3.out⟩
      case measure => simp only [intOf]; omega
    · obtain rfl : i = n := by omega
      have hT := HT.out
      have P0 := dpower_any hT.dk (fun k hk => by have := HR.out.cnt k hk; omega) (c := c1) (HPs.out.below HB.out (Nat.le_refl _)) HPl.out (by have := HPm.out; omega) (fun h b e => hT.offD (rd_lt HPs.out HPl.out h b e))
      rw [HG1.out] at P0
      have P := Lib.hid P0
      obtain ⟨s1, hs1⟩ : ∃ z, z = powerD s ps := ⟨_, rfl⟩
      rw [← hs1] at P
      have hs1n : s1.n = 12 := by rw [hs1, (power_all s ps).1]; exact H12.out
      have hs1v : ∀ k, k < s1.n → (s1.vers k).length = 0 := fun k hk => by rw [hs1, ((power_all s ps).2.2 k (by rw [← (power_all s ps).1, ← hs1]; exact hk)).1]; rfl
      have HS1 := Lib.hid hs1
      have HS1n := Lib.hid hs1n
      have HS1v := Lib.hid hs1v
      clear P0 hT hs1 hs1n hs1v hlt
      go_upto_region 10 with ((with_reducible refine Calls.mono P.out ?_); rintro e w3 ⟨rfl, d3, hc3⟩)
      have hB3 := HB.out.trans (HT.out.belD hc3)
      have C0 := dcopy_any hc3.dk (fun k hk => by rw [HS1v.out k hk]; omega)
      have hg3 : d3.g = gd := hc3.g.trans HG1.out
      rw [hg3] at C0
      have C := Lib.hid C0
      have HD3 := Lib.hid hc3.dk
      have HB3 := Lib.hid hB3
      have HG3 := Lib.hid hg3
      clear C0 hc3 hB3 hg3 P HT HB
      go_upto_region 11 with ((with_reducible refine Calls.mono C.out ?_); rintro e w4 ⟨d4, rfl, hd4, hb4⟩)
      have hD4 := HD3.out.below hb4 (Nat.le_refl _)
      have hB4 := HB3.out.trans (hb4.mono HB3.out.size)
      have P0 := dpower_any hD4 (fun k hk => by rw [HS1v.out k hk]; omega) (c := c2) (HQs.out.below hB4 (Nat.le_refl _)) HQl.out (by have := HQm.out; omega) (fun h b e x => by
        have h1 := (hD4.foot_base b x).1
        have h2 := rd_lt HQs.out HQl.out h b e
        omega)
      rw [HG3.out] at P0
      have P := Lib.hid P0
      have HD4 := Lib.hid hD4
      have HC4 := Lib.hid hd4
      have HB4 := Lib.hid hB4
      have hoff : ∀ b, d3.foot b → b < w3.heap.size := fun b x => (HD3.out.foot_base b x).2
      have HOff := Lib.hid hoff
      clear P0 hd4 hD4 hB4 hb4 C HB3 hoff
      go_upto_region 12 with ((with_reducible refine Calls.mono P.out ?_); rintro e w5 ⟨rfl, d5, hc5⟩)
      have hC5 : Dk w5 w3.heap.size d4 (copyD s1) := HC4.out.kept hc5.K (fun b hb x => by
        have h1 := (HC4.out.foot_base b hb).1
        have h2 := HOff.out b x
        omega)
      have hB5 := HB4.out.trans (hc5.bel HD4.out)
      have HC5 := Lib.hid hC5
      have HD5 := Lib.hid hc5.dk
      have HG5 : Hid (d5.g = gd) := Lib.hid (hc5.g.trans HG3.out)
      have HB5 := Lib.hid hB5
      have H5n : Hid ((powerD s1 qs).n = 12) := Lib.hid (by rw [(power_all s1 qs).1]; exact HS1n.out)
      have H5h : Hid (∀ k, k < 12 → hasD (powerD s1 qs) k = hasD (copyD s1) k) := Lib.hid (fun k hk => by rw [HS1.out]; exact again_has s ps qs (by rw [H12.out]; exact hk))
      clear hc5 hC5 hB5 P HD3 HD4 HC4 HB4 HOff
      obtain ⟨gc, hgc⟩ : ∃ g, g = d4.g := ⟨_, rfl⟩
      rw [← hgc]
      have HGc := Lib.hid hgc
      clear hgc
      go_wp2
      go_loopw [13, 14, 15, 16, 17, 18] (fun s13 _ _ _ _ _ wr => ∃ j : Nat, j ≤ 12 ∧ s13 = .int .i64 j ∧ Dk wr w3.heap.size d4 (copyD s1) ∧ Dk wr w.heap.size d5 (powerD s1 qs) ∧ Below w.heap.size w wr) (fun s13 _ _ _ _ _ _ => 12 - (intOf s13).toNat)
      case atStart => exact ⟨0, by omega, rfl, HC5.out, HD5.out, HB5.out⟩
      case round =>
        clear HC5 HD5 HB5
        rename World => wr2
        obtain ⟨j, hj, rfl, hC, hD, hB⟩ := hrel
        by_cases hlt : j < 12
        · have hjI : (j : Int) < 12 := by omega
          have R0 := dread_ok hC (k := j) (by rw [show (copyD s1).n = s1.n from rfl, HS1n.out]; exact hlt)
          rw [← HGc.out] at R0
          have R := Lib.hid R0
          have HC := Lib.hid hC
          have HD := Lib.hid hD
          have HB := Lib.hid hB
          clear R0 hC hD hB
          go_upto_region 16 with ((with_reducible refine Calls.mono R.out ?_); rintro e w6 ⟨g6, rfl, hx6, hg6, hb6⟩)
          have hC6 := HC.out.below hb6 (Nat.le_refl _)
          have hD6 := HD.out.below hb6 (Nat.le_refl _)
          have R0 := dread_ok hD6 (k := j) (by rw [H5n.out]; exact hlt)
          rw [HG5.out, H5h.out j hlt] at R0
          have R2 := Lib.hid R0
          have hl6 := hasD_len hC6 (k := j) (by rw [show (copyD s1).n = s1.n from rfl, HS1n.out]; exact hlt)
          have HL6 := Lib.hid hl6
          have HX6 := Lib.hid hx6
          have hgl := hx6.lt
          have HC6 := Lib.hid hC6
          have HD6 := Lib.hid hD6
          have HB6 := Lib.hid (HB.out.trans (hb6.mono HB.out.size))
          clear R0 hC6 hD6 hl6 hx6 hb6 R HC HD HB
          go_upto_region 17 with ((with_reducible refine Calls.mono R2.out ?_); rintro e w7 ⟨g7, rfl, hx7, hg7, hb7⟩)
          have S0 := same_any ((HX6.out.below hb7 hgl).bs0 0 256 256 (Nat.zero_le _) (Nat.le_refl _) (by omega) HL6.out) (hx7.bs0 0 256 256 (Nat.zero_le _) (Nat.le_refl _) (by omega) HL6.out)
          rw [decide_eq_true rfl] at S0
          have S := Lib.hid S0
          have HC7 := Lib.hid (HC6.out.below hb7 (Nat.le_refl _))
          have HD7 := Lib.hid (HD6.out.below hb7 (Nat.le_refl _))
          have HB7 := Lib.hid (HB6.out.trans (hb7.mono HB6.out.size))
          clear S0 hx7 hb7 R2 HC6 HD6 HB6 HX6
          go_upto_region 14 with ((with_reducible refine Calls.mono S.out ?_); rintro e wa ⟨rfl, qa, hwa⟩)
          subst hwa
          have HC8 := Lib.hid (HC7.out.drewN qa)
          have HD8 := Lib.hid (HD7.out.drewN qa)
          have HB8 := Lib.hid (below_drewN HB7.out qa)
          clear HC7 HD7 HB7 S
          go_wp2
          go_roundw
          case rel => exact ⟨j + 1, by omega, by norm_cast, HC8.out, HD8.out, HB8.out⟩
          case measure => simp only [intOf]; omega
        · obtain rfl : j = 12 := by omega
          have LV := Lib.hid (lives8_any wr2)
          have HB := Lib.hid hB
          clear hC hD hB hlt
          go_wp2_with ((with_reducible refine Calls.mono LV.out ?_); rintro e wb ⟨rfl, hbb⟩)
          go_ret
          exact ⟨rfl, HB.out.trans (hbb.mono HB.out.size)⟩
end Go.Proofs.Ytnclebnodkkgnaa
