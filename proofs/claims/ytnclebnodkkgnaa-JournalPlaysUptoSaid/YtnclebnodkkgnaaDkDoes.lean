/- kistlaw08.does: a deed, of both disks. Conditions: fewer than 2^39 deeds; the picks lie outside the disks. -/
import Derived.Test.YtnclebnodkkgnaaDkDeeds
namespace Go.Proofs.Ytnclebnodkkgnaa
open Go.RowKit Go.Maps
set_option linter.unusedSimpArgs false
set_option linter.unusedVariables false

theorem sizeDeed : (Try.prog.info? 48).map (·.size) = some 6 := by kernel_rfl
set_option maxRecDepth 100000 in
set_option maxHeartbeats 16000000 in
theorem does_any {w : World} {bd br c : Nat} {d : Dw} {r : Rw} {s t : Dsk} (h : Two w bd br d r s t) (hR : Rel s t c) (hc : c ≤ 549755813880) {x : D8} (hx : D8Ok w x) (hp : 0 < x.pn → ∀ b, ablk x.pA = some b → b < bd) :
    Calls Try.prog 36 #[.pointer (some ⟨d.g, 0, none⟩), .pointer (some ⟨r.g, 0, none⟩), .agg (d8c x).toArray] w fun e w' => e = .returned (.bool true) ∧ ∃ d' r', Two w' bd br d' r' (sdo s x) (tdo t x) ∧ d'.g = d.g ∧ r'.g = r.g ∧ Below bd w w' := by
  have P0 := fun W => pick8_any x.K hx.k (n := 6) (by omega) (by omega) W
  have hkl := pickN_lt x.K (n := 6) (by omega)
  obtain ⟨kd, hkd⟩ : ∃ kd, kd = pickN x.K 6 := ⟨_, rfl⟩
  rw [← hkd] at P0 hkl
  push_cast at P0
  have P := Lib.hid P0
  have hsd : sdo s x = sdoK s x kd := by rw [hkd]; rfl
  have htd : tdo t x = tdoK t x kd := by rw [hkd]; rfl
  have hdo := hR.do_ (by omega) x
  rw [hsd, htd] at hdo
  rw [hsd, htd]
  have HN : Hid (Blk (w.alloc (.cells (d8c x).toArray 48)) w.heap.size 48 (d8c x)) := Lib.hid (Blk.new w _ (d8c x))
  have HB : Hid (Below w.heap.size w (w.alloc (.cells (d8c x).toArray 48))) := Lib.hid ((Below.refl _ _).alloc (Nat.le_refl _) _)
  have H := Lib.hid h
  have HR := Lib.hid hR
  have HDo := Lib.hid hdo
  have HX := Lib.hid hx
  have HP := Lib.hid hp
  clear P0 hkd hsd htd h hR hx hp hdo
  obtain ⟨s2, hs2⟩ : ∃ z, z = sdoK s x kd := ⟨_, rfl⟩
  obtain ⟨t2, ht2⟩ : ∃ z, z = tdoK t x kd := ⟨_, rfl⟩
  rw [← hs2, ← ht2]
  have HRel : Hid (Rel s2 t2 (c + 1)) := Lib.hid (by rw [hs2, ht2]; exact HDo.out)
  have HS2 := Lib.hid hs2
  have HT2 := Lib.hid ht2
  clear hs2 ht2 HDo
  obtain ⟨gd, hgd⟩ : ∃ gd, gd = d.g := ⟨_, rfl⟩
  obtain ⟨gr, hgr⟩ : ∃ gr, gr = r.g := ⟨_, rfl⟩
  rw [← hgd, ← hgr]
  have HGd := Lib.hid hgd
  have HGr := Lib.hid hgr
  clear hgd hgr
  go_enter Try.func36, Try.ntmps36
  go_upto_region 1 with fail
  refine wp_world (fun U => Blk U w.heap.size 48 (d8c x) ∧ Below w.heap.size w U) ⟨HN.out, HB.out⟩ ?_
  obtain ⟨gx, hgx⟩ : ∃ gx, gx = w.heap.size := ⟨_, rfl⟩
  rw [← hgx]
  clear HN HB
  rintro U ⟨hX, hB⟩
  have hT := H.out.below (by rw [hgx] at hB; exact hB)
  have hB1 : Below bd w U := hB.mono (by rw [hgx]; exact H.out.base)
  have hx2 : D8Ok U x := HX.out.below hB1 HP.out
  have c0 := hX.cell 0
  have c1 := hX.cell 1
  have c5 := hX.cell 5
  simp only [d8c, List.getElem?_cons_zero, List.getElem?_cons_succ] at c0 c1 c5
  have hgn := hX.lt
  have hg1 : ¬ d.foot gx := H.out.newD (Nat.le_of_eq hgx.symm)
  have hg2 : ¬ r.foot t.n gx := H.out.newR (Nat.le_of_eq hgx.symm)
  have HBx := Lib.hid hX
  have HT := Lib.hid hT
  have HB := Lib.hid hB1
  have HX2 := Lib.hid hx2
  have HG1 := Lib.hid hg1
  have HG2 := Lib.hid hg2
  have HGx := Lib.hid hgx
  clear hX hB hT hB1 hx2 hg1 hg2 HX H hgx
  go_upto_region 2 with ((with_reducible refine Calls.mono (P.out _) ?_); rintro e wa ⟨rfl, rfl⟩)
  obtain rfl | rfl | rfl | rfl | rfl | rfl : kd = 0 ∨ kd = 1 ∨ kd = 2 ∨ kd = 3 ∨ kd = 4 ∨ kd = 5 := by omega
  · have hrX : U.rangeAt gx 0 (d8c x) := fun q v hv => by rw [Nat.zero_add, show U.cell? ⟨gx, q, none⟩ = _ from HBx.out.cell q]; exact hv
    have HRX := Lib.hid hrX
    have B0 : Calls Try.prog 29 #[.agg (d8c x).toArray] U _ := bytes8_any x.K x.at_ x.fl x.la x.sh x.pA x.pn x.pc HX2.out.a U
    have hm300 := deedN_le x.at_ x.sh
    have hyl := deedB_len x.at_ x.fl x.la x.sh
    obtain ⟨m, hm⟩ : ∃ m, m = deedN x.at_ x.sh := ⟨_, rfl⟩
    rw [← hm] at B0 hm300 hyl
    have B := Lib.hid B0
    have HM := Lib.hid hm
    have HYl := Lib.hid hyl
    clear B0 hrX hm hyl c0
    go_upto_region 3 with fail
    refine wp_region_lit ?_
    refine wpList_load_mid (op := ⟨some 21, _, _, _, _, _⟩) rfl 48 (.tmp 5) rfl gx 0 rfl (d8c x) _ HRX.out Try.underlying48 rfl (by rw [sizeDeed]; rfl) ?_
    go_upto_region 4 with ((with_reducible refine Calls.mono B.out ?_); rintro e w3 ⟨gb, rfl, hxb, hgb, hb3⟩)
    have hT3 := HT.out.below hb3
    have hX3 := HBx.out.below hb3 hgn
    clear c1
    have c1 := hX3.cell 1
    simp only [d8c, List.getElem?_cons_zero, List.getElem?_cons_succ] at c1
    have hbd3 : ¬ d.foot gb := HT.out.newD hgb
    have hgl3 := hxb.lt
    have W0 := d_write hT3.dk (fun k hk => by have := HR.out.cnt k hk; omega) x hxb hbd3
    rw [← HGd.out, ← HM.out] at W0
    have W := Lib.hid W0
    have HXb := Lib.hid hxb
    have HB3 := Lib.hid hb3
    have HGb := Lib.hid hgb
    have HF3 := Lib.hid hbd3
    clear W0 hxb hb3 hgb hbd3 hT3 hX3 B HRX c5
    go_upto_region 5 with ((with_reducible refine Calls.mono W.out ?_); rintro e w4 ⟨rfl, d2, hc4⟩)
    have HXc := Lib.hid (hc4.K.blk HXb.out HF3.out)
    have HCU := Lib.hid (hc4.pre HB3.out (Nat.le_refl _))
    have HAW := Lib.hid (hc4.away HF3.out hgl3)
    clear hc4 W HXb HB3 c1 hgl3
    go_wp2
    go_loopw [9] (fun s9 wr => ∃ (i : Nat) (l : List UInt8), i ≤ m ∧ s9 = .int .i64 i ∧ l.length = m ∧ Blk wr gb 5 (bvs l) ∧ Kept (fun b => b = gb) w4 wr) (fun s9 _ => m - (intOf s9).toNat)
    case atStart => exact ⟨0, _, by omega, rfl, HYl.out, HXc.out, Kept.refl _ _⟩
    case round =>
      obtain ⟨i, l, hi, rfl, hl, hX, hK⟩ := hrel
      by_cases hlt : i < m
      · have hc := hX.cell i
        rw [bvs, List.getElem?_map, List.getElem?_eq_getElem (by omega)] at hc
        have hf := hX.frees
        have hX2 := hX.set_ i (bv 99)
        rw [bvs_set] at hX2
        have K2 := hK.trans (w2 := wr.setCell ⟨gb, i, none⟩ (bv 99)) (F' := fun b => b = gb) ⟨rfl, rfl, rfl, by simp, fun y _ hn => Below.heap_setCell wr _ _ y hn⟩ (fun _ _ e => e)
        have HX2 := Lib.hid hX2
        have HK2 := Lib.hid K2
        clear hX K2 hX2 hK
        go_wp2
        go_roundw
        case rel => exact ⟨i + 1, l.set i 99, by omega, by norm_cast, by rw [List.length_set]; exact hl, HX2.out, HK2.out⟩
        case measure => simp only [intOf]; omega
      · obtain rfl : i = m := by omega
        have hcW := HCU.out.poke hK HAW.out HGb.out
        have HCW := Lib.hid hcW
        clear hX hl hlt hK hcW HXc HCU HAW HYl
        go_upto_region 9 with fail
        have hcd := HCW.out.below ((Below.refl _ _).drew : Below wr.heap.size wr wr.drew) (Nat.le_refl _)
        have hTd := HT.out.onD hcd
        have hXd : Blk wr.drew gx 48 (d8c x) := hcd.K.blk HBx.out HG1.out
        have hBd := HB.out.trans (HT.out.belD hcd)
        have hg2 : d2.g = gd := hcd.g.trans HGd.out.symm
        have B0 : Calls Try.prog 29 #[.agg (d8c x).toArray] wr.drew _ := bytes8_any x.K x.at_ x.fl x.la x.sh x.pA x.pn x.pc HX2.out.a wr.drew
        rw [← HM.out] at B0
        have B := Lib.hid B0
        have hr0 : ∀ {W : World}, Blk W gx 48 (d8c x) → W.cell? ⟨gx, 1, none⟩ = some (.int .i64 x.at_) ∧ W.rangeAt gx 0 (d8c x) := fun {W} h => ⟨h.cell 1, fun q v hv => by rw [Nat.zero_add, show W.cell? ⟨gx, q, none⟩ = _ from h.cell q]; exact hv⟩
        clear B0
        refine wp_region_last (S := fun w' => w'.cell? ⟨gx, 1, none⟩ = some (.int .i64 x.at_) ∧ w'.rangeAt gx 0 (d8c x)) 8 (by kernel_rfl) rfl (by kernel_rfl) ?_ ?_
        · exact hr0 hXd
        intro hHeld
        simp only [List.take_succ_cons, List.take_zero]
        refine wpAnyH_take (i := 0) (v := ?_) (by simp only [List.getElem?_toArray, List.getElem?_cons_succ, List.getElem?_cons_zero]; rfl) (by kernel_rfl) (by kernel_rfl) (by kernel_rfl) (fun _ _ _ h => h) (Or.inl ⟨by rfl, ?_⟩) hHeld ?_
        rotate_left
        · intro wz hSw; (try dsimp only at hSw); go_simp; try with_reducible rfl
        (try simp only [Act.put, List.setIfInBounds_toArray, List.set_cons_zero, List.set_cons_succ])
        refine wpAnyH_take (i := 1) (v := ?_) (by simp only [List.getElem?_toArray, List.getElem?_cons_succ, List.getElem?_cons_zero]; rfl) (by kernel_rfl) (by kernel_rfl) (by kernel_rfl) (fun _ _ _ h => h) (Or.inl ⟨by rfl, ?_⟩) hHeld ?_
        rotate_left
        · intro wz hSw; (try dsimp only at hSw); go_simp; try with_reducible rfl
        (try simp only [Act.put, List.setIfInBounds_toArray, List.set_cons_zero, List.set_cons_succ])
        refine wpAnyH_take (i := 2) (v := ?_) (by simp only [List.getElem?_toArray, List.getElem?_cons_succ, List.getElem?_cons_zero]; rfl) (by kernel_rfl) (by kernel_rfl) (by kernel_rfl) (fun _ _ _ h => h) (Or.inl ⟨by rfl, ?_⟩) hHeld ?_
        rotate_left
        · intro wz hSw; (try dsimp only at hSw); go_simp; try with_reducible rfl
        (try simp only [Act.put, List.setIfInBounds_toArray, List.set_cons_zero, List.set_cons_succ])
        refine wpAnyH_take (i := 3) (v := ?_) (by simp only [List.getElem?_toArray, List.getElem?_cons_succ, List.getElem?_cons_zero]; rfl) (by kernel_rfl) (by kernel_rfl) (by kernel_rfl) (fun _ _ _ h => h) (Or.inl ⟨by rfl, ?_⟩) hHeld ?_
        rotate_left
        · intro wz hSw; (try dsimp only at hSw); go_simp; try with_reducible rfl
        (try simp only [Act.put, List.setIfInBounds_toArray, List.set_cons_zero, List.set_cons_succ])
        refine wpAnyH_take (i := 4) (v := .agg (d8c x).toArray) (by simp only [List.getElem?_toArray, List.getElem?_cons_succ, List.getElem?_cons_zero]; rfl) (by kernel_rfl) (by kernel_rfl) (by kernel_rfl) (fun _ _ _ h => h) (yieldsIf_load_mid (by rfl) 48 (.tmp 5) rfl gx 0 (by rfl) (d8c x) _ (fun _ hS => hS.2) Try.underlying48 rfl (by rw [sizeDeed]; rfl)) hHeld ?_
        (try simp only [Act.put, List.setIfInBounds_toArray, List.set_cons_zero, List.set_cons_succ])
        refine wpAnyH_ready (rs := [5]) (by kernel_rfl) (by simp) ?_
        refine AllReadyH.cons (by simp only [List.getElem?_toArray, List.getElem?_cons_succ, List.getElem?_cons_zero]; rfl) (fun KK hK => ?_) AllReadyH.nil
        go_simp; ((with_reducible refine Calls.mono B.out ?_); rintro e w6 ⟨g6, rfl, hx6, hg6, hb6⟩; have hT6 := hTd.below hb6; have hX6 := hXd.below hb6 hXd.lt); go_wp2_with fail
        refine hK.out _ _ ?_ (fun hHeld => ?_)
        · exact hr0 hX6
        clear hK KK
        (try simp only [Act.put, List.setIfInBounds_toArray, List.set_cons_zero, List.set_cons_succ])
        have F0 := r_write hT6.rk (fun k hk => by rw [HR.out.vers_ k (by rw [← HR.out.n_]; exact hk)]; have := HR.out.cnt k (by rw [← HR.out.n_]; exact hk); omega) x hx6 (hTd.newR hg6)
        rw [← HGr.out, ← HM.out, HR.out.n_] at F0
        have F2 := Lib.hid F0
        clear F0
        refine wpAnyH_ready (rs := [6]) (by kernel_rfl) (by simp) ?_
        refine AllReadyH.cons (by simp only [List.getElem?_toArray, List.getElem?_cons_succ, List.getElem?_cons_zero]; rfl) (fun KK hK => ?_) AllReadyH.nil
        go_simp; ((with_reducible refine Calls.mono F2.out ?_); rintro e w7 ⟨rfl, r2, hc7⟩; have hT7 := hT6.onR (by rw [HR.out.n_]; exact hc7); have hX7 := hc7.K.blk hX6 (by rw [← HR.out.n_]; exact HG2.out)); go_wp2_with fail
        refine hK.out _ _ ?_ (fun hHeld => ?_)
        · exact hr0 hX7
        clear hK KK
        (try simp only [Act.put, List.setIfInBounds_toArray, List.set_cons_zero, List.set_cons_succ])
        refine wpAnyH_take (i := 7) (v := ?_) (by simp only [List.getElem?_toArray, List.getElem?_cons_succ, List.getElem?_cons_zero]; rfl) (by kernel_rfl) (by kernel_rfl) (by kernel_rfl) (fun _ _ _ h => h) (Or.inl ⟨by rfl, ?_⟩) hHeld ?_
        rotate_left
        · intro wz hSw; (try dsimp only at hSw); go_simp; try with_reducible rfl
        (try simp only [Act.put, List.setIfInBounds_toArray, List.set_cons_zero, List.set_cons_succ])
        refine wpAnyH_done (by kernel_rfl) ?_ _
        simp only [lastQ]
        go_simp
        rw [← HS2.out, ← HT2.out] at hT7
        have HTw := Lib.hid hT7
        have HB2 := Lib.hid ((hBd.trans (hb6.mono hTd.base)).trans (hT6.belR (by rw [HR.out.n_]; exact hc7)))
        have HGr2 : Hid (r2.g = gr) := Lib.hid (hc7.g.trans HGr.out.symm)
        clear hT7 hX7 hc7 hX6 hT6 hx6 hg6 hb6 hTd hXd hBd B F2 hHeld hr0 hcd HCW
        go_wp2
        go_ret
        exact ⟨by simp, _, _, HTw.out, hg2, HGr2.out, HB2.out⟩
  · have F0 := dflush_any HT.out.dk
    rw [← HGd.out] at F0
    have F := Lib.hid F0
    clear F0
    go_upto_region 12 with ((with_reducible refine Calls.mono F.out ?_); rintro e w1 ⟨rfl, d2, hd2, hg2, hk2, hf2⟩)
    have hc2 : Ch U w1 bd d d2 _ := ⟨hd2, hg2.trans HGd.out, hk2, hf2⟩
    have hT1 := HT.out.onD hc2
    have hX1 := hk2.blk HBx.out HG1.out
    have HBd := Lib.hid (HB.out.trans (HT.out.belD hc2))
    have hlx : gx < w1.heap.size := hX1.lt
    have F0 := rflush_any hT1.rk
    rw [← HGr.out] at F0
    have F2 := Lib.hid F0
    have HT1 := Lib.hid hT1
    have HX1 := Lib.hid hX1
    clear F0 F hd2 hk2 hf2 hc2 hT1 hX1 c0 c1 c5 HBx HT HB
    go_upto_region 20 with ((with_reducible refine Calls.mono F2.out ?_); rintro e w2 ⟨rfl, r2, hc3⟩)
    have HTw : Hid (Two w2 bd br d2 r2 s2 t2) := Lib.hid (by rw [HS2.out, HT2.out]; exact HT1.out.onR hc3)
    have HB2 := Lib.hid (HBd.out.trans (HT1.out.belR hc3))
    have hX2 := hc3.K.blk HX1.out HG2.out
    have HGd2 := Lib.hid hg2
    have HGr2 : Hid (r2.g = gr) := Lib.hid (hc3.g.trans HGr.out.symm)
    have c1 := hX2.cell 1
    simp only [d8c, List.getElem?_cons_zero, List.getElem?_cons_succ] at c1
    have HBx2 := Lib.hid hX2
    clear hc3 hX2 F2 HT1 HX1 HBd
    by_cases hin : 0 ≤ x.at_ ∧ x.at_ < (s2.n : Int)
    · obtain ⟨k, hk⟩ : ∃ k : Nat, (k : Int) = x.at_ := ⟨x.at_.toNat, by omega⟩
      have hks : k < s2.n := by omega
      have R0 := dread_ok HTw.out.dk hks
      rw [HGd2.out, hk] at R0
      have R := Lib.hid R0
      have HK := Lib.hid hk
      clear R0 hin hk
      go_upto_region 21 with ((with_reducible refine Calls.mono R.out ?_); rintro e w8 ⟨g8, rfl, hx8, hg8, hb8⟩)
      have hT8 := HTw.out.below hb8
      have hX8 := HBx2.out.below hb8 HBx2.out.lt
      have hd1 := hX8.cell 1
      simp only [d8c, List.getElem?_cons_zero, List.getElem?_cons_succ] at hd1
      have R0 := rread_ok hT8.rk (k := k) (by rw [HRel.out.n_]; exact hks)
      rw [HGr2.out, HK.out, HRel.out.has hks] at R0
      have R2 := Lib.hid R0
      have HXr := Lib.hid hx8
      have HB8 := Lib.hid hb8
      have HL8 := Lib.hid (hasD_len hT8.dk hks)
      have hglt := hx8.lt
      have HG8 := Lib.hid hg8
      clear R0 R hT8 hX8 hx8 hg8 hb8 HBx2 c1
      go_upto_region 22 with ((with_reducible refine Calls.mono R2.out ?_); rintro e w9 ⟨A9, c9, rfl, ho9, hb9⟩)
      have hx9 := HXr.out.below hb9 hglt
      have S0 := same_any (hx9.bs0 0 256 256 (Nat.zero_le _) (Nat.le_refl _) (by omega) HL8.out) (own_bs ho9)
      rw [decide_eq_true rfl] at S0
      have S := Lib.hid S0
      have HB9 := Lib.hid (HB8.out.trans (hb9.mono HB8.out.size))
      have HX9 := Lib.hid hx9
      clear S0 hx9 ho9 hb9 HB8 HXr R2 hd1
      go_upto_region 23 with ((with_reducible refine Calls.mono S.out ?_); rintro e wa ⟨rfl, qa, hwa⟩)
      subst hwa
      have HBa := Lib.hid (below_drewN HB9.out qa)
      have hXa : Blk (w9.drewN qa) g8 _ _ := HX9.out
      have HXa := Lib.hid hXa
      clear HB9 HX9 S hXa
      generalize w9.drewN qa = wa at *
      go_wp2
      go_loopw [15] (fun s15 wr => ∃ (i : Nat) (l : List UInt8), i ≤ 256 ∧ s15 = .int .i64 i ∧ l.length = 256 ∧ Blk wr g8 93 (bvs l) ∧ Kept (fun b => b = g8) wa wr) (fun s15 _ => 256 - (intOf s15).toNat)
      case atStart => exact ⟨0, _, by omega, rfl, HL8.out, HXa.out, Kept.refl _ _⟩
      case round =>
        obtain ⟨i, l, hi, rfl, hl, hX, hK⟩ := hrel
        by_cases hlt : i < 256
        · have hc := hX.cell i
          rw [bvs, List.getElem?_map, List.getElem?_eq_getElem (by omega)] at hc
          have hf := hX.frees
          have hiI : (i : Int) < 256 := by omega
          have hX2 := hX.set_ i (bv 77)
          rw [bvs_set] at hX2
          have K2 := hK.trans (w2 := wr.setCell ⟨g8, i, none⟩ (bv 77)) (F' := fun b => b = g8) ⟨rfl, rfl, rfl, by simp, fun y _ hn => Below.heap_setCell wr _ _ y hn⟩ (fun _ _ e => e)
          have HX2 := Lib.hid hX2
          have HK2 := Lib.hid K2
          clear hX K2 hX2 hK
          go_wp2
          go_roundw
          case rel => exact ⟨i + 1, l.set i 77, by omega, by norm_cast, by rw [List.length_set]; exact hl, HX2.out, HK2.out⟩
          case measure => simp only [intOf]; omega
        · obtain rfl : i = 256 := by omega
          have HK := Lib.hid hK
          clear hX hl hlt
          go_wp2
          go_ret
          have hbe := HBa.out.trans (HK.out.below HBa.out.size (fun b e => by rw [e]; exact HG8.out))
          exact ⟨rfl, _, _, HTw.out.below hbe, HGd2.out, HGr2.out, HB2.out.trans (hbe.mono HTw.out.base)⟩
    · have R0 := dread_far HTw.out.dk (k := x.at_) (by omega)
      rw [HGd2.out] at R0
      have R := Lib.hid R0
      have R0 := rread_far HTw.out.rk (k := x.at_) (by rw [HRel.out.n_]; omega)
      rw [HGr2.out] at R0
      have R2 := Lib.hid R0
      clear R0 hin
      go_upto_region 22 with (first | ((with_reducible refine Calls.mono R.out ?_); rintro e w8 ⟨rfl, hw8⟩; replace hw8 := hw8.symm; subst hw8) | ((with_reducible refine Calls.mono R2.out ?_); rintro e w8 ⟨rfl, hw8⟩; replace hw8 := hw8.symm; subst hw8))
      have S0 := same_any (Bs.nil_ w2 0) (Bs.nil_ w2 0)
      rw [decide_eq_true rfl] at S0
      have S := Lib.hid S0
      clear S0
      go_upto_region 23 with ((with_reducible refine Calls.mono S.out ?_); rintro e wa ⟨rfl, qa, hwa⟩)
      subst hwa
      have HTa := Lib.hid (HTw.out.below (below_drewN (Below.refl _ _) qa))
      have HBa := Lib.hid (below_drewN HB2.out qa)
      clear HTw HB2 S HBx2 c1 R R2
      generalize w2.drewN qa = wa at *
      go_wp2
      go_loopw [15] (fun s15 wr => s15 = .int .i64 0 ∧ wr = wa) (fun _ _ => 0)
      case atStart => exact ⟨rfl, rfl⟩
      case round =>
        obtain ⟨rfl, rfl⟩ := hrel
        go_wp2
        go_ret
        exact ⟨rfl, _, _, HTa.out, HGd2.out, HGr2.out, HBa.out⟩
  · have hpp : ∀ b, 0 < x.pn → ablk x.pA = some b → ¬ d.foot b := fun b h e => HT.out.offD (HP.out h b e)
    have hpr : ∀ b, 0 < x.pn → ablk x.pA = some b → ¬ r.foot t.n b := fun b h e => HT.out.offR (HP.out h b e)
    have F0 := dpower_any HT.out.dk (fun k hk => by have := HR.out.cnt k hk; omega) (c := x.pc) HX2.out.p HX2.out.pl (by have := HX2.out.pz; omega) (fun h b e => hpp b h e)
    rw [← HGd.out] at F0
    have F := Lib.hid F0
    clear F0
    go_upto_region 15 with ((with_reducible refine Calls.mono F.out ?_); rintro e w1 ⟨rfl, d2, hc2⟩)
    have hT1 := HT.out.onD hc2
    have hX1 := hc2.K.blk HBx.out HG1.out
    have HBd := Lib.hid (HB.out.trans (HT.out.belD hc2))
    have hx3 : D8Ok w1 x := HX2.out.below (HT.out.belD hc2) HP.out
    have hg2 : d2.g = gd := hc2.g.trans HGd.out.symm
    have F0 := rpower_any hT1.rk (fun k hk => by rw [HR.out.vers_ k (by rw [← HR.out.n_]; exact hk)]; have := HR.out.cnt k (by rw [← HR.out.n_]; exact hk); omega) (c := x.pc) hx3.p hx3.pl (by have := hx3.pz; omega) (fun h b e => hpr b h e)
    rw [← HGr.out] at F0
    have F2 := Lib.hid F0
    have HT1 := Lib.hid hT1
    have c5 := hX1.cell 5
    simp only [d8c, List.getElem?_cons_zero, List.getElem?_cons_succ] at c5
    have HX1 := Lib.hid hX1
    clear F0 F hc2 hT1 hX1 c0 c1 HBx HT HB hx3 hpp hpr
    go_upto_region 20 with ((with_reducible refine Calls.mono F2.out ?_); rintro e w2 ⟨rfl, r2, hc3⟩)
    have HTw : Hid (Two w2 bd br d2 r2 s2 t2) := Lib.hid (by rw [HS2.out, HT2.out]; exact HT1.out.onR hc3)
    have HB2 := Lib.hid (HBd.out.trans (HT1.out.belR hc3))
    have hX2 := hc3.K.blk HX1.out HG2.out
    have HGd2 := Lib.hid hg2
    have HGr2 : Hid (r2.g = gr) := Lib.hid (hc3.g.trans HGr.out.symm)
    have c1 := hX2.cell 1
    simp only [d8c, List.getElem?_cons_zero, List.getElem?_cons_succ] at c1
    have HBx2 := Lib.hid hX2
    clear hc3 hX2 F2 HT1 HX1 HBd c5
    by_cases hin : 0 ≤ x.at_ ∧ x.at_ < (s2.n : Int)
    · obtain ⟨k, hk⟩ : ∃ k : Nat, (k : Int) = x.at_ := ⟨x.at_.toNat, by omega⟩
      have hks : k < s2.n := by omega
      have R0 := dread_ok HTw.out.dk hks
      rw [HGd2.out, hk] at R0
      have R := Lib.hid R0
      have HK := Lib.hid hk
      clear R0 hin hk
      go_upto_region 21 with ((with_reducible refine Calls.mono R.out ?_); rintro e w8 ⟨g8, rfl, hx8, hg8, hb8⟩)
      have hT8 := HTw.out.below hb8
      have hX8 := HBx2.out.below hb8 HBx2.out.lt
      have hd1 := hX8.cell 1
      simp only [d8c, List.getElem?_cons_zero, List.getElem?_cons_succ] at hd1
      have R0 := rread_ok hT8.rk (k := k) (by rw [HRel.out.n_]; exact hks)
      rw [HGr2.out, HK.out, HRel.out.has hks] at R0
      have R2 := Lib.hid R0
      have HXr := Lib.hid hx8
      have HB8 := Lib.hid hb8
      have HL8 := Lib.hid (hasD_len hT8.dk hks)
      have hglt := hx8.lt
      have HG8 := Lib.hid hg8
      clear R0 R hT8 hX8 hx8 hg8 hb8 HBx2 c1
      go_upto_region 22 with ((with_reducible refine Calls.mono R2.out ?_); rintro e w9 ⟨A9, c9, rfl, ho9, hb9⟩)
      have hx9 := HXr.out.below hb9 hglt
      have S0 := same_any (hx9.bs0 0 256 256 (Nat.zero_le _) (Nat.le_refl _) (by omega) HL8.out) (own_bs ho9)
      rw [decide_eq_true rfl] at S0
      have S := Lib.hid S0
      have HB9 := Lib.hid (HB8.out.trans (hb9.mono HB8.out.size))
      have HX9 := Lib.hid hx9
      clear S0 hx9 ho9 hb9 HB8 HXr R2 hd1
      go_upto_region 23 with ((with_reducible refine Calls.mono S.out ?_); rintro e wa ⟨rfl, qa, hwa⟩)
      subst hwa
      have HBa := Lib.hid (below_drewN HB9.out qa)
      have hXa : Blk (w9.drewN qa) g8 _ _ := HX9.out
      have HXa := Lib.hid hXa
      clear HB9 HX9 S hXa
      generalize w9.drewN qa = wa at *
      go_wp2
      go_loopw [15] (fun s15 wr => ∃ (i : Nat) (l : List UInt8), i ≤ 256 ∧ s15 = .int .i64 i ∧ l.length = 256 ∧ Blk wr g8 93 (bvs l) ∧ Kept (fun b => b = g8) wa wr) (fun s15 _ => 256 - (intOf s15).toNat)
      case atStart => exact ⟨0, _, by omega, rfl, HL8.out, HXa.out, Kept.refl _ _⟩
      case round =>
        obtain ⟨i, l, hi, rfl, hl, hX, hK⟩ := hrel
        by_cases hlt : i < 256
        · have hc := hX.cell i
          rw [bvs, List.getElem?_map, List.getElem?_eq_getElem (by omega)] at hc
          have hf := hX.frees
          have hiI : (i : Int) < 256 := by omega
          have hX2 := hX.set_ i (bv 77)
          rw [bvs_set] at hX2
          have K2 := hK.trans (w2 := wr.setCell ⟨g8, i, none⟩ (bv 77)) (F' := fun b => b = g8) ⟨rfl, rfl, rfl, by simp, fun y _ hn => Below.heap_setCell wr _ _ y hn⟩ (fun _ _ e => e)
          have HX2 := Lib.hid hX2
          have HK2 := Lib.hid K2
          clear hX K2 hX2 hK
          go_wp2
          go_roundw
          case rel => exact ⟨i + 1, l.set i 77, by omega, by norm_cast, by rw [List.length_set]; exact hl, HX2.out, HK2.out⟩
          case measure => simp only [intOf]; omega
        · obtain rfl : i = 256 := by omega
          have HK := Lib.hid hK
          clear hX hl hlt
          go_wp2
          go_ret
          have hbe := HBa.out.trans (HK.out.below HBa.out.size (fun b e => by rw [e]; exact HG8.out))
          exact ⟨rfl, _, _, HTw.out.below hbe, HGd2.out, HGr2.out, HB2.out.trans (hbe.mono HTw.out.base)⟩
    · have R0 := dread_far HTw.out.dk (k := x.at_) (by omega)
      rw [HGd2.out] at R0
      have R := Lib.hid R0
      have R0 := rread_far HTw.out.rk (k := x.at_) (by rw [HRel.out.n_]; omega)
      rw [HGr2.out] at R0
      have R2 := Lib.hid R0
      clear R0 hin
      go_upto_region 22 with (first | ((with_reducible refine Calls.mono R.out ?_); rintro e w8 ⟨rfl, hw8⟩; replace hw8 := hw8.symm; subst hw8) | ((with_reducible refine Calls.mono R2.out ?_); rintro e w8 ⟨rfl, hw8⟩; replace hw8 := hw8.symm; subst hw8))
      have S0 := same_any (Bs.nil_ w2 0) (Bs.nil_ w2 0)
      rw [decide_eq_true rfl] at S0
      have S := Lib.hid S0
      clear S0
      go_upto_region 23 with ((with_reducible refine Calls.mono S.out ?_); rintro e wa ⟨rfl, qa, hwa⟩)
      subst hwa
      have HTa := Lib.hid (HTw.out.below (below_drewN (Below.refl _ _) qa))
      have HBa := Lib.hid (below_drewN HB2.out qa)
      clear HTw HB2 S HBx2 c1 R R2
      generalize w2.drewN qa = wa at *
      go_wp2
      go_loopw [15] (fun s15 wr => s15 = .int .i64 0 ∧ wr = wa) (fun _ _ => 0)
      case atStart => exact ⟨rfl, rfl⟩
      case round =>
        obtain ⟨rfl, rfl⟩ := hrel
        go_wp2
        go_ret
        exact ⟨rfl, _, _, HTa.out, HGd2.out, HGr2.out, HBa.out⟩
  · go_upto_region 17 with fail
    have hTd := HT.out.below ((Below.refl _ _).drew : Below U.heap.size U U.drew)
    have hXd : Blk U.drew gx 48 (d8c x) := HBx.out
    have hBd := HB.out.trans ((Below.refl _ _).drew : Below bd U U.drew)
    have F0 := d_rot hTd.dk (fun k hk => by have := HR.out.cnt k hk; omega) x
    rw [← HGd.out] at F0
    have F := Lib.hid F0
    clear F0
    refine wp_region_last (S := fun w' => w'.cell? ⟨gx, 1, none⟩ = some (.int .i64 x.at_)) 9 (by kernel_rfl) rfl (by kernel_rfl) ?_ ?_
    · (have h := hXd.cell 1; simp only [d8c, List.getElem?_cons_zero, List.getElem?_cons_succ] at h; exact h)
    intro hHeld
    simp only [List.take_succ_cons, List.take_zero]
    refine wpAnyH_take (i := 0) (v := ?_) (by simp only [List.getElem?_toArray, List.getElem?_cons_succ, List.getElem?_cons_zero]; rfl) (by kernel_rfl) (by kernel_rfl) (by kernel_rfl) (fun _ _ _ h => h) (Or.inl ⟨by rfl, ?_⟩) hHeld ?_
    rotate_left
    · intro wz hSw; (try dsimp only at hSw); go_simp; try with_reducible rfl
    (try simp only [Act.put, List.setIfInBounds_toArray, List.set_cons_zero, List.set_cons_succ])
    refine wpAnyH_take (i := 1) (v := ?_) (by simp only [List.getElem?_toArray, List.getElem?_cons_succ, List.getElem?_cons_zero]; rfl) (by kernel_rfl) (by kernel_rfl) (by kernel_rfl) (fun _ _ _ h => h) (Or.inl ⟨by rfl, ?_⟩) hHeld ?_
    rotate_left
    · intro wz hSw; (try dsimp only at hSw); go_simp; try with_reducible rfl
    (try simp only [Act.put, List.setIfInBounds_toArray, List.set_cons_zero, List.set_cons_succ])
    refine wpAnyH_take (i := 2) (v := ?_) (by simp only [List.getElem?_toArray, List.getElem?_cons_succ, List.getElem?_cons_zero]; rfl) (by kernel_rfl) (by kernel_rfl) (by kernel_rfl) (fun _ _ _ h => h) (Or.inl ⟨by rfl, ?_⟩) hHeld ?_
    rotate_left
    · intro wz hSw; (try dsimp only at hSw); go_simp; try with_reducible rfl
    (try simp only [Act.put, List.setIfInBounds_toArray, List.set_cons_zero, List.set_cons_succ])
    refine wpAnyH_take (i := 4) (v := ?_) (by simp only [List.getElem?_toArray, List.getElem?_cons_succ, List.getElem?_cons_zero]; rfl) (by kernel_rfl) (by kernel_rfl) (by kernel_rfl) (fun _ _ _ h => h) (Or.inl ⟨by rfl, ?_⟩) hHeld ?_
    rotate_left
    · intro wz hSw; (try dsimp only at hSw); go_simp; try with_reducible rfl
    (try simp only [Act.put, List.setIfInBounds_toArray, List.set_cons_zero, List.set_cons_succ])
    refine wpAnyH_take (i := 5) (v := ?_) (by simp only [List.getElem?_toArray, List.getElem?_cons_succ, List.getElem?_cons_zero]; rfl) (by kernel_rfl) (by kernel_rfl) (by kernel_rfl) (fun _ _ _ h => h) (Or.inl ⟨by rfl, ?_⟩) hHeld ?_
    rotate_left
    · intro wz hSw; (try dsimp only at hSw); go_simp; try with_reducible rfl
    (try simp only [Act.put, List.setIfInBounds_toArray, List.set_cons_zero, List.set_cons_succ])
    refine wpAnyH_take (i := 6) (v := ?_) (by simp only [List.getElem?_toArray, List.getElem?_cons_succ, List.getElem?_cons_zero]; rfl) (by kernel_rfl) (by kernel_rfl) (by kernel_rfl) (fun _ _ _ h => h) (Or.inl ⟨by rfl, ?_⟩) hHeld ?_
    rotate_left
    · intro wz hSw; (try dsimp only at hSw); go_simp; try with_reducible rfl
    (try simp only [Act.put, List.setIfInBounds_toArray, List.set_cons_zero, List.set_cons_succ])
    refine wpAnyH_ready (rs := [3]) (by kernel_rfl) (by simp) ?_
    refine AllReadyH.cons (by simp only [List.getElem?_toArray, List.getElem?_cons_succ, List.getElem?_cons_zero]; rfl) (fun KK hK => ?_) AllReadyH.nil
    go_simp; ((with_reducible refine Calls.mono F.out ?_); rintro e w1 ⟨rfl, d2, hc2⟩; have hT1 := hTd.onD hc2; have hX1 := hc2.K.blk hXd HG1.out; have hB1 := hBd.trans (hTd.belD hc2); have hg2 : d2.g = gd := hc2.g.trans HGd.out.symm); go_wp2_with fail
    refine hK.out _ _ ?_ (fun hHeld => ?_)
    · (have h := hX1.cell 1; simp only [d8c, List.getElem?_cons_zero, List.getElem?_cons_succ] at h; exact h)
    clear hK KK
    (try simp only [Act.put, List.setIfInBounds_toArray, List.set_cons_zero, List.set_cons_succ])
    have F0 := r_rot hT1.rk (fun k hk => by rw [HR.out.vers_ k (by rw [← HR.out.n_]; exact hk)]; have := HR.out.cnt k (by rw [← HR.out.n_]; exact hk); omega) x
    rw [← HGr.out] at F0
    have F2 := Lib.hid F0
    clear F0
    refine wpAnyH_ready (rs := [7]) (by kernel_rfl) (by simp) ?_
    refine AllReadyH.cons (by simp only [List.getElem?_toArray, List.getElem?_cons_succ, List.getElem?_cons_zero]; rfl) (fun KK hK => ?_) AllReadyH.nil
    go_simp; ((with_reducible refine Calls.mono F2.out ?_); rintro e w2 ⟨rfl, r2, hc3⟩; have hT2 := hT1.onR hc3; have hX2 := hc3.K.blk hX1 HG2.out; have hB2 := hB1.trans (hT1.belR hc3)); go_wp2_with fail
    refine hK.out _ _ ?_ (fun hHeld => ?_)
    · (have h := hX2.cell 1; simp only [d8c, List.getElem?_cons_zero, List.getElem?_cons_succ] at h; exact h)
    clear hK KK
    (try simp only [Act.put, List.setIfInBounds_toArray, List.set_cons_zero, List.set_cons_succ])
    refine wpAnyH_take (i := 8) (v := ?_) (by simp only [List.getElem?_toArray, List.getElem?_cons_succ, List.getElem?_cons_zero]; rfl) (by kernel_rfl) (by kernel_rfl) (by kernel_rfl) (fun _ _ _ h => h) (Or.inl ⟨by rfl, ?_⟩) hHeld ?_
    rotate_left
    · intro wz hSw; (try dsimp only at hSw); go_simp; try with_reducible rfl
    (try simp only [Act.put, List.setIfInBounds_toArray, List.set_cons_zero, List.set_cons_succ])
    refine wpAnyH_done (by kernel_rfl) ?_ _
    simp only [lastQ]
    go_simp
    rw [← HS2.out, ← HT2.out] at hT2
    have HTw := Lib.hid hT2
    have HB2 := Lib.hid hB2
    have HGr2 : Hid (r2.g = gr) := Lib.hid (hc3.g.trans HGr.out.symm)
    clear hT2 hB2 hX2 hc3 hX1 hT1 hB1 hc2 hTd hXd hBd F F2 hHeld
    go_wp2
    go_ret
    exact ⟨by simp [HR.out.n_], _, _, HTw.out, hg2, HGr2.out, HB2.out⟩
  · have HTw : Hid (Two U bd br d r s2 t2) := Lib.hid (by rw [HS2.out, HT2.out]; exact HT.out)
    have HB2 := HB
    have HGd2 : Hid (d.g = gd) := Lib.hid HGd.out.symm
    have HGr2 : Hid (r.g = gr) := Lib.hid HGr.out.symm
    have HBx2 := HBx
    clear c0 c5 HBx HT HB
    by_cases hin : 0 ≤ x.at_ ∧ x.at_ < (s2.n : Int)
    · obtain ⟨k, hk⟩ : ∃ k : Nat, (k : Int) = x.at_ := ⟨x.at_.toNat, by omega⟩
      have hks : k < s2.n := by omega
      have R0 := dread_ok HTw.out.dk hks
      rw [HGd2.out, hk] at R0
      have R := Lib.hid R0
      have HK := Lib.hid hk
      clear R0 hin hk
      go_upto_region 21 with ((with_reducible refine Calls.mono R.out ?_); rintro e w8 ⟨g8, rfl, hx8, hg8, hb8⟩)
      have hT8 := HTw.out.below hb8
      have hX8 := HBx2.out.below hb8 HBx2.out.lt
      have hd1 := hX8.cell 1
      simp only [d8c, List.getElem?_cons_zero, List.getElem?_cons_succ] at hd1
      have R0 := rread_ok hT8.rk (k := k) (by rw [HRel.out.n_]; exact hks)
      rw [HGr2.out, HK.out, HRel.out.has hks] at R0
      have R2 := Lib.hid R0
      have HXr := Lib.hid hx8
      have HB8 := Lib.hid hb8
      have HL8 := Lib.hid (hasD_len hT8.dk hks)
      have hglt := hx8.lt
      have HG8 := Lib.hid hg8
      clear R0 R hT8 hX8 hx8 hg8 hb8 HBx2 c1
      go_upto_region 22 with ((with_reducible refine Calls.mono R2.out ?_); rintro e w9 ⟨A9, c9, rfl, ho9, hb9⟩)
      have hx9 := HXr.out.below hb9 hglt
      have S0 := same_any (hx9.bs0 0 256 256 (Nat.zero_le _) (Nat.le_refl _) (by omega) HL8.out) (own_bs ho9)
      rw [decide_eq_true rfl] at S0
      have S := Lib.hid S0
      have HB9 := Lib.hid (HB8.out.trans (hb9.mono HB8.out.size))
      have HX9 := Lib.hid hx9
      clear S0 hx9 ho9 hb9 HB8 HXr R2 hd1
      go_upto_region 23 with ((with_reducible refine Calls.mono S.out ?_); rintro e wa ⟨rfl, qa, hwa⟩)
      subst hwa
      have HBa := Lib.hid (below_drewN HB9.out qa)
      have hXa : Blk (w9.drewN qa) g8 _ _ := HX9.out
      have HXa := Lib.hid hXa
      clear HB9 HX9 S hXa
      generalize w9.drewN qa = wa at *
      go_wp2
      go_loopw [15] (fun s15 wr => ∃ (i : Nat) (l : List UInt8), i ≤ 256 ∧ s15 = .int .i64 i ∧ l.length = 256 ∧ Blk wr g8 93 (bvs l) ∧ Kept (fun b => b = g8) wa wr) (fun s15 _ => 256 - (intOf s15).toNat)
      case atStart => exact ⟨0, _, by omega, rfl, HL8.out, HXa.out, Kept.refl _ _⟩
      case round =>
        obtain ⟨i, l, hi, rfl, hl, hX, hK⟩ := hrel
        by_cases hlt : i < 256
        · have hc := hX.cell i
          rw [bvs, List.getElem?_map, List.getElem?_eq_getElem (by omega)] at hc
          have hf := hX.frees
          have hiI : (i : Int) < 256 := by omega
          have hX2 := hX.set_ i (bv 77)
          rw [bvs_set] at hX2
          have K2 := hK.trans (w2 := wr.setCell ⟨g8, i, none⟩ (bv 77)) (F' := fun b => b = g8) ⟨rfl, rfl, rfl, by simp, fun y _ hn => Below.heap_setCell wr _ _ y hn⟩ (fun _ _ e => e)
          have HX2 := Lib.hid hX2
          have HK2 := Lib.hid K2
          clear hX K2 hX2 hK
          go_wp2
          go_roundw
          case rel => exact ⟨i + 1, l.set i 77, by omega, by norm_cast, by rw [List.length_set]; exact hl, HX2.out, HK2.out⟩
          case measure => simp only [intOf]; omega
        · obtain rfl : i = 256 := by omega
          have HK := Lib.hid hK
          clear hX hl hlt
          go_wp2
          go_ret
          have hbe := HBa.out.trans (HK.out.below HBa.out.size (fun b e => by rw [e]; exact HG8.out))
          exact ⟨rfl, _, _, HTw.out.below hbe, HGd2.out, HGr2.out, HB2.out.trans (hbe.mono HTw.out.base)⟩
    · have R0 := dread_far HTw.out.dk (k := x.at_) (by omega)
      rw [HGd2.out] at R0
      have R := Lib.hid R0
      have R0 := rread_far HTw.out.rk (k := x.at_) (by rw [HRel.out.n_]; omega)
      rw [HGr2.out] at R0
      have R2 := Lib.hid R0
      clear R0 hin
      go_upto_region 22 with (first | ((with_reducible refine Calls.mono R.out ?_); rintro e w8 ⟨rfl, hw8⟩; replace hw8 := hw8.symm; subst hw8) | ((with_reducible refine Calls.mono R2.out ?_); rintro e w8 ⟨rfl, hw8⟩; replace hw8 := hw8.symm; subst hw8))
      have S0 := same_any (Bs.nil_ U 0) (Bs.nil_ U 0)
      rw [decide_eq_true rfl] at S0
      have S := Lib.hid S0
      clear S0
      go_upto_region 23 with ((with_reducible refine Calls.mono S.out ?_); rintro e wa ⟨rfl, qa, hwa⟩)
      subst hwa
      have HTa := Lib.hid (HTw.out.below (below_drewN (Below.refl _ _) qa))
      have HBa := Lib.hid (below_drewN HB2.out qa)
      clear HTw HB2 S HBx2 c1 R R2
      generalize U.drewN qa = wa at *
      go_wp2
      go_loopw [15] (fun s15 wr => s15 = .int .i64 0 ∧ wr = wa) (fun _ _ => 0)
      case atStart => exact ⟨rfl, rfl⟩
      case round =>
        obtain ⟨rfl, rfl⟩ := hrel
        go_wp2
        go_ret
        exact ⟨rfl, _, _, HTa.out, HGd2.out, HGr2.out, HBa.out⟩
  · go_upto_region 19 with fail
    have hTd := HT.out.below ((Below.refl _ _).drew : Below U.heap.size U U.drew)
    have hXd : Blk U.drew gx 48 (d8c x) := HBx.out
    have hBd := HB.out.trans ((Below.refl _ _).drew : Below bd U U.drew)
    have F0 := d_cut hTd.dk x
    rw [← HGd.out] at F0
    have F := Lib.hid F0
    clear F0
    refine wp_region_last (S := fun w' => w'.cell? ⟨gx, 1, none⟩ = some (.int .i64 x.at_)) 9 (by kernel_rfl) rfl (by kernel_rfl) ?_ ?_
    · (have h := hXd.cell 1; simp only [d8c, List.getElem?_cons_zero, List.getElem?_cons_succ] at h; exact h)
    intro hHeld
    simp only [List.take_succ_cons, List.take_zero]
    refine wpAnyH_take (i := 0) (v := ?_) (by simp only [List.getElem?_toArray, List.getElem?_cons_succ, List.getElem?_cons_zero]; rfl) (by kernel_rfl) (by kernel_rfl) (by kernel_rfl) (fun _ _ _ h => h) (Or.inl ⟨by rfl, ?_⟩) hHeld ?_
    rotate_left
    · intro wz hSw; (try dsimp only at hSw); go_simp; try with_reducible rfl
    (try simp only [Act.put, List.setIfInBounds_toArray, List.set_cons_zero, List.set_cons_succ])
    refine wpAnyH_take (i := 1) (v := ?_) (by simp only [List.getElem?_toArray, List.getElem?_cons_succ, List.getElem?_cons_zero]; rfl) (by kernel_rfl) (by kernel_rfl) (by kernel_rfl) (fun _ _ _ h => h) (Or.inl ⟨by rfl, ?_⟩) hHeld ?_
    rotate_left
    · intro wz hSw; (try dsimp only at hSw); go_simp; try with_reducible rfl
    (try simp only [Act.put, List.setIfInBounds_toArray, List.set_cons_zero, List.set_cons_succ])
    refine wpAnyH_take (i := 2) (v := ?_) (by simp only [List.getElem?_toArray, List.getElem?_cons_succ, List.getElem?_cons_zero]; rfl) (by kernel_rfl) (by kernel_rfl) (by kernel_rfl) (fun _ _ _ h => h) (Or.inl ⟨by rfl, ?_⟩) hHeld ?_
    rotate_left
    · intro wz hSw; (try dsimp only at hSw); go_simp; try with_reducible rfl
    (try simp only [Act.put, List.setIfInBounds_toArray, List.set_cons_zero, List.set_cons_succ])
    refine wpAnyH_take (i := 4) (v := ?_) (by simp only [List.getElem?_toArray, List.getElem?_cons_succ, List.getElem?_cons_zero]; rfl) (by kernel_rfl) (by kernel_rfl) (by kernel_rfl) (fun _ _ _ h => h) (Or.inl ⟨by rfl, ?_⟩) hHeld ?_
    rotate_left
    · intro wz hSw; (try dsimp only at hSw); go_simp; try with_reducible rfl
    (try simp only [Act.put, List.setIfInBounds_toArray, List.set_cons_zero, List.set_cons_succ])
    refine wpAnyH_take (i := 5) (v := ?_) (by simp only [List.getElem?_toArray, List.getElem?_cons_succ, List.getElem?_cons_zero]; rfl) (by kernel_rfl) (by kernel_rfl) (by kernel_rfl) (fun _ _ _ h => h) (Or.inl ⟨by rfl, ?_⟩) hHeld ?_
    rotate_left
    · intro wz hSw; (try dsimp only at hSw); go_simp; try with_reducible rfl
    (try simp only [Act.put, List.setIfInBounds_toArray, List.set_cons_zero, List.set_cons_succ])
    refine wpAnyH_take (i := 6) (v := ?_) (by simp only [List.getElem?_toArray, List.getElem?_cons_succ, List.getElem?_cons_zero]; rfl) (by kernel_rfl) (by kernel_rfl) (by kernel_rfl) (fun _ _ _ h => h) (Or.inl ⟨by rfl, ?_⟩) hHeld ?_
    rotate_left
    · intro wz hSw; (try dsimp only at hSw); go_simp; try with_reducible rfl
    (try simp only [Act.put, List.setIfInBounds_toArray, List.set_cons_zero, List.set_cons_succ])
    refine wpAnyH_ready (rs := [3]) (by kernel_rfl) (by simp) ?_
    refine AllReadyH.cons (by simp only [List.getElem?_toArray, List.getElem?_cons_succ, List.getElem?_cons_zero]; rfl) (fun KK hK => ?_) AllReadyH.nil
    go_simp; ((with_reducible refine Calls.mono F.out ?_); rintro e w1 ⟨rfl, d2, hc2⟩; have hT1 := hTd.onD hc2; have hX1 := hc2.K.blk hXd HG1.out; have hB1 := hBd.trans (hTd.belD hc2); have hg2 : d2.g = gd := hc2.g.trans HGd.out.symm); go_wp2_with fail
    refine hK.out _ _ ?_ (fun hHeld => ?_)
    · (have h := hX1.cell 1; simp only [d8c, List.getElem?_cons_zero, List.getElem?_cons_succ] at h; exact h)
    clear hK KK
    (try simp only [Act.put, List.setIfInBounds_toArray, List.set_cons_zero, List.set_cons_succ])
    have F0 := r_cut hT1.rk x
    rw [← HGr.out] at F0
    have F2 := Lib.hid F0
    clear F0
    refine wpAnyH_ready (rs := [7]) (by kernel_rfl) (by simp) ?_
    refine AllReadyH.cons (by simp only [List.getElem?_toArray, List.getElem?_cons_succ, List.getElem?_cons_zero]; rfl) (fun KK hK => ?_) AllReadyH.nil
    go_simp; ((with_reducible refine Calls.mono F2.out ?_); rintro e w2 ⟨rfl, r2, hc3⟩; have hT2 := hT1.onR hc3; have hX2 := hc3.K.blk hX1 HG2.out; have hB2 := hB1.trans (hT1.belR hc3)); go_wp2_with fail
    refine hK.out _ _ ?_ (fun hHeld => ?_)
    · (have h := hX2.cell 1; simp only [d8c, List.getElem?_cons_zero, List.getElem?_cons_succ] at h; exact h)
    clear hK KK
    (try simp only [Act.put, List.setIfInBounds_toArray, List.set_cons_zero, List.set_cons_succ])
    refine wpAnyH_take (i := 8) (v := ?_) (by simp only [List.getElem?_toArray, List.getElem?_cons_succ, List.getElem?_cons_zero]; rfl) (by kernel_rfl) (by kernel_rfl) (by kernel_rfl) (fun _ _ _ h => h) (Or.inl ⟨by rfl, ?_⟩) hHeld ?_
    rotate_left
    · intro wz hSw; (try dsimp only at hSw); go_simp; try with_reducible rfl
    (try simp only [Act.put, List.setIfInBounds_toArray, List.set_cons_zero, List.set_cons_succ])
    refine wpAnyH_done (by kernel_rfl) ?_ _
    simp only [lastQ]
    go_simp
    rw [← HS2.out, ← HT2.out] at hT2
    have HTw := Lib.hid hT2
    have HB2 := Lib.hid hB2
    have HGr2 : Hid (r2.g = gr) := Lib.hid (hc3.g.trans HGr.out.symm)
    clear hT2 hB2 hX2 hc3 hX1 hT1 hB1 hc2 hTd hXd hBd F F2 hHeld
    go_wp2
    go_ret
    exact ⟨by simp [HR.out.n_], _, _, HTw.out, hg2, HGr2.out, HB2.out⟩
end Go.Proofs.Ytnclebnodkkgnaa
