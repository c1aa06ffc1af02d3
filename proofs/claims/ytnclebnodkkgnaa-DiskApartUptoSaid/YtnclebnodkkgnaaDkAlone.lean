/- kistlaw08.alone: a deed, of the document's disk alone. Conditions: fewer than 2^39 versions; the picks lie outside the disk. -/
import Derived.Test.YtnclebnodkkgnaaDkWhole
namespace Go.Proofs.Ytnclebnodkkgnaa
open Go.RowKit Go.Maps
set_option linter.unusedSimpArgs false
set_option linter.unusedVariables false

set_option maxRecDepth 100000 in
set_option maxHeartbeats 16000000 in
theorem alone_any {w : World} {br : Nat} {r : Rw} {t : Dsk} (h : Rk w br r t) (hv : ∀ k, k < t.n → (t.vers k).length < 549755813887) {x : D8} (hx : D8Ok w x) (hp : 0 < x.pn → ∀ b, ablk x.pA = some b → b < br) :
    Calls Try.prog 41 #[.pointer (some ⟨r.g, 0, none⟩), .agg (d8c x).toArray] w fun e w' => e = .returned (.tuple #[]) ∧ ∃ r', Rch w w' br r r' t.n (tdo t x) := by
  have P0 := fun W => pick8_any x.K hx.k (n := 6) (by omega) (by omega) W
  have hkl := pickN_lt x.K (n := 6) (by omega)
  obtain ⟨kd, hkd⟩ : ∃ kd, kd = pickN x.K 6 := ⟨_, rfl⟩
  rw [← hkd] at P0 hkl
  push_cast at P0
  have P := Lib.hid P0
  have htd : tdo t x = tdoK t x kd := by rw [hkd]; rfl
  rw [htd]
  have hN := Blk.new w 48 (d8c x)
  have hB : Below w.heap.size w (w.alloc (.cells (d8c x).toArray 48)) := (Below.refl _ _).alloc (Nat.le_refl _) _
  have HN := Lib.hid hN
  have HB := Lib.hid hB
  have HV := Lib.hid hv
  have H := Lib.hid h
  have HX := Lib.hid hx
  have HP := Lib.hid hp
  obtain ⟨t2, ht2⟩ : ∃ z, z = tdoK t x kd := ⟨_, rfl⟩
  rw [← ht2]
  have HT2 := Lib.hid ht2
  clear P0 hkd htd h hx hp ht2 hN hB hv
  obtain ⟨gr, hgr⟩ : ∃ gr, gr = r.g := ⟨_, rfl⟩
  rw [← hgr]
  have HGr := Lib.hid hgr
  clear hgr
  go_enter Try.func41, Try.ntmps41
  go_upto_region 1 with fail
  refine wp_world (fun U => Blk U w.heap.size 48 (d8c x) ∧ Below w.heap.size w U) ⟨HN.out, HB.out⟩ ?_
  obtain ⟨gx, hgx⟩ : ∃ gx, gx = w.heap.size := ⟨_, rfl⟩
  rw [← hgx]
  clear HN HB
  rintro U ⟨hX, hB⟩
  have hBw : Below w.heap.size w U := by rw [hgx] at hB; exact hB
  have hbr : br ≤ w.heap.size := by have := H.out.foot_base r.g (.inl rfl); omega
  have hR := H.out.below hBw (Nat.le_refl _)
  have hx2 : D8Ok U x := HX.out.below hBw (fun h b e => Nat.lt_of_lt_of_le (HP.out h b e) hbr)
  have c0 := hX.cell 0
  have c1 := hX.cell 1
  have c5 := hX.cell 5
  simp only [d8c, List.getElem?_cons_zero, List.getElem?_cons_succ] at c0 c1 c5
  have hg2 : ¬ r.foot t.n gx := fun e => by have := (H.out.foot_base gx e).2; omega
  have HBx := Lib.hid hX
  have HR := Lib.hid hR
  have HB := Lib.hid hBw
  have HX2 := Lib.hid hx2
  have HG2 := Lib.hid hg2
  have hpr : ∀ b, 0 < x.pn → ablk x.pA = some b → ¬ r.foot t.n b := fun b h e y => by have := (H.out.foot_base b y).1; have := HP.out h b e; omega
  have HPr := Lib.hid hpr
  clear hX hB hR hBw hx2 hg2 HX H hgx hpr hbr
  go_upto_region 2 with ((with_reducible refine Calls.mono (P.out _) ?_); rintro e wa ⟨rfl, rfl⟩)
  obtain rfl | rfl | rfl | rfl | rfl | rfl : kd = 0 ∨ kd = 1 ∨ kd = 2 ∨ kd = 3 ∨ kd = 4 ∨ kd = 5 := by omega
  · go_upto_region 3 with fail
    have hBd : Below U.heap.size U U.drew := (Below.refl _ _).drew
    have hRd := HR.out.below hBd (Nat.le_refl _)
    have hXd : Blk U.drew gx 48 (d8c x) := HBx.out
    have B0 : Calls Try.prog 29 #[.agg (d8c x).toArray] U.drew _ := bytes8_any x.K x.at_ x.fl x.la x.sh x.pA x.pn x.pc HX2.out.a U.drew
    obtain ⟨m, hm⟩ : ∃ m, m = deedN x.at_ x.sh := ⟨_, rfl⟩
    rw [← hm] at B0
    have B := Lib.hid B0
    have HM := Lib.hid hm
    have hr0 : ∀ {W : World}, Blk W gx 48 (d8c x) → W.cell? ⟨gx, 1, none⟩ = some (.int .i64 x.at_) ∧ W.rangeAt gx 0 (d8c x) := fun {W} h => ⟨h.cell 1, fun q v hv => by rw [Nat.zero_add, show W.cell? ⟨gx, q, none⟩ = _ from h.cell q]; exact hv⟩
    clear B0 hm
    refine wp_region_last (S := fun w' => w'.cell? ⟨gx, 1, none⟩ = some (.int .i64 x.at_) ∧ w'.rangeAt gx 0 (d8c x)) 5 (by kernel_rfl) rfl (by kernel_rfl) ?_ ?_
    · exact hr0 hXd
    intro hHeld
    simp only [List.take_succ_cons, List.take_zero]
    refine wpAnyH_take (i := 0) (v := ?_) (by simp only [List.getElem?_toArray, List.getElem?_cons_succ, List.getElem?_cons_zero]; rfl) (by kernel_rfl) (by kernel_rfl) (by kernel_rfl) (fun _ _ _ h => h) (Or.inl ⟨by rfl, ?_⟩) hHeld ?_
    rotate_left
    · intro wz hSw; (try dsimp only at hSw); go_simp; try with_reducible rfl
    (try simp only [Act.put, List.setIfInBounds_toArray, List.set_cons_zero, List.set_cons_succ])
    refine wpAnyH_take (i := 1) (v := ?_) (by simp only [List.getElem?_toArray, List.getElem?_cons_succ, List.getElem?_cons_zero]; rfl) (by kernel_rfl) (by kernel_rfl) (by kernel_rfl) (fun _ _ _ h => h) (Or.inl ⟨by rfl, ?_⟩) hHeld ?_
    rotate_left
    · intro wz hSw; (try dsimp only at hSw); go_simp; try with_reducible rfl
    (try simp only [Act.put, List.setIfInBounds_toArray, List.set_cons_zero, List.set_cons_succ])
    refine wpAnyH_take (i := 2) (v := ?_) (by simp only [List.getElem?_toArray, List.getElem?_cons_succ, List.getElem?_cons_zero]; rfl) (by kernel_rfl) (by kernel_rfl) (by kernel_rfl) (fun _ _ _ h => h) (Or.inl ⟨by rfl, ?_⟩) hHeld ?_
    rotate_left
    · intro wz hSw; (try dsimp only at hSw); go_simp; try with_reducible rfl
    (try simp only [Act.put, List.setIfInBounds_toArray, List.set_cons_zero, List.set_cons_succ])
    refine wpAnyH_take (i := 3) (v := .agg (d8c x).toArray) (by simp only [List.getElem?_toArray, List.getElem?_cons_succ, List.getElem?_cons_zero]; rfl) (by kernel_rfl) (by kernel_rfl) (by kernel_rfl) (fun _ _ _ h => h) (yieldsIf_load_mid (by rfl) 48 (.tmp 3) rfl gx 0 (by rfl) (d8c x) _ (fun _ hS => hS.2) Try.underlying48 rfl (by rw [sizeDeed]; rfl)) hHeld ?_
    (try simp only [Act.put, List.setIfInBounds_toArray, List.set_cons_zero, List.set_cons_succ])
    refine wpAnyH_ready (rs := [4]) (by kernel_rfl) (by simp) ?_
    refine AllReadyH.cons (by simp only [List.getElem?_toArray, List.getElem?_cons_succ, List.getElem?_cons_zero]; rfl) (fun KK hK => ?_) AllReadyH.nil
    go_simp; ((with_reducible refine Calls.mono B.out ?_); rintro e w6 ⟨g6, rfl, hx6, hg6, hb6⟩; have hR6 := hRd.below hb6 (Nat.le_refl _)); go_wp2_with fail
    refine hK.out _ _ ?_ (fun hHeld => ?_)
    · exact hr0 (hXd.below hb6 hXd.lt)
    clear hK KK
    (try simp only [Act.put, List.setIfInBounds_toArray, List.set_cons_zero, List.set_cons_succ])
    have F0 := r_write hR6 HV.out x hx6 (fun e => by have := (hRd.foot_base g6 e).2; omega)
    rw [← HGr.out, ← HM.out] at F0
    have F2 := Lib.hid F0
    clear F0
    refine wpAnyH_done (by kernel_rfl) ?_ _
    simp only [lastQ]
    have HB6 := Lib.hid ((HB.out.trans (hBd.mono HB.out.size)).trans (hb6.mono (Nat.le_trans HB.out.size hBd.size)))
    clear hx6 hb6 hR6 hXd hRd hBd hr0 hHeld B
    go_wp2_with ((with_reducible refine Calls.mono F2.out ?_); rintro e w2 ⟨rfl, r2, hc3⟩; have HF : Hid (Rch w w2 br r r2 t.n t2) := Lib.hid (by rw [HT2.out]; exact hc3.pre HB6.out (Nat.le_refl _)); clear hc3)
    go_end0
    exact ⟨rfl, _, HF.out⟩
  · have F0 := rflush_any HR.out
    rw [← HGr.out] at F0
    have F2 := Lib.hid F0
    clear F0
    go_wp2_with ((with_reducible refine Calls.mono F2.out ?_); rintro e w2 ⟨rfl, r2, hc3⟩; have HF : Hid (Rch w w2 br r r2 t.n t2) := Lib.hid (by rw [HT2.out]; exact hc3.pre HB.out (Nat.le_refl _)); clear hc3)
    go_end0
    exact ⟨rfl, _, HF.out⟩
  · have F0 := rpower_any HR.out HV.out (c := x.pc) HX2.out.p HX2.out.pl (by have := HX2.out.pz; omega) (fun h b e => HPr.out b h e)
    rw [← HGr.out] at F0
    have F2 := Lib.hid F0
    clear F0
    go_wp2_with ((with_reducible refine Calls.mono F2.out ?_); rintro e w2 ⟨rfl, r2, hc3⟩; have HF : Hid (Rch w w2 br r r2 t.n t2) := Lib.hid (by rw [HT2.out]; exact hc3.pre HB.out (Nat.le_refl _)); clear hc3)
    go_end0
    exact ⟨rfl, _, HF.out⟩
  · have F0 := r_rot HR.out HV.out x
    rw [← HGr.out] at F0
    have F2 := Lib.hid F0
    clear F0
    go_wp2_with ((with_reducible refine Calls.mono F2.out ?_); rintro e w2 ⟨rfl, r2, hc3⟩; have HF : Hid (Rch w w2 br r r2 t.n t2) := Lib.hid (by rw [HT2.out]; exact hc3.pre HB.out (Nat.le_refl _)); clear hc3)
    go_end0
    exact ⟨rfl, _, HF.out⟩
  · have HF : Hid (Rch w U br r r t.n t2) := Lib.hid (by rw [HT2.out]; exact (Rch.init HR.out).pre HB.out (Nat.le_refl _))
    go_wp2
    go_end0
    exact ⟨rfl, _, HF.out⟩
  · have F0 := r_cut HR.out x
    rw [← HGr.out] at F0
    have F2 := Lib.hid F0
    clear F0
    go_wp2_with ((with_reducible refine Calls.mono F2.out ?_); rintro e w2 ⟨rfl, r2, hc3⟩; have HF : Hid (Rch w w2 br r r2 t.n t2) := Lib.hid (by rw [HT2.out]; exact hc3.pre HB.out (Nat.le_refl _)); clear hc3)
    go_end0
    exact ⟨rfl, _, HF.out⟩
end Go.Proofs.Ytnclebnodkkgnaa
