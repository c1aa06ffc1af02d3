/- disk.Power. Conditions: fewer than 2^39 versions of a sector; the picks lie outside the disk. -/
import Derived.Test.YtjndopmjlbhajaaDkDel
namespace Go.Proofs.Ytjndopmjlbhajaa
open Go.RowKit Go.Maps
set_option linter.unusedSimpArgs false
set_option linter.unusedVariables false

def iz (l : List Int) : List Value := l.map (Value.int .i64)
theorem length_iz (l : List Int) : (iz l).length = l.length := by simp [iz]
/-- which version is picked: 0: none -/
def pmod (x : Int) (V : Nat) : Nat := (x % ((V : Int) + 1)).toNat
theorem pmod_le (x : Int) (V : Nat) : pmod x V ≤ V := by
  have h1 := Int.emod_nonneg x (show ((V : Int) + 1) ≠ 0 by omega)
  have h2 := Int.emod_lt_of_pos x (show 0 < ((V : Int) + 1) by omega)
  unfold pmod; omega
theorem pmod_go (x : Int) (V : Nat) : -((V : Int) + 1) < Int.tmod x ((V : Int) + 1) ∧ Int.tmod x ((V : Int) + 1) < (V : Int) + 1 ∧ (Int.tmod x ((V : Int) + 1) + ((V : Int) + 1)) % ((V : Int) + 1) = (pmod x V : Int) := by
  have h1 := Int.emod_nonneg x (show ((V : Int) + 1) ≠ 0 by omega)
  have h2 := Int.emod_lt_of_pos x (show 0 < ((V : Int) + 1) by omega)
  have h3 := Int.tmod_lt_of_pos x (show 0 < ((V : Int) + 1) by omega)
  have h4 := Int.lt_tmod_of_pos x (show 0 < ((V : Int) + 1) by omega)
  refine ⟨by omega, by omega, ?_⟩
  have e : Int.tmod x ((V : Int) + 1) % ((V : Int) + 1) = x % ((V : Int) + 1) := by
    rw [Int.tmod_eq_emod]
    split
    · simp
    · rw [Int.sub_emod]
      have : ((((V : Int) + 1).natAbs : Int)) % ((V : Int) + 1) = 0 := by
        rw [show ((((V : Int) + 1).natAbs : Int)) = (V : Int) + 1 by omega, Int.emod_self]
      rw [this, Int.sub_zero, Int.emod_emod_of_dvd _ (Int.dvd_refl _), Int.emod_emod_of_dvd _ (Int.dvd_refl _)]
  rw [Int.add_emod, Int.emod_self, Int.add_zero, Int.emod_emod_of_dvd _ (Int.dvd_refl _), e]
  unfold pmod
  omega
theorem dirty_cut (s : Dsk) (b : Bool) : dirtyL { s with cut := b } = dirtyL s := rfl

def powerStep (t : Dsk) (ps : List Int) (i k : Nat) : Dsk :=
  delV (if i < ps.length ∧ 0 < pmod (ps.getD i 0) (t.vers k).length then layD t k ((t.vers k).getD (pmod (ps.getD i 0) (t.vers k).length - 1) []) else t) k
def powerTo (s : Dsk) (ps : List Int) : Nat → Dsk
  | 0 => { s with cut := false }
  | i + 1 => powerStep (powerTo s ps i) ps i ((dirtyL s).getD i 0)
def powerD (s : Dsk) (ps : List Int) : Dsk := powerTo s ps (dirtyL s).length
theorem step_vers (t : Dsk) (ps : List Int) (i k j : Nat) : (powerStep t ps i k).vers j = if j = k then [] else t.vers j := by
  unfold powerStep delV
  split <;> rfl
theorem step_n (t : Dsk) (ps : List Int) (i k : Nat) : (powerStep t ps i k).n = t.n := by
  unfold powerStep delV
  split <;> rfl
theorem powerTo_n (s : Dsk) (ps : List Int) (i : Nat) : (powerTo s ps i).n = s.n := by
  induction i with
  | zero => rfl
  | succ i ih => rw [powerTo, step_n, ih]
theorem powerTo_vers (s : Dsk) (ps : List Int) {k : Nat} : ∀ i, (∀ j, j < i → (dirtyL s).getD j 0 ≠ k) → (powerTo s ps i).vers k = s.vers k
  | 0, _ => rfl
  | i + 1, h => by rw [powerTo, step_vers, if_neg (Ne.symm (h i (by omega))), powerTo_vers s ps i (fun j hj => h j (by omega))]
theorem dirty_inj (s : Dsk) {i j : Nat} (hi : i < (dirtyL s).length) (hj : j < i) : (dirtyL s).getD j 0 ≠ (dirtyL s).getD i 0 := by
  have := List.pairwise_iff_getElem.1 (dirty_asc s) j i (by omega) hi hj
  rw [List.getD_eq_getElem?_getD, List.getD_eq_getElem?_getD, List.getElem?_eq_getElem hi, List.getElem?_eq_getElem (by omega)]
  simp only [Option.getD_some]
  omega
theorem dirty_get {s : Dsk} {i : Nat} (hi : i < (dirtyL s).length) : (dirtyL s).getD i 0 < s.n ∧ s.vers ((dirtyL s).getD i 0) ≠ [] := by
  have : (dirtyL s).getD i 0 ∈ dirtyL s := by
    rw [List.getD_eq_getElem?_getD, List.getElem?_eq_getElem hi]
    exact List.getElem_mem _
  exact mem_dirty.1 this

set_option maxRecDepth 100000 in
set_option maxHeartbeats 8000000 in
theorem dpower_any {w : World} {base : Nat} {d : Dw} {s : Dsk} (h : Dk w base d s) (hv : ∀ k, k < s.n → (s.vers k).length < 549755813887) {lo m c : Nat} {A : Option Addr} {ps : List Int} (hp : Rd w lo A (iz ps)) (hl : ps.length = m) (hm : m ≤ 4611686018427387904)
    (hA : 0 < m → ∀ b, ablk A = some b → ¬ d.foot b) :
    Calls Try.prog 46 #[.pointer (some ⟨d.g, 0, none⟩), .slice A m c] w fun e w' => e = .returned (.tuple #[]) ∧ ∃ d', Ch w w' base d d' (powerD s ps) := by
  have bc := h.blk.cells
  have bf := h.blk.frees
  have HV := Lib.hid hv
  have HP := Lib.hid hp
  have HL := Lib.hid hl
  have HA := Lib.hid hA
  have hbk := h.blk.set_ 2 (.bool false)
  have K0 : Kept (fun b => b = d.g) w (w.setCell ⟨d.g, 2, none⟩ (.bool false)) := ⟨rfl, rfl, rfl, by simp, fun b _ hn => Below.heap_setCell w _ _ b hn⟩
  have h1 : Ch w (w.setCell ⟨d.g, 2, none⟩ (.bool false)) base d d { s with cut := false } := ⟨h.reblk K0 h.left hbk, rfl, K0.mono (fun b _ e => .inl e), fun b hb => .inl hb⟩
  have D0 := dirty_any h1.dk
  rw [dirty_cut] at D0
  have H1 := Lib.hid h1
  have HS := Lib.hid h.small
  clear h hv hp hl hA hbk K0 h1
  have D := Lib.hid D0
  clear D0
  go_enter Try.func46, Try.ntmps46
  go_upto_region 2 with ((with_reducible refine Calls.mono D.out ?_); rintro e w1 ⟨Ad, cd, rfl, ho, hb⟩)
  have hCh := H1.out.below hb (Nat.le_refl _)
  have hOff : ∀ b, ablk Ad = some b → ¬ d.foot b := fun b e x => by
    have h1 := (ho.blk e).1
    have h2 := (H1.out.dk.foot_base b x).2
    omega
  have HCh := Lib.hid hCh
  have HO := Lib.hid ho
  have HOff := Lib.hid hOff
  obtain ⟨gd, hgd⟩ : ∃ gd, gd = d.g := ⟨_, rfl⟩
  have HG := Lib.hid hgd
  rw [← hgd]
  clear hCh ho hOff hb D H1 hgd bc bf
  obtain ⟨dl, hdl⟩ : ∃ dl, dl = dirtyL s := ⟨_, rfl⟩
  have hdn : dl.length ≤ 4096 := by
    rw [hdl]
    have h1 : (dirtyL s).length ≤ s.n := by
      have := List.length_filter_le (fun k => !(s.vers k).isEmpty) (List.range s.n)
      rw [List.length_range] at this
      exact this
    exact Nat.le_trans h1 HS.out.2
  rw [← hdl] at HO ⊢
  have HDL := Lib.hid hdl
  clear hdl
  go_loopw [4, 5, 6, 7, 8, 15] (fun _ _ _ _ _ s15 wr => ∃ (i : Nat) (d1 : Dw), i ≤ dl.length ∧ s15 = .int .i64 i ∧ Ch w wr base d d1 (powerTo s ps i) ∧ (∃ lo, Own wr lo 3 1 Ad dl.length cd (iv dl)) ∧ ∀ b, ablk Ad = some b → ¬ d1.foot b) (fun _ _ _ _ _ s15 _ => dl.length - (intOf s15).toNat)
  case atStart => exact ⟨0, d, by omega, rfl, HCh.out, ⟨_, HO.out⟩, HOff.out⟩
  case round =>
    clear HCh HO HOff
    obtain ⟨i, d1, hi, rfl, hCh, ⟨lo1, hO⟩, hOff⟩ := hrel
    have HCh := Lib.hid hCh
    have HO := Lib.hid hO
    have HOff := Lib.hid hOff
    clear hCh hO hOff
    by_cases hlt : i < dl.length
    · obtain ⟨k, hk⟩ : ∃ k, k = dl.getD i 0 := ⟨_, rfl⟩
      obtain ⟨gi, rfl, hgl, hgc⟩ := own_iv HO.out hlt
      rw [← hk] at hgc
      have hkn : k < s.n ∧ s.vers k ≠ [] := by rw [hk, HDL.out]; exact dirty_get (by rw [← HDL.out]; exact hlt)
      have hvk : (powerTo s ps i).vers k = s.vers k := powerTo_vers s ps i (fun j hj => by rw [hk, HDL.out]; exact dirty_inj s (by rw [← HDL.out]; exact hlt) hj)
      have hstep : powerTo s ps (i + 1) = powerStep (powerTo s ps i) ps i k := by rw [powerTo, hk, HDL.out]
      obtain ⟨t, ht⟩ : ∃ t, t = powerTo s ps i := ⟨_, rfl⟩
      have htn : t.n = s.n := by rw [ht, powerTo_n]
      have hCh := HCh.out
      rw [← ht] at hCh hvk hstep
      have HT := Lib.hid ht
      obtain ⟨V, hV⟩ : ∃ V, V = (t.vers k).length := ⟨_, rfl⟩
      have hV1 : 0 < V ∧ V < 549755813887 := by
        rw [hV, hvk]
        refine ⟨?_, HV.out k hkn.1⟩
        cases hx : s.vers k with
        | nil => exact absurd hx hkn.2
        | cons => simp
      have hkt : k < t.n := by rw [htn]; exact hkn.1
      have hlk := hCh.dk.look hkt (w' := wr) rfl
      rw [← hV] at hlk
      have bc := hCh.dk.blk.cells
      rw [hCh.g, ← HG.out] at bc
      have HCt := Lib.hid hCh
      have HStep := Lib.hid hstep
      have HK := Lib.hid hk
      have HVe := Lib.hid hV
      have hs := HS.out
      have HTN := Lib.hid htn
      clear hk hkn hvk hstep ht hV htn hCh
      have hz0 := HS.out.2
      have hMn := HCt.out.dk.small
      by_cases him : i < m
      · obtain ⟨bp, op, rfl, _, hbp, hcp⟩ := HP.out (by rw [length_iz, HL.out]; omega)
        have hcp2 := hcp i (by rw [length_iz, HL.out]; exact him)
        obtain ⟨x, hx⟩ : ∃ x, x = ps.getD i 0 := ⟨_, rfl⟩
        have hxe : (iz ps)[i]'(by rw [length_iz, HL.out]; exact him) = .int .i64 x := by
          rw [hx]
          simp only [iz, List.getElem_map]
          rw [List.getD_eq_getElem?_getD, List.getElem?_eq_getElem (by rw [HL.out]; exact him)]
          rfl
        rw [hxe] at hcp2
        have hcx : wr.cell? ⟨bp, op + i, none⟩ = some (.int .i64 x) := (World.cell?_of_block (a := ⟨bp, op + i, none⟩) (HCt.out.K.block bp hbp (HA.out (by omega) bp rfl))).trans hcp2
        obtain ⟨y1, y2, y3⟩ := pmod_go x V
        have hple := pmod_le x V
        obtain ⟨y, hy⟩ : ∃ y, y = Int.tmod x ((V : Int) + 1) := ⟨_, rfl⟩
        obtain ⟨p, hp⟩ : ∃ p, p = pmod x V := ⟨_, rfl⟩
        rw [← hy] at y1 y2 y3
        rw [← hp] at y3 hple
        have ey : Int.tmod x ((V : Int) + 1) = y := hy.symm
        have ey2 : IntKind.i64.wrap (y + ((V : Int) + 1)) = y + ((V : Int) + 1) := IntWalk.i64_in _ (by omega)
        have ey3 : Int.tmod (y + ((V : Int) + 1)) ((V : Int) + 1) = (p : Int) := by rw [Int.tmod_eq_emod_of_nonneg (by omega)]; exact y3
        have hV2 : IntKind.i64.wrap ((V : Int) + 1) = (V : Int) + 1 := IntWalk.i64_in _ (by omega)
        have ey4 : IntKind.i64.wrap y = y := IntWalk.i64_in _ (by omega)
        have hV0 : ¬ ((V : Int) + 1 = 0) := by omega
        have HX0 := Lib.hid hx
        have HPE := Lib.hid hp
        clear hy hxe hcp2 hcp hx hp
        rcases Nat.eq_zero_or_pos p with h0 | h0
        · have hEq : delV t k = powerStep t ps i k := by
            unfold powerStep
            rw [← HX0.out, ← HVe.out, ← HPE.out, if_neg (by omega)]
          have HEq := Lib.hid hEq
          subst h0
          clear hEq
          obtain ⟨D, hD⟩ := HCt.out.dk.map
          have HDm := Lib.hid hD
          have HX := Lib.hid (Ch.init HCt.out.dk)
          have HXk := Lib.hid hkt
          clear hD
          go_upto_region 11 with (at_delete; refine wpList_delete_own _ rfl _ _ 62 3 rfl 61 law3 Try.underlying62 RV d1.M t.n D rfl HDm.out.1 _ _ rfl (key_kl k (by omega)) ?_; intro w8 hm8 hg8)
          have hDel := HX.out.dk.del (k := k) HXk.out HDm.out hm8 hg8.grown
          have hX := HX.out
          clear hm8 hg8 HX HDm HXk
          have hEq := HEq.out
          clear HEq
          have hCh2 := HCt.out.trans (hX.trans hDel)
          have hOw := own_kept HO.out (hX.trans hDel).K (fun b e => HOff.out b e)
          have hOf := fun b e => (hX.trans hDel).away (HOff.out b e) (HO.out.blk e).2
          rw [hEq] at hCh2
          rw [← HStep.out] at hCh2
          have HCh2 := Lib.hid hCh2
          have HOw := Lib.hid hOw
          have HOf := Lib.hid hOf
          clear hCh2 hOw hOf hDel hX hEq
          go_wp2
          go_roundw
          case rel => exact ⟨i + 1, _, by omega, by norm_cast, HCh2.out, ⟨lo1, HOw.out⟩, HOf.out⟩
          case measure => simp only [intOf]; omega
        · obtain ⟨q, rfl⟩ : ∃ q, p = q + 1 := ⟨p - 1, by omega⟩
          obtain ⟨bv_, hAv, hrv, hrl⟩ := HCt.out.dk.ver (k := k) (q := q) hkt (by rw [← HVe.out]; omega)
          obtain ⟨z, hz⟩ : ∃ z, z = (t.vers k).getD q [] := ⟨_, rfl⟩
          rw [← hz] at hrv hrl
          rw [hAv] at hlk
          have hEq : delV (layD t k z) k = powerStep t ps i k := by
            unfold powerStep
            rw [← HX0.out, ← HVe.out, ← HPE.out, if_pos ⟨by rw [HL.out]; exact him, h0⟩, hz, Nat.add_sub_cancel]
          have HEq := Lib.hid hEq
          have HRV := Lib.hid hrv
          have HRL := Lib.hid hrl
          have hknI : (k : Int) < (t.n : Int) := by omega
          have hqV : ((q : Int)) < (V : Int) := by omega
          have eq1 : IntKind.i64.wrap (((q + 1 : Nat) : Int) - 1) = (q : Int) := by rw [IntWalk.i64_in _ (by omega)]; omega
          have eq2 : ((q + 1 : Nat) : Int) - 1 = (q : Int) := by omega
          have eq3 : IntKind.i64.wrap (q : Int) = (q : Int) := IntWalk.i64_in _ (by omega)
          have hkb : k * 256 + 256 ≤ t.n * 256 := by omega
          clear hEq hz hrv hrl hAv
          go_upto_region 9 with fail
          have hX0 : Ch wr wr.drew base d1 d1 t := (Ch.init HCt.out.dk).below (B := wr.heap.size) (Below.refl _ _).drew (Nat.le_refl _)
          have HX0' := Lib.hid hX0
          have hrd := (World.rangeAt_drew wr bv_ (q * 256) (bvs z)).2 HRV.out
          have bd := hX0.dk.blk.cell 0
          rw [hX0.g, HCt.out.g, ← HG.out] at bd
          refine wp_region_last (S := fun w' => w'.cell? ⟨gd, 0, none⟩ = some (.slice (some ⟨d1.L, 0, none⟩) t.n d1.lc) ∧ w'.rangeAt bv_ (q * 256) (bvs z)) 11 (by kernel_rfl) rfl (by kernel_rfl) ?_ ?_
          · exact ⟨bd, hrd⟩
          intro hHeld
          simp only [List.take_succ_cons, List.take_zero]
          refine wpAnyH_take (i := 0) (v := ?_) (by simp only [List.getElem?_toArray, List.getElem?_cons_succ, List.getElem?_cons_zero]; rfl) (by kernel_rfl) (by kernel_rfl) (by kernel_rfl) (fun _ _ _ h => h) (Or.inl ⟨by rfl, ?_⟩) hHeld ?_
          rotate_left
          · intro wz hSw; (try dsimp only at hSw); go_simp; try with_reducible rfl
          (try simp only [Act.put, List.setIfInBounds_toArray, List.set_cons_zero, List.set_cons_succ])
          refine wpAnyH_take (i := 1) (v := ?_) (by simp only [List.getElem?_toArray, List.getElem?_cons_succ, List.getElem?_cons_zero]; rfl) (by kernel_rfl) (by kernel_rfl) (by kernel_rfl) (fun _ _ _ h => h) (Or.inl ⟨by rfl, ?_⟩) hHeld ?_
          rotate_left
          · intro wz hSw; (try dsimp only at hSw); go_simp; try with_reducible rfl
          (try simp only [Act.put, List.setIfInBounds_toArray, List.set_cons_zero, List.set_cons_succ])
          refine wpAnyH_take (i := 2) (v := ?_) (by simp only [List.getElem?_toArray, List.getElem?_cons_succ, List.getElem?_cons_zero]; rfl) (by kernel_rfl) (by kernel_rfl) (by kernel_rfl) (fun _ _ _ h => h) (Or.inl ⟨by rfl, ?_⟩) hHeld ?_
          rotate_left
          · intro wz hSw; (try dsimp only at hSw); go_simp; try with_reducible rfl
          (try simp only [Act.put, List.setIfInBounds_toArray, List.set_cons_zero, List.set_cons_succ])
          refine wpAnyH_take (i := 3) (v := ?_) (by simp only [List.getElem?_toArray, List.getElem?_cons_succ, List.getElem?_cons_zero]; rfl) (by kernel_rfl) (by kernel_rfl) (by kernel_rfl) (fun _ _ _ h => h) (Or.inl ⟨by rfl, ?_⟩) hHeld ?_
          rotate_left
          · intro wz hSw; (try dsimp only at hSw); go_simp; try with_reducible rfl
          (try simp only [Act.put, List.setIfInBounds_toArray, List.set_cons_zero, List.set_cons_succ])
          refine wpAnyH_take (i := 4) (v := ?_) (by simp only [List.getElem?_toArray, List.getElem?_cons_succ, List.getElem?_cons_zero]; rfl) (by kernel_rfl) (by kernel_rfl) (by kernel_rfl) (fun _ _ _ h => h) (Or.inl ⟨by rfl, ?_⟩) hHeld ?_
          rotate_left
          · intro wz hSw; (try dsimp only at hSw); go_simp; try with_reducible rfl
          (try simp only [Act.put, List.setIfInBounds_toArray, List.set_cons_zero, List.set_cons_succ])
          refine wpAnyH_take (i := 5) (v := ?_) (by simp only [List.getElem?_toArray, List.getElem?_cons_succ, List.getElem?_cons_zero]; rfl) (by kernel_rfl) (by kernel_rfl) (by kernel_rfl) (fun _ _ _ h => h) (Or.inl ⟨by rfl, ?_⟩) hHeld ?_
          rotate_left
          · intro wz hSw; (try dsimp only at hSw); go_simp; try with_reducible rfl
          (try simp only [Act.put, List.setIfInBounds_toArray, List.set_cons_zero, List.set_cons_succ])
          refine wpAnyH_take (i := 6) (v := ?_) (by simp only [List.getElem?_toArray, List.getElem?_cons_succ, List.getElem?_cons_zero]; rfl) (by kernel_rfl) (by kernel_rfl) (by kernel_rfl) (fun _ _ _ h => h) (Or.inl ⟨by rfl, ?_⟩) hHeld ?_
          rotate_left
          · intro wz hSw; (try dsimp only at hSw); go_simp; try with_reducible rfl
          (try simp only [Act.put, List.setIfInBounds_toArray, List.set_cons_zero, List.set_cons_succ])
          refine wpAnyH_take (i := 7) (v := ?_) (by simp only [List.getElem?_toArray, List.getElem?_cons_succ, List.getElem?_cons_zero]; rfl) (by kernel_rfl) (by kernel_rfl) (by kernel_rfl) (fun _ _ _ h => h) (Or.inl ⟨by rfl, ?_⟩) hHeld ?_
          rotate_left
          · intro wz hSw; (try dsimp only at hSw); go_simp; try with_reducible rfl
          (try simp only [Act.put, List.setIfInBounds_toArray, List.set_cons_zero, List.set_cons_succ])
          refine wpAnyH_take (i := 8) (v := ?_) (by simp only [List.getElem?_toArray, List.getElem?_cons_succ, List.getElem?_cons_zero]; rfl) (by kernel_rfl) (by kernel_rfl) (by kernel_rfl) (fun _ _ _ h => h) (Or.inl ⟨by rfl, ?_⟩) hHeld ?_
          rotate_left
          · intro wz hSw; (try dsimp only at hSw); go_simp; try with_reducible rfl
          (try simp only [Act.put, List.setIfInBounds_toArray, List.set_cons_zero, List.set_cons_succ])
          refine wpAnyH_take (i := 9) (v := .agg (bvs z).toArray) (by simp only [List.getElem?_toArray, List.getElem?_cons_succ, List.getElem?_cons_zero]; rfl) (by kernel_rfl) (by kernel_rfl) (by kernel_rfl) (fun _ _ _ h => h) (yieldsIf_load_mid (by rfl) 100 (.tmp 53) rfl bv_ (q * 256) (by rfl) (bvs z) _ (fun _ hS => hS.2) Try.underlying100 rfl (by rw [info93]; simp [length_bvs, HRL.out])) hHeld ?_
          (try simp only [Act.put, List.setIfInBounds_toArray, List.set_cons_zero, List.set_cons_succ])
          refine wpAnyH_take (i := 10) (v := ?_) (by simp only [List.getElem?_toArray, List.getElem?_cons_succ, List.getElem?_cons_zero]; rfl) (by kernel_rfl) (by kernel_rfl) (by kernel_rfl) (fun _ _ _ h => h) (Or.inl ⟨by rfl, ?_⟩) hHeld ?_
          rotate_left
          · intro wz hSw; (try dsimp only at hSw); go_simp; try with_reducible rfl
          (try simp only [Act.put, List.setIfInBounds_toArray, List.set_cons_zero, List.set_cons_succ])
          refine wpAnyH_done (by kernel_rfl) ?_ _
          simp only [lastQ]
          refine wp_store_mid 100 (.tmp 55) (.tmp 54) rfl d1.L (k * 256) (bvs z).toArray (by first | rfl | (go_simp; rfl)) (by first | rfl | (go_simp; rfl)) (by rw [List.size_toArray, length_bvs, HRL.out]; exact HX0'.out.dk.there_k hkt) (by rw [info93, List.size_toArray, length_bvs, HRL.out]) (all_oneCell_toArray (bvs_oneCell _)) ?_
          rw [List.toList_toArray]
          (try simp only [Act.put, List.setIfInBounds_toArray, List.set_cons_zero, List.set_cons_succ])
          have hd6 := HX0'.out.dk.lay hkt HRL.out
          have hX : Ch wr (wr.drew.setCells d1.L (k * 256) (bvs z)) base d1 d1 (layD t k z) := HX0'.out.trans ⟨hd6, rfl, kept_setCells.mono (fun b _ e => .inr (.inl e)), fun b hb => .inl hb⟩
          have HX := Lib.hid hX
          clear hHeld hd6 hX hX0 HX0' hrd bd hlk bc
          generalize wr.drew.setCells d1.L (k * 256) (bvs z) = w6 at *
          obtain ⟨D, hD⟩ := HX.out.dk.map
          have HDm := Lib.hid hD
          have HXk : Hid (k < (layD t k z).n) := Lib.hid hkt
          have bc := HX.out.dk.blk.cells
          rw [HX.out.g, HCt.out.g, ← HG.out] at bc
          clear hD
          go_upto_region 11 with (at_delete; refine wpList_delete_own _ rfl _ _ 62 3 rfl 61 law3 Try.underlying62 RV d1.M (layD t k z).n D rfl HDm.out.1 _ _ rfl (key_kl k (by omega)) ?_; intro w8 hm8 hg8)
          have hDel := HX.out.dk.del (k := k) HXk.out HDm.out hm8 hg8.grown
          have hX := HX.out
          clear hm8 hg8 HX HDm HXk
          have hEq := HEq.out
          clear HEq
          have hCh2 := HCt.out.trans (hX.trans hDel)
          have hOw := own_kept HO.out (hX.trans hDel).K (fun b e => HOff.out b e)
          have hOf := fun b e => (hX.trans hDel).away (HOff.out b e) (HO.out.blk e).2
          rw [hEq] at hCh2
          rw [← HStep.out] at hCh2
          have HCh2 := Lib.hid hCh2
          have HOw := Lib.hid hOw
          have HOf := Lib.hid hOf
          clear hCh2 hOw hOf hDel hX hEq
          go_wp2
          go_roundw
          case rel => exact ⟨i + 1, _, by omega, by norm_cast, HCh2.out, ⟨lo1, HOw.out⟩, HOf.out⟩
          case measure => simp only [intOf]; omega
      · have hEq : delV t k = powerStep t ps i k := by
          unfold powerStep
          rw [if_neg (by rw [HL.out]; omega)]
        have HEq := Lib.hid hEq
        clear hEq
        obtain ⟨D, hD⟩ := HCt.out.dk.map
        have HDm := Lib.hid hD
        have HX := Lib.hid (Ch.init HCt.out.dk)
        have HXk := Lib.hid hkt
        clear hD
        go_upto_region 11 with (at_delete; refine wpList_delete_own _ rfl _ _ 62 3 rfl 61 law3 Try.underlying62 RV d1.M t.n D rfl HDm.out.1 _ _ rfl (key_kl k (by omega)) ?_; intro w8 hm8 hg8)
        have hDel := HX.out.dk.del (k := k) HXk.out HDm.out hm8 hg8.grown
        have hX := HX.out
        clear hm8 hg8 HX HDm HXk
        have hEq := HEq.out
        clear HEq
        have hCh2 := HCt.out.trans (hX.trans hDel)
        have hOw := own_kept HO.out (hX.trans hDel).K (fun b e => HOff.out b e)
        have hOf := fun b e => (hX.trans hDel).away (HOff.out b e) (HO.out.blk e).2
        rw [hEq] at hCh2
        rw [← HStep.out] at hCh2
        have HCh2 := Lib.hid hCh2
        have HOw := Lib.hid hOw
        have HOf := Lib.hid hOf
        clear hCh2 hOw hOf hDel hX hEq
        go_wp2
        go_roundw
        case rel => exact ⟨i + 1, _, by omega, by norm_cast, HCh2.out, ⟨lo1, HOw.out⟩, HOf.out⟩
        case measure => simp only [intOf]; omega
    · obtain rfl : i = dl.length := by omega
      go_wp2
      go_end0
      refine ⟨rfl, d1, ?_⟩
      have hc := HCh.out
      unfold powerD
      rw [HDL.out] at hc
      exact hc
end Go.Proofs.Ytjndopmjlbhajaa
