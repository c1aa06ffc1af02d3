/- NodeHalves: its walk. (Printed by gen_nodhalf.py.) -/
import Derived.Test.YtnjpibbmgbiofaaNod
import Derived.Test.YtnjpibbmgbiofaaNodH
namespace Go.Proofs.Ytnjpibbmgbiofaa
open Go.RowKit
set_option linter.unusedSimpArgs false
set_option linter.unusedVariables false

/-- these cells are a node's -/
def IsNd (W : World) (p : Nd) (pv : List Value) : Prop := ∃ K nk ck V nv cv D nd cd, pv = [.bool p.leaf, .slice K nk ck, .slice V nv cv, .slice D nd cd] ∧ NdR W 0 p K nk ck V nv cv D nd cd
theorem IsNd.below {w w' : World} {B : Nat} {p : Nd} {pv : List Value} (h : IsNd w p pv) (hb : Below B w w') (hB : w.heap.size ≤ B) : IsNd w' p pv := by
  obtain ⟨K, nk, ck, V, nv, cv, D, nd, cd, h1, h2⟩ := h
  exact ⟨K, nk, ck, V, nv, cv, D, nd, cd, h1, h2.below hb hB⟩
/-- the heap while a node's halves are looked at -/
structure HvW (w W : World) (lf : Bool) (K : Option Addr) (nk ck : Nat) (V : Option Addr) (nv cv : Nat) (D : Option Addr) (nd cd : Nat) (p q : Nd) (gp gq : Nat) (pv qv : List Value) : Prop where
  box : Blk W w.heap.size 25 [.bool lf, .slice K nk ck, .slice V nv cv, .slice D nd cd]
  one : Blk W gp 26 pv
  two : Blk W gq 26 qv
  isp : IsNd W p pv
  isq : IsNd W q qv
  below : Below w.heap.size w W
section
variable {w W W' : World} {lf : Bool} {K : Option Addr} {nk ck : Nat} {V : Option Addr} {nv cv : Nat} {D : Option Addr} {nd cd : Nat} {p q : Nd} {gp gq : Nat} {pv qv : List Value}
theorem HvW.under (h : HvW w W lf K nk ck V nv cv D nd cd p q gp gq pv qv) (hb : Below W.heap.size W W') : HvW w W' lf K nk ck V nv cv D nd cd p q gp gq pv qv :=
  ⟨h.box.below hb h.box.lt, h.one.below hb h.one.lt, h.two.below hb h.two.lt, h.isp.below hb (Nat.le_refl _), h.isq.below hb (Nat.le_refl _), h.below.trans (hb.mono h.below.size)⟩
theorem HvW.drew (h : HvW w W lf K nk ck V nv cv D nd cd p q gp gq pv qv) : HvW w W.drew lf K nk ck V nv cv D nd cd p q gp gq pv qv := ⟨h.box, h.one, h.two, h.isp.below (B := W.heap.size) (Below.refl _ _).drew (Nat.le_refl _), h.isq.below (B := W.heap.size) (Below.refl _ _).drew (Nat.le_refl _), h.below.drew⟩
theorem HvW.drewN (h : HvW w W lf K nk ck V nv cv D nd cd p q gp gq pv qv) (n : Nat) : HvW w (W.drewN n) lf K nk ck V nv cv D nd cd p q gp gq pv qv := ⟨h.box, h.one, h.two, h.isp.below (B := W.heap.size) (below_drewN (Below.refl _ _) n) (Nat.le_refl _), h.isq.below (B := W.heap.size) (below_drewN (Below.refl _ _) n) (Nat.le_refl _), below_drewN h.below n⟩
theorem HvW.alloc (h : HvW w W lf K nk ck V nv cv D nd cd p q gp gq pv qv) (o : Obj) : HvW w (W.alloc o) lf K nk ck V nv cv D nd cd p q gp gq pv qv := h.under ((Below.refl _ _).alloc (Nat.le_refl _) _)
end

def lessOk (s : Nd) (i : Nat) : Prop := 0 < i → Op.bytesLess (kAt s (i - 1)).toList (kAt s i).toList = true
instance (s : Nd) (i : Nat) : Decidable (lessOk s i) := by unfold lessOk; infer_instance
theorem sl_one {l : List ByteArray} {i : Nat} (h : i < l.length) : ((sl l).take (i + 1)).drop i = sl [l.getD i .empty] := by
  rw [sl, ← List.map_take, ← List.map_drop, sl, List.getD_eq_getElem?_getD, List.getElem?_eq_getElem h, Option.getD_some, List.drop_take, show i + 1 - i = 1 by omega]
  congr 1
  rw [List.take_one, List.head?_drop, List.getElem?_eq_getElem h]
  rfl
theorem il_one {l : List Int} {i : Nat} (h : i < l.length) : ((il l).take (i + 1)).drop i = il [l.getD i 0] := by
  rw [il, ← List.map_take, ← List.map_drop, il, List.getD_eq_getElem?_getD, List.getElem?_eq_getElem h, Option.getD_some, List.drop_take, show i + 1 - i = 1 by omega]
  congr 1
  rw [List.take_one, List.head?_drop, List.getElem?_eq_getElem h]
  rfl
theorem ls_one {w : World} {lo b o n c : Nat} {l : List ByteArray} (h : Ls w lo (some ⟨b, o, none⟩) n c (sl l)) (i : Nat) (hi : i < n) : Ls w lo (some ⟨b, o + i, none⟩) 1 (c - i) (sl [l.getD i .empty]) := by
  have hl : l.length = n := by have := h.1; rwa [length_sl] at this
  have h1 := ls_cut h i (i + 1) (by omega) (by omega)
  rw [sl_one (by omega)] at h1
  exact ⟨by simp, by have := h.2.1; omega, by have := h.2.2.1; omega, h1⟩
theorem li_one {w : World} {lo b o n c : Nat} {l : List Int} (h : Ls w lo (some ⟨b, o, none⟩) n c (il l)) (i : Nat) (hi : i < n) : Ls w lo (some ⟨b, o + i, none⟩) 1 (c - i) (il [l.getD i 0]) := by
  have hl : l.length = n := by have := h.1; rwa [length_il] at this
  have h1 := ls_cut h i (i + 1) (by omega) (by omega)
  rw [il_one (by omega)] at h1
  exact ⟨by simp, by have := h.2.1; omega, by have := h.2.2.1; omega, h1⟩
theorem one_vals {s : Nd} {i : Nat} (h : s.leaf = true) (hi : i < s.vals.length) : (oneN s i).vals = [vAt s i] := by show (if _ then _ else _) = _; rw [if_pos ⟨h, hi⟩]
theorem one_vals_no {s : Nd} {i : Nat} (h : ¬ (s.leaf = true ∧ i < s.vals.length)) : (oneN s i).vals = [] := by show (if _ then _ else _) = _; rw [if_neg h]
theorem one_kids {s : Nd} {i : Nat} (h : s.leaf = false) (hi : i < s.kids.length) : (oneN s i).kids = [dAt s i] := by show (if _ then _ else _) = _; rw [if_pos ⟨h, hi⟩]
theorem one_kids_no {s : Nd} {i : Nat} (h : ¬ (s.leaf = false ∧ i < s.kids.length)) : (oneN s i).kids = [] := by show (if _ then _ else _) = _; rw [if_neg h]
theorem small_one {x : ByteArray} (h : x.size ≤ 140737488355328) (i : Nat) : ([x].getD i .empty).size ≤ 140737488355328 := by
  match i with
  | 0 => exact h
  | i + 1 => simp
theorem ndr_one {s : Nd} {i : Nat} {W : World} {lo b o nk ck nv cv nd cd : Nat} {V D Vx Dx : Option Addr} {nvx cvx ndx cdx : Nat} (h : NdR W lo s (some ⟨b, o, none⟩) nk ck V nv cv D nd cd) (hi : i < nk)
    (hv : Ls W 0 Vx nvx cvx (sl (oneN s i).vals)) (hd : Ls W 0 Dx ndx cdx (il (oneN s i).kids)) : NdR W 0 (oneN s i) (some ⟨b, o + i, none⟩) 1 (ck - i) Vx nvx cvx Dx ndx cdx := by
  have e1 : nvx ≤ 1 := by have := hv.1; rw [length_sl] at this; rw [← this]; show (if _ then _ else _ : List ByteArray).length ≤ 1; split <;> simp
  have e2 : ndx ≤ 1 := by have := hd.1; rw [length_il] at this; rw [← this]; show (if _ then _ else _ : List Int).length ≤ 1; split <;> simp
  refine ⟨(ls_one h.keys i hi).weak (Nat.zero_le _), hv, hd, fun j => small_one (h.ksmall i) j, fun j => ?_, by omega, by omega, by omega⟩
  show ((if _ then _ else _ : List ByteArray).getD j .empty).size ≤ _
  split
  · exact small_one (h.vsmall i) j
  · simp

set_option maxRecDepth 100000 in
set_option maxHeartbeats 4000000 in
theorem nodeHalves_any (s : Nd) {w : World} {lo : Nat} {K V D : Option Addr} {nk ck nv cv nd cd : Nat} (h : NdR w lo s K nk ck V nv cv D nd cd) :
    Calls Try.prog 6 #[.agg #[.bool s.leaf, .slice K nk ck, .slice V nv cv, .slice D nd cd]] w fun e w' => e = .returned (.bool true) ∧ Below w.heap.size w w' := by
  have HR := Lib.hid h
  have hkr := h.kroom
  have hvr := h.vroom
  have hdr := h.droom
  have hck := h.keys.2.1
  have hck2 := h.keys.2.2.1
  have hcv := h.vals.2.1
  have hcv2 := h.vals.2.2.1
  have hcd := h.kids.2.1
  have hcd2 := h.kids.2.2.1
  have HK : Hid (s.keys.length = nk) := h.nk_eq
  have HV : Hid (s.vals.length = nv) := h.nv_eq
  have HD : Hid (s.kids.length = nd) := h.nd_eq
  have bd := szV_bd (sizeN s)
  have HSz : Hid (∀ {w' : World}, Below w.heap.size w w' → Calls Try.prog 10 #[.agg #[.bool s.leaf, .slice K nk ck, .slice V nv cv, .slice D nd cd]] w' fun e w'' => e = .returned (.int .i64 (szV (sizeN s))) ∧ Below w'.heap.size w' w'') := fun hb => rsize_any s (HR.out.below hb (Nat.le_refl _))
  have HZ : Hid (∀ z, z = szV (sizeN s) → szV (sizeN s) = z) := fun z h => h.symm
  obtain ⟨z, hz⟩ : ∃ z, z = szV (sizeN s) := ⟨_, rfl⟩
  rw [← hz] at bd HSz
  have HZ2 := Lib.hid hz
  clear h HZ hz
  go_enter Try.func6, Try.ntmps6
  go_upto_region 1 with fail
  refine wp_world (fun U => Blk U w.heap.size 25 [.bool s.leaf, .slice K nk ck, .slice V nv cv, .slice D nd cd] ∧ Below w.heap.size w U) ⟨Blk.new w _ [.bool s.leaf, .slice K nk ck, .slice V nv cv, .slice D nd cd], (Below.refl _ _).alloc (Nat.le_refl _) _⟩ ?_
  rintro U ⟨B0, b0⟩
  have B0c := B0.cells
  have M1 := Lib.hid (HSz.out b0)
  clear HSz
  go_upto_region 2 with ((with_reducible refine Calls.mono M1.out ?_); rintro e w2 ⟨rfl, hb2⟩)
  refine wp_world (fun U => Blk U w.heap.size 25 [.bool s.leaf, .slice K nk ck, .slice V nv cv, .slice D nd cd] ∧ Below w.heap.size w U) ⟨B0.below hb2 B0.lt, b0.trans (hb2.mono b0.size)⟩ ?_
  clear B0 b0 B0c M1 hb2
  rintro U1 ⟨B0, b0⟩
  by_cases z1 : z ≤ 240
  · have d1 : decide (z ≤ 240) = true := decide_eq_true z1
    clear B0
    go_wp2_with (go_at_call 17; refine (nodlives_any _).mono ?_; rintro e w8 ⟨rfl, hb8⟩)
    go_ret
    exact ⟨rfl, b0.trans (hb8.mono b0.size)⟩
  have d1 : decide (z ≤ 240) = false := decide_eq_false z1
  by_cases z2 : 292 < z
  · have d2 : decide (292 < z) = true := decide_eq_true z2
    clear B0
    go_wp2_with (go_at_call 17; refine (nodlives_any _).mono ?_; rintro e w8 ⟨rfl, hb8⟩)
    go_ret
    exact ⟨rfl, b0.trans (hb8.mono b0.size)⟩
  have d2 : decide (292 < z) = false := decide_eq_false z2
  have HZZ : Hid (240 < szV (sizeN s) ∧ szV (sizeN s) ≤ 292) := by show _ ∧ _; rw [← HZ2.out]; omega
  have B0c := B0.cells
  have O1 := Lib.hid (of_any s (HR.out.below b0 (Nat.le_refl _)))
  go_upto_region 5 with (first
    | ((with_reducible refine Calls.mono O1.out ?_); rintro e w3 ⟨K1, ck1, V1, cv1, D1, cd1, rfl, n1, hb3⟩; have P1 := Lib.hid (split_any s n1))
    | ((with_reducible refine Calls.mono P1.out ?_); rintro e w4 ⟨p, q, Kp, nkp, ckp, Vp, nvp, cvp, Dp, ndp, cdp, Kq, nkq, ckq, Vq, nvq, cvq, Dq, ndq, cdq, rfl, np, nq, hspl, hb4⟩))
  have HSP := Lib.hid hspl
  have b34 := hb3.trans (hb4.mono hb3.size)
  obtain ⟨pv, hpv⟩ : ∃ pv, pv = [Value.bool p.leaf, .slice Kp nkp ckp, .slice Vp nvp cvp, .slice Dp ndp cdp] := ⟨_, rfl⟩
  obtain ⟨qv, hqv⟩ : ∃ qv, qv = [Value.bool q.leaf, .slice Kq nkq ckq, .slice Vq nvq cvq, .slice Dq ndq cdq] := ⟨_, rfl⟩
  refine wp_world (fun U => HvW w U s.leaf K nk ck V nv cv D nd cd p q w4.heap.size (w4.heap.size + 1) pv qv)
    ⟨((B0.below b34 B0.lt).alloc _).alloc _, by rw [hpv]; exact (Blk.new w4 _ [Value.bool p.leaf, .slice Kp nkp ckp, .slice Vp nvp cvp, .slice Dp ndp cdp]).alloc _, by rw [hqv]; exact Blk.new_at (cs := [Value.bool q.leaf, .slice Kq nkq ckq, .slice Vq nvq cvq, .slice Dq ndq cdq]) (by simp),
      ⟨Kp, nkp, ckp, Vp, nvp, cvp, Dp, ndp, cdp, hpv, (np.below (B := w4.heap.size) (((Below.refl _ _).alloc (Nat.le_refl _) _).alloc (by simp) _) (Nat.le_refl _)).weak (Nat.zero_le _)⟩, ⟨Kq, nkq, ckq, Vq, nvq, cvq, Dq, ndq, cdq, hqv, (nq.below (B := w4.heap.size) (((Below.refl _ _).alloc (Nat.le_refl _) _).alloc (by simp) _) (Nat.le_refl _)).weak (Nat.zero_le _)⟩,
      ((b0.trans (b34.mono b0.size)).alloc (b0.trans (b34.mono b0.size)).size _).alloc (by have := (b0.trans (b34.mono b0.size)).size; simp; omega) _⟩ ?_
  clear hpv hqv np nq hspl hb4 hb3 n1 b34 B0 b0 B0c O1 P1 d1 d2 z1 z2 bd HZ2
  generalize w4.heap.size + 1 = gq at *
  generalize w4.heap.size = gp at *
  rintro U2 hW
  go_wp2
  go_loopw [6, 7, 8] (fun s6 _ _ wr => ∃ i : Nat, i ≤ nk ∧ s6 = .int .i64 i ∧ (∀ j, j < i → mayN (oneN s j)) ∧ (∀ j, 0 < j → j < i → Op.bytesLess (kAt s (j - 1)).toList (kAt s j).toList = true) ∧ HvW w wr s.leaf K nk ck V nv cv D nd cd p q gp gq pv qv)
    (fun s6 _ _ _ => nk - (intOf s6).toNat)
  case atStart => exact ⟨0, Nat.zero_le _, rfl, fun j hj => absurd hj (by omega), fun j _ hj => absurd hj (by omega), hW⟩
  case round =>
    clear hW
    obtain ⟨i, hi, rfl, ho, hs, hW⟩ := hrel
    have HO := Lib.hid ho
    have HS := Lib.hid hs
    clear ho hs
    have bc := hW.box.cells
    by_cases hlt : i < nk
    · have hqn : i < nk := hlt
      obtain ⟨b, o, rfl, _, _⟩ := HR.out.keys.at_ (by omega)
      have hi1 : ((i : Int) + 1).toNat = i + 1 := by omega
      have hic : (0 : Int) ≤ (i : Int) + 1 := by omega
      have hic2 : (i : Int) + 1 ≤ (ck : Int) := by omega
      have hic3 : (i : Int) ≤ (i : Int) + 1 := by omega
      have hid : IntKind.i64.wrap ((i : Int) + 1) = (i : Int) + 1 := IntWalk.i64_in _ (by omega)
      have hie : i + 1 - i = 1 := by omega
      have hif : ¬ ck = i := by omega
      go_upto_region 8 with fail
      refine wp_region_last (S := fun w' => w'.cell? ⟨w.heap.size, 0, none⟩ = some (.bool s.leaf) ∧ w'.cell? ⟨w.heap.size, 1, none⟩ = some (.slice (some ⟨b, o, none⟩) nk ck)) 10 (by kernel_rfl) rfl (by kernel_rfl) ?_ ?_
      · exact ⟨hW.box.cell 0, hW.box.cell 1⟩
      intro hHeld
      simp only [List.take_succ_cons, List.take_zero]
      refine wpAnyH_take (i := 0) (v := ?_) (by simp only [List.getElem?_toArray, List.getElem?_cons_succ, List.getElem?_cons_zero]; rfl) (by kernel_rfl) (by kernel_rfl) (by kernel_rfl) (fun _ _ _ h => h) (Or.inl ⟨by rfl, ?_⟩) hHeld ?_
      rotate_left
      · intro wz hSw; (try dsimp only at hSw); go_simp; try with_reducible rfl
      (try simp only [Act.put, List.setIfInBounds_toArray, List.set_cons_zero, List.set_cons_succ])
      refine wpAnyH_take (i := 1) (v := ?_) (by simp only [List.getElem?_toArray, List.getElem?_cons_succ, List.getElem?_cons_zero]; rfl) (by kernel_rfl) (by kernel_rfl) (by kernel_rfl) (fun _ _ _ h => h) (Or.inl ⟨by rfl, ?_⟩) hHeld ?_
      rotate_left
      · intro wz hSw; (try dsimp only at hSw); go_simp; try with_reducible rfl
      (try simp only [Act.put, List.setIfInBounds_toArray, List.set_cons_zero, List.set_cons_succ])
      refine wpAnyH_take (i := 2) (v := ?_) (by simp only [List.getElem?_toArray, List.getElem?_cons_succ, List.getElem?_cons_zero]; rfl) (by kernel_rfl) (by kernel_rfl) (by kernel_rfl) (fun _ _ _ h => h) (Or.inl ⟨by rfl, ?_⟩) hHeld ?_
      rotate_left
      · intro wz hSw; (try dsimp only at hSw); go_simp; try with_reducible rfl
      (try simp only [Act.put, List.setIfInBounds_toArray, List.set_cons_zero, List.set_cons_succ])
      refine wpAnyH_take (i := 3) (v := ?_) (by simp only [List.getElem?_toArray, List.getElem?_cons_succ, List.getElem?_cons_zero]; rfl) (by kernel_rfl) (by kernel_rfl) (by kernel_rfl) (fun _ _ _ h => h) (Or.inl ⟨by rfl, ?_⟩) hHeld ?_
      rotate_left
      · intro wz hSw; (try dsimp only at hSw); go_simp; try with_reducible rfl
      (try simp only [Act.put, List.setIfInBounds_toArray, List.set_cons_zero, List.set_cons_succ])
      refine wpAnyH_take (i := 4) (v := ?_) (by simp only [List.getElem?_toArray, List.getElem?_cons_succ, List.getElem?_cons_zero]; rfl) (by kernel_rfl) (by kernel_rfl) (by kernel_rfl) (fun _ _ _ h => h) (Or.inl ⟨by rfl, ?_⟩) hHeld ?_
      rotate_left
      · intro wz hSw; (try dsimp only at hSw); go_simp; try with_reducible rfl
      (try simp only [Act.put, List.setIfInBounds_toArray, List.set_cons_zero, List.set_cons_succ])
      refine wpAnyH_take (i := 5) (v := ?_) (by simp only [List.getElem?_toArray, List.getElem?_cons_succ, List.getElem?_cons_zero]; rfl) (by kernel_rfl) (by kernel_rfl) (by kernel_rfl) (fun _ _ _ h => h) (Or.inl ⟨by rfl, ?_⟩) hHeld ?_
      rotate_left
      · intro wz hSw; (try dsimp only at hSw); go_simp; try with_reducible rfl
      (try simp only [Act.put, List.setIfInBounds_toArray, List.set_cons_zero, List.set_cons_succ])
      refine wpAnyH_take (i := 6) (v := ?_) (by simp only [List.getElem?_toArray, List.getElem?_cons_succ, List.getElem?_cons_zero]; rfl) (by kernel_rfl) (by kernel_rfl) (by kernel_rfl) (fun _ _ _ h => h) (Or.inl ⟨by rfl, ?_⟩) hHeld ?_
      rotate_left
      · intro wz hSw; (try dsimp only at hSw); go_simp; try with_reducible rfl
      (try simp only [Act.put, List.setIfInBounds_toArray, List.set_cons_zero, List.set_cons_succ])
      refine wpAnyH_take (i := 7) (v := ?_) (by simp only [List.getElem?_toArray, List.getElem?_cons_succ, List.getElem?_cons_zero]; rfl) (by kernel_rfl) (by kernel_rfl) (by kernel_rfl) (fun _ _ _ h => h) (Or.inl ⟨by rfl, ?_⟩) hHeld ?_
      rotate_left
      · intro wz hSw; (try dsimp only at hSw); go_simp; try with_reducible rfl
      (try simp only [Act.put, List.setIfInBounds_toArray, List.set_cons_zero, List.set_cons_succ])
      refine wpAnyH_take (i := 8) (v := ?_) (by simp only [List.getElem?_toArray, List.getElem?_cons_succ, List.getElem?_cons_zero]; rfl) (by kernel_rfl) (by kernel_rfl) (by kernel_rfl) (fun _ _ _ h => h) (Or.inl ⟨by rfl, ?_⟩) hHeld ?_
      rotate_left
      · intro wz hSw; (try dsimp only at hSw); go_simp; try with_reducible rfl
      (try simp only [Act.put, List.setIfInBounds_toArray, List.set_cons_zero, List.set_cons_succ])
      refine wpAnyH_ready (rs := [9]) (by kernel_rfl) (by simp) ?_
      refine AllReadyH.cons (by simp only [List.getElem?_toArray, List.getElem?_cons_succ, List.getElem?_cons_zero]; rfl) (fun KK hK => ?_) AllReadyH.nil
      go_simp
      refine hK.out _ _ ?_ (fun hHeld => ?_)
      · exact ⟨(hW.drew.alloc _).box.cell 0, (hW.drew.alloc _).box.cell 1⟩
      clear hK KK
      (try simp only [Act.put, List.setIfInBounds_toArray, List.set_cons_zero, List.set_cons_succ])
      refine wpAnyH_done (by kernel_rfl) ?_ _
      simp only [lastQ]
      go_simp
      go_upto_region 9 with fail
      refine wp_world (fun U => Below wr.heap.size wr U ∧ Blk U wr.heap.size 25 [.bool s.leaf, .slice (some ⟨b, o + i, none⟩) 1 (ck - i), .slice none 0 0, .slice none 0 0]) ⟨((Below.refl _ _).alloc (Nat.le_refl _) _).drew, (Blk.new wr _ [.bool s.leaf, .slice (some ⟨b, o + i, none⟩) 1 (ck - i), .slice none 0 0, .slice none 0 0]).drew⟩ ?_
      have HW := Lib.hid hW
      clear hW bc hHeld hi1 hic hic2 hic3 hid hie hif
      clear hHeld
      rintro U3 ⟨hU, hN⟩
      have hW := HW.out.under hU
      have bc := hW.box.cells
      have hk0 := HR.out.keys.below hW.below (Nat.le_refl _)
      have ki : U3.cell? ⟨b, o + i, none⟩ = some (.string (kAt s i)) := sl_cell hk0 i hlt
      have HN := Lib.hid hN
      have HU := Lib.hid hU
      have HK0 := Lib.hid hk0
      clear hN hW hk0 hU
      have HKo : Hid (lessOk s i ↔ (0 < i → Op.bytesLess (kAt s (i - 1)).toList (kAt s i).toList = true)) := Iff.rfl
      have HL : Hid (lessOk s i → ∀ j, 0 < j → j < i + 1 → Op.bytesLess (kAt s (j - 1)).toList (kAt s j).toList = true) := fun h j h1 h2 => by
        by_cases hji : j = i
        · subst hji; exact h h1
        · exact HS.out j h1 (by omega)
      go_cut [55] (fun s55 wx => s55 = .bool (decide (¬ lessOk s i)) ∧ ∃ q, wx = U3.drewN q)
      case first =>
        by_cases a2 : i = 0
        · have d2 : decide (0 < i) = false := decide_eq_false (by omega)
          have HDD : Hid (decide (¬ lessOk s i) = false) := decide_eq_false (fun h => h (HKo.out.2 (fun h => by omega)))
          generalize kAt s i = kk at *
          generalize kAt s (i - 1) = kp at *
          clear a2 HL
          go_quiet (fail)
          go_wp2_with fail
          go_meet
          exact ⟨by rw [HDD.out], nq, rfl⟩
        have d2 : decide (0 < i) = true := decide_eq_true (by omega)
        obtain ⟨j, hj⟩ : ∃ j, i = j + 1 := ⟨i - 1, by omega⟩
        have e1 : (i : Int) - 1 = (j : Int) := by omega
        have cj : U3.cell? ⟨b, o + j, none⟩ = some (.string (kAt s j)) := sl_cell HK0.out j (by omega)
        have hjn : j < nk := by omega
        have hij : i - 1 = j := by omega
        have HJ := Lib.hid hj
        clear HL
        rw [hij] at HKo
        clear hj hij a2
        generalize kAt s i = kk at *
        generalize kAt s j = kj at *
        by_cases a3 : Op.bytesLess kj.toList kk.toList = true
        · have HDD : Hid (decide (¬ lessOk s i) = false) := decide_eq_false (fun h => h (HKo.out.2 (fun _ => a3)))
          go_quiet (fail)
          go_wp2_with fail
          go_meet
          exact ⟨by rw [HDD.out], nq, rfl⟩
        · have HDD : Hid (decide (¬ lessOk s i) = true) := decide_eq_true (fun h => a3 (HKo.out.1 h (by have := HJ.out; omega)))
          have a3' : Op.bytesLess kj.toList kk.toList = false := by simpa using a3
          clear a3
          go_quiet (fail)
          go_wp2_with fail
          go_meet
          exact ⟨by rw [HDD.out], nq, rfl⟩
      case rest =>
        obtain ⟨rfl, nq, rfl⟩ := hcut
        clear ki bc
        have hU4 := below_drewN HU.out nq
        have hN := HN.out.drewN nq
        clear HN HK0 HU
        generalize U3.drewN nq = U4 at *
        have hb4 := (HW.out.under hU4).below
        by_cases hless : lessOk s i
        rotate_left
        · rw [show decide (¬ lessOk s i) = true from decide_eq_true hless]
          clear hless HL HKo hN hU4
          go_wp2_with (go_at_call 17; refine (nodlives_any _).mono ?_; rintro e w8 ⟨rfl, hb8⟩)
          go_ret
          exact ⟨rfl, hb4.trans (hb8.mono hb4.size)⟩
        rw [show decide (¬ lessOk s i) = false from decide_eq_false (fun h => h hless)]
        have HL2 := Lib.hid (HL.out hless)
        clear hless HL HKo
        have bc := (HW.out.under hU4).box.cells
        have nc := hN.cells
        have nf := hN.frees
        have HN := Lib.hid hN
        clear hN
        have HU4 := Lib.hid hU4
        have hg4 := hU4.size
        clear hU4
        by_cases hlf : s.leaf = true
        · by_cases hiv : i < nv
          · obtain ⟨vb, vo, rfl, _, _⟩ := HR.out.vals.at_ (by omega)
            have hcvi : ¬ cv = i := by omega
            have hie : i + 1 - i = 1 := by omega
            go_upto_region 15 with fail
            have hS5 : Below wr.heap.size wr (U4.setCell ⟨wr.heap.size, 2, none⟩ (.slice (some ⟨vb, vo + i, none⟩) 1 (cv - i))) := HU4.out.setCell (by simp) _
            have hnd := HR.out.below (HW.out.under hS5).below (Nat.le_refl _)
            refine wp_world (fun U => Below wr.heap.size wr U ∧ ∃ Vx nvx cvx Dx ndx cdx, Blk U wr.heap.size 25 [.bool s.leaf, .slice (some ⟨b, o + i, none⟩) 1 (ck - i), .slice Vx nvx cvx, .slice Dx ndx cdx] ∧ NdR U 0 (oneN s i) (some ⟨b, o + i, none⟩) 1 (ck - i) Vx nvx cvx Dx ndx cdx) ⟨hS5, _, _, _, _, _, _, HN.out.set_ 2 _, ndr_one hnd hlt (by rw [one_vals hlf (by rw [HV.out]; exact hiv)]; exact (ls_one hnd.vals i hiv).weak (Nat.zero_le _)) (by rw [one_kids_no (fun h => by rw [hlf] at h; exact absurd h.1 (by simp))]; exact Ls.nil_ _ _)⟩ ?_
            clear hS5 hnd hcvi hie
            clear hlf nc nf bc HN HU4 hb4 hg4
            rintro U5 ⟨hb5, Vx, nvx, cvx, Dx, ndx, cdx, hN5, n5⟩
            have nc := hN5.cells
            obtain ⟨t, ht⟩ : ∃ t, decide (mayN (oneN s i)) = t := ⟨_, rfl⟩
            have HT := Lib.hid ht
            have M1 := Lib.hid (rnmay_b (s := oneN s i) (lf := s.leaf) rfl ht n5)
            clear hN5 n5 ht
            go_upto_region 16 with ((with_reducible refine Calls.mono M1.out ?_); rintro e w6 ⟨rfl, hb6⟩)
            have h6 := HW.out.under (hb5.trans (hb6.mono hb5.size))
            have b6 := h6.below
            have H6 := Lib.hid h6
            clear h6 hb6 hb5 M1 nc
            cases t
            · clear HT H6
              go_wp2_with (go_at_call 17; refine (nodlives_any _).mono ?_; rintro e w8 ⟨rfl, hb8⟩)
              go_ret
              exact ⟨rfl, b6.trans (hb8.mono b6.size)⟩
            · go_wp2
              go_roundw
              case rel => exact ⟨i + 1, by omega, by go_num, fun j hj => by
                by_cases hji : j = i
                · subst hji; exact of_decide_eq_true HT.out
                · exact HO.out j (by omega), HL2.out, H6.out⟩
              case measure => simp [intOf]; omega
          · go_upto_region 15 with fail
            have hnd := HR.out.below (HW.out.under HU4.out).below (Nat.le_refl _)
            refine wp_world (fun U => Below wr.heap.size wr U ∧ ∃ Vx nvx cvx Dx ndx cdx, Blk U wr.heap.size 25 [.bool s.leaf, .slice (some ⟨b, o + i, none⟩) 1 (ck - i), .slice Vx nvx cvx, .slice Dx ndx cdx] ∧ NdR U 0 (oneN s i) (some ⟨b, o + i, none⟩) 1 (ck - i) Vx nvx cvx Dx ndx cdx) ⟨HU4.out, _, _, _, _, _, _, HN.out, ndr_one hnd hlt (by rw [one_vals_no (fun h => hiv (by rw [← HV.out]; exact h.2))]; exact Ls.nil_ _ _) (by rw [one_kids_no (fun h => by rw [hlf] at h; exact absurd h.1 (by simp))]; exact Ls.nil_ _ _)⟩ ?_
            clear hnd
            clear hlf nc nf bc HN HU4 hb4 hg4
            rintro U5 ⟨hb5, Vx, nvx, cvx, Dx, ndx, cdx, hN5, n5⟩
            have nc := hN5.cells
            obtain ⟨t, ht⟩ : ∃ t, decide (mayN (oneN s i)) = t := ⟨_, rfl⟩
            have HT := Lib.hid ht
            have M1 := Lib.hid (rnmay_b (s := oneN s i) (lf := s.leaf) rfl ht n5)
            clear hN5 n5 ht
            go_upto_region 16 with ((with_reducible refine Calls.mono M1.out ?_); rintro e w6 ⟨rfl, hb6⟩)
            have h6 := HW.out.under (hb5.trans (hb6.mono hb5.size))
            have b6 := h6.below
            have H6 := Lib.hid h6
            clear h6 hb6 hb5 M1 nc
            cases t
            · clear HT H6
              go_wp2_with (go_at_call 17; refine (nodlives_any _).mono ?_; rintro e w8 ⟨rfl, hb8⟩)
              go_ret
              exact ⟨rfl, b6.trans (hb8.mono b6.size)⟩
            · go_wp2
              go_roundw
              case rel => exact ⟨i + 1, by omega, by go_num, fun j hj => by
                by_cases hji : j = i
                · subst hji; exact of_decide_eq_true HT.out
                · exact HO.out j (by omega), HL2.out, H6.out⟩
              case measure => simp [intOf]; omega
        · replace hlf : s.leaf = false := by simpa using hlf
          by_cases hid : i < nd
          · obtain ⟨vb, vo, rfl, _, _⟩ := HR.out.kids.at_ (by omega)
            have hcdi : ¬ cd = i := by omega
            have hie : i + 1 - i = 1 := by omega
            go_upto_region 15 with fail
            have hS5 : Below wr.heap.size wr (U4.setCell ⟨wr.heap.size, 3, none⟩ (.slice (some ⟨vb, vo + i, none⟩) 1 (cd - i))) := HU4.out.setCell (by simp) _
            have hnd := HR.out.below (HW.out.under hS5).below (Nat.le_refl _)
            refine wp_world (fun U => Below wr.heap.size wr U ∧ ∃ Vx nvx cvx Dx ndx cdx, Blk U wr.heap.size 25 [.bool s.leaf, .slice (some ⟨b, o + i, none⟩) 1 (ck - i), .slice Vx nvx cvx, .slice Dx ndx cdx] ∧ NdR U 0 (oneN s i) (some ⟨b, o + i, none⟩) 1 (ck - i) Vx nvx cvx Dx ndx cdx) ⟨hS5, _, _, _, _, _, _, HN.out.set_ 3 _, ndr_one hnd hlt (by rw [one_vals_no (fun h => by rw [hlf] at h; exact absurd h.1 (by simp))]; exact Ls.nil_ _ _) (by rw [one_kids hlf (by rw [HD.out]; exact hid)]; exact (li_one hnd.kids i hid).weak (Nat.zero_le _))⟩ ?_
            clear hS5 hnd hcdi hie
            clear hlf nc nf bc HN HU4 hb4 hg4
            rintro U5 ⟨hb5, Vx, nvx, cvx, Dx, ndx, cdx, hN5, n5⟩
            have nc := hN5.cells
            obtain ⟨t, ht⟩ : ∃ t, decide (mayN (oneN s i)) = t := ⟨_, rfl⟩
            have HT := Lib.hid ht
            have M1 := Lib.hid (rnmay_b (s := oneN s i) (lf := s.leaf) rfl ht n5)
            clear hN5 n5 ht
            go_upto_region 16 with ((with_reducible refine Calls.mono M1.out ?_); rintro e w6 ⟨rfl, hb6⟩)
            have h6 := HW.out.under (hb5.trans (hb6.mono hb5.size))
            have b6 := h6.below
            have H6 := Lib.hid h6
            clear h6 hb6 hb5 M1 nc
            cases t
            · clear HT H6
              go_wp2_with (go_at_call 17; refine (nodlives_any _).mono ?_; rintro e w8 ⟨rfl, hb8⟩)
              go_ret
              exact ⟨rfl, b6.trans (hb8.mono b6.size)⟩
            · go_wp2
              go_roundw
              case rel => exact ⟨i + 1, by omega, by go_num, fun j hj => by
                by_cases hji : j = i
                · subst hji; exact of_decide_eq_true HT.out
                · exact HO.out j (by omega), HL2.out, H6.out⟩
              case measure => simp [intOf]; omega
          · go_upto_region 15 with fail
            have hnd := HR.out.below (HW.out.under HU4.out).below (Nat.le_refl _)
            refine wp_world (fun U => Below wr.heap.size wr U ∧ ∃ Vx nvx cvx Dx ndx cdx, Blk U wr.heap.size 25 [.bool s.leaf, .slice (some ⟨b, o + i, none⟩) 1 (ck - i), .slice Vx nvx cvx, .slice Dx ndx cdx] ∧ NdR U 0 (oneN s i) (some ⟨b, o + i, none⟩) 1 (ck - i) Vx nvx cvx Dx ndx cdx) ⟨HU4.out, _, _, _, _, _, _, HN.out, ndr_one hnd hlt (by rw [one_vals_no (fun h => by rw [hlf] at h; exact absurd h.1 (by simp))]; exact Ls.nil_ _ _) (by rw [one_kids_no (fun h => hid (by rw [← HD.out]; exact h.2))]; exact Ls.nil_ _ _)⟩ ?_
            clear hnd
            clear hlf nc nf bc HN HU4 hb4 hg4
            rintro U5 ⟨hb5, Vx, nvx, cvx, Dx, ndx, cdx, hN5, n5⟩
            have nc := hN5.cells
            obtain ⟨t, ht⟩ : ∃ t, decide (mayN (oneN s i)) = t := ⟨_, rfl⟩
            have HT := Lib.hid ht
            have M1 := Lib.hid (rnmay_b (s := oneN s i) (lf := s.leaf) rfl ht n5)
            clear hN5 n5 ht
            go_upto_region 16 with ((with_reducible refine Calls.mono M1.out ?_); rintro e w6 ⟨rfl, hb6⟩)
            have h6 := HW.out.under (hb5.trans (hb6.mono hb5.size))
            have b6 := h6.below
            have H6 := Lib.hid h6
            clear h6 hb6 hb5 M1 nc
            cases t
            · clear HT H6
              go_wp2_with (go_at_call 17; refine (nodlives_any _).mono ?_; rintro e w8 ⟨rfl, hb8⟩)
              go_ret
              exact ⟨rfl, b6.trans (hb8.mono b6.size)⟩
            · go_wp2
              go_roundw
              case rel => exact ⟨i + 1, by omega, by go_num, fun j hj => by
                by_cases hji : j = i
                · subst hji; exact of_decide_eq_true HT.out
                · exact HO.out j (by omega), HL2.out, H6.out⟩
              case measure => simp [intOf]; omega
    · obtain rfl : i = nk := by omega
      have hb4 := hW.below
      have HW := Lib.hid hW
      clear hW
      have FIN : Hid (lensN s → mayN p ∧ mayN q) := fun hl => halves_may (by rw [HK.out]; exact hkr) HZZ.out.1 HZZ.out.2 hl (fun j h1 h2 => HS.out j h1 (by rw [← HK.out]; exact h2)) (fun j hj => HO.out j (by rw [← HK.out]; exact hj)) HSP.out
      by_cases hlf : s.leaf = true
      · by_cases e1 : nv = i
        rotate_left
        · have e2 : ((nv : Int) == (i : Int)) = false := beq_eq_false_iff_ne.2 (by omega)
          clear FIN
          go_wp2_with (go_at_call 17; refine (nodlives_any _).mono ?_; rintro e w8 ⟨rfl, hb8⟩)
          go_ret
          exact ⟨rfl, hb4.trans (hb8.mono hb4.size)⟩
        have e2 : ((nv : Int) == (i : Int)) = true := beq_iff_eq.2 (by omega)
        by_cases e3 : nd = 0
        rotate_left
        · have e4 : decide (0 < nd) = true := decide_eq_true (by omega)
          clear FIN
          go_wp2_with (go_at_call 17; refine (nodlives_any _).mono ?_; rintro e w8 ⟨rfl, hb8⟩)
          go_ret
          exact ⟨rfl, hb4.trans (hb8.mono hb4.size)⟩
        have e4 : decide (0 < nd) = false := decide_eq_false (by omega)
        have HMM := Lib.hid (FIN.out ⟨fun _ => by rw [HV.out, HK.out, HD.out]; exact ⟨e1, e3⟩, fun h => by rw [hlf] at h; exact absurd h (by simp)⟩)
        clear FIN
        obtain ⟨hmp, hmq⟩ := HMM.out
        have h1 := HW.out.one
        have h2 := HW.out.two
        obtain ⟨Kp', nkp', ckp', Vp', nvp', cvp', Dp', ndp', cdp', hpv, np⟩ := HW.out.isp
        obtain ⟨Kq', nkq', ckq', Vq', nvq', cvq', Dq', ndq', cdq', hqv, nq⟩ := HW.out.isq
        rw [hpv] at h1
        rw [hqv] at h2
        have M1 := Lib.hid (nmay_t (decide_eq_true hmp) np)
        have NQ := Lib.hid nq
        have h1c := h1.cells
        have h2c := h2.cells
        have H2 := Lib.hid h2
        have hz2 := h2.lt
        clear h1 h2 np nq hpv hqv HMM
        have HMQ := Lib.hid hmq
        clear hmp hmq
        go_wp2_with (first
          | ((with_reducible refine Calls.mono M1.out ?_); rintro e w6 ⟨rfl, hb6⟩; have b6 := hb4.trans (hb6.mono hb4.size); have h2d := (H2.out.below hb6 hz2).cells; have M2 := Lib.hid (nmay_t (decide_eq_true HMQ.out) (NQ.out.below hb6 (Nat.le_refl _))))
          | ((with_reducible refine Calls.mono M2.out ?_); rintro e w7 ⟨rfl, hb7⟩; have b7 := b6.trans (hb7.mono b6.size))
          | (go_at_call 17; refine (nodlives_any _).mono ?_; rintro e w8 ⟨rfl, hb8⟩))
        go_ret
        exact ⟨rfl, b7.trans (hb8.mono b7.size)⟩
      · replace hlf : s.leaf = false := by simpa using hlf
        by_cases e1 : nd = i
        rotate_left
        · have e2 : ((nd : Int) == (i : Int)) = false := beq_eq_false_iff_ne.2 (by omega)
          clear FIN
          go_wp2_with (go_at_call 17; refine (nodlives_any _).mono ?_; rintro e w8 ⟨rfl, hb8⟩)
          go_ret
          exact ⟨rfl, hb4.trans (hb8.mono hb4.size)⟩
        have e2 : ((nd : Int) == (i : Int)) = true := beq_iff_eq.2 (by omega)
        by_cases e3 : nv = 0
        rotate_left
        · have e4 : decide (0 < nv) = true := decide_eq_true (by omega)
          clear FIN
          go_wp2_with (go_at_call 17; refine (nodlives_any _).mono ?_; rintro e w8 ⟨rfl, hb8⟩)
          go_ret
          exact ⟨rfl, hb4.trans (hb8.mono hb4.size)⟩
        have e4 : decide (0 < nv) = false := decide_eq_false (by omega)
        have HMM := Lib.hid (FIN.out ⟨fun h => by rw [hlf] at h; exact absurd h (by simp), fun _ => by rw [HV.out, HK.out, HD.out]; exact ⟨e1, e3⟩⟩)
        clear FIN
        obtain ⟨hmp, hmq⟩ := HMM.out
        have h1 := HW.out.one
        have h2 := HW.out.two
        obtain ⟨Kp', nkp', ckp', Vp', nvp', cvp', Dp', ndp', cdp', hpv, np⟩ := HW.out.isp
        obtain ⟨Kq', nkq', ckq', Vq', nvq', cvq', Dq', ndq', cdq', hqv, nq⟩ := HW.out.isq
        rw [hpv] at h1
        rw [hqv] at h2
        have M1 := Lib.hid (nmay_t (decide_eq_true hmp) np)
        have NQ := Lib.hid nq
        have h1c := h1.cells
        have h2c := h2.cells
        have H2 := Lib.hid h2
        have hz2 := h2.lt
        clear h1 h2 np nq hpv hqv HMM
        have HMQ := Lib.hid hmq
        clear hmp hmq
        go_wp2_with (first
          | ((with_reducible refine Calls.mono M1.out ?_); rintro e w6 ⟨rfl, hb6⟩; have b6 := hb4.trans (hb6.mono hb4.size); have h2d := (H2.out.below hb6 hz2).cells; have M2 := Lib.hid (nmay_t (decide_eq_true HMQ.out) (NQ.out.below hb6 (Nat.le_refl _))))
          | ((with_reducible refine Calls.mono M2.out ?_); rintro e w7 ⟨rfl, hb7⟩; have b7 := b6.trans (hb7.mono b6.size))
          | (go_at_call 17; refine (nodlives_any _).mono ?_; rintro e w8 ⟨rfl, hb8⟩))
        go_ret
        exact ⟨rfl, b7.trans (hb8.mono b7.size)⟩
end Go.Proofs.Ytnjpibbmgbiofaa
