/- NodeSplits: its walk. (Printed by gen_nodsplits.py.) -/
import Derived.Test.YtnjpibbmgbiofaaNodHalf
import Derived.Test.YtnjpibbmgbiofaaNodSpR
import Derived.Test.YtnjpibbmgbiofaaNod2
import Derived.Test.YtnjpibbmgbiofaaNodJoin
namespace Go.Proofs.Ytnjpibbmgbiofaa
open Go.RowKit
set_option linter.unusedSimpArgs false
set_option linter.unusedVariables false

theorem most_keys {s : Nd} (h : lensN s) : s.keys.length ≤ mostN s ∧ s.vals.length ≤ mostN s ∧ s.kids.length ≤ mostN s := by unfold mostN; omega
theorem split_len {s p q : Nd} {r : Nat} (h : SplitN s p q) (hr : manyN s r) : p.keys.length = r := by
  rcases h with ⟨hf, rfl, _⟩ | ⟨m, hm, rfl, _⟩
  · rcases hr with ⟨_, rfl⟩ | ⟨h2, _⟩
    · have : s.keys.length ≤ mostN s := by unfold mostN; omega
      simp only [partN, List.length_drop, List.length_take]; omega
    · omega
  · rcases hr with ⟨h2, _⟩ | ⟨_, h2⟩
    · have := hm.2.1; have := hm.1; omega
    · have := isSplit_one hm h2
      have := hm.2.1
      simp only [partN, List.length_drop, List.length_take]; omega
theorem take_drop_all {α : Type} (l : List α) (m n : Nat) (hn : l.length ≤ n) : (l.take m).drop 0 ++ (l.take n).drop m = l := by
  rw [List.drop_zero, List.take_of_length_le hn, List.take_append_drop]
theorem split_join {s p q : Nd} (hl : lensN s) (h : SplitN s p q) : joinN p q = s ∧ (s.keys.length < 2 ∨ (2 ≤ s.keys.length ∧ q.leaf = s.leaf)) := by
  obtain ⟨a1, a2, a3⟩ := most_keys hl
  rcases h with ⟨hf, rfl, rfl⟩ | ⟨m, hm, rfl, rfl⟩
  · refine ⟨?_, .inl hf⟩
    unfold joinN partN Nd.nil
    simp only [List.append_nil, List.drop_zero]
    rw [List.take_of_length_le a1, List.take_of_length_le a2, List.take_of_length_le a3]
  · refine ⟨?_, .inr ⟨by have := hm.1; have := hm.2.1; omega, rfl⟩⟩
    unfold joinN partN
    simp only
    rw [take_drop_all _ _ _ a1, take_drop_all _ _ _ a2, take_drop_all _ _ _ a3]
theorem join_room {s p q : Nd} {w : World} {lo lo1 lo2 : Nat} {K V D Kp Vp Dp Kq Vq Dq : Option Addr} {nk ck nv cv nd cd nkp ckp nvp cvp ndp cdp nkq ckq nvq cvq ndq cdq : Nat} {W : World} (h : NdR w lo s K nk ck V nv cv D nd cd) (np : NdR W lo1 p Kp nkp ckp Vp nvp cvp Dp ndp cdp) (nq : NdR W lo2 q Kq nkq ckq Vq nvq cvq Dq ndq cdq) (hj : joinN p q = s) :
    nkp + nkq ≤ 8796093022208 ∧ nvp + nvq ≤ 8796093022208 ∧ ndp + ndq ≤ 17592186044416 := by
  subst hj
  have a1 := h.nk_eq
  have a2 := h.nv_eq
  have a3 := h.nd_eq
  have k1 := h.kroom
  have k2 := h.vroom
  have k3 := h.droom
  simp only [joinN, List.length_append] at a1 a2 a3
  have b1 := np.nk_eq
  have b2 := np.nv_eq
  have b3 := np.nd_eq
  have c1 := nq.nk_eq
  have c2 := nq.nv_eq
  have c3 := nq.nd_eq
  omega

set_option maxRecDepth 100000 in
set_option maxHeartbeats 4000000 in
theorem nodeSplits_any (s : Nd) {w : World} {lo : Nat} {K V D : Option Addr} {nk ck nv cv nd cd : Nat} (h : NdR w lo s K nk ck V nv cv D nd cd) :
    Calls Try.prog 7 #[.agg #[.bool s.leaf, .slice K nk ck, .slice V nv cv, .slice D nd cd]] w fun e w' => e = .returned (.bool true) ∧ Below w.heap.size w w' := by
  have HR := Lib.hid h
  have hkr := h.kroom
  have hvr := h.vroom
  have hdr := h.droom
  have HK : Hid (s.keys.length = nk) := h.nk_eq
  have HV : Hid (s.vals.length = nv) := h.nv_eq
  have HD : Hid (s.kids.length = nd) := h.nd_eq
  clear h
  go_enter Try.func7, Try.ntmps7
  go_upto_region 1 with fail
  refine wp_world (fun U => Blk U w.heap.size 25 [.bool s.leaf, .slice K nk ck, .slice V nv cv, .slice D nd cd] ∧ Below w.heap.size w U) ⟨Blk.new w _ [.bool s.leaf, .slice K nk ck, .slice V nv cv, .slice D nd cd], (Below.refl _ _).alloc (Nat.le_refl _) _⟩ ?_
  rintro U ⟨B0, b0⟩
  have bc0 := B0.cells
  by_cases hlf : s.leaf = true
  · by_cases e1 : nv = nk
    rotate_left
    · have e2 : ((nv : Int) == (nk : Int)) = false := beq_eq_false_iff_ne.2 (by omega)
      clear B0
      go_wp2_with (go_at_call 17; refine (nodlives_any _).mono ?_; rintro e w8 ⟨rfl, hb8⟩)
      go_ret
      exact ⟨rfl, b0.trans (hb8.mono b0.size)⟩
    have e2 : ((nv : Int) == (nk : Int)) = true := beq_iff_eq.2 (by omega)
    by_cases e3 : nd = 0
    rotate_left
    · have e4 : ((nd : Int) == 0) = false := beq_eq_false_iff_ne.2 (by omega)
      clear B0
      go_wp2_with (go_at_call 17; refine (nodlives_any _).mono ?_; rintro e w8 ⟨rfl, hb8⟩)
      go_ret
      exact ⟨rfl, b0.trans (hb8.mono b0.size)⟩
    have e4 : ((nd : Int) == 0) = true := beq_iff_eq.2 (by omega)
    have HLN : Hid (lensN s) := ⟨fun _ => by rw [HV.out, HK.out, HD.out]; exact ⟨e1, e3⟩, fun h => by rw [hlf] at h; exact absurd h (by simp)⟩
    go_upto_region 3 with fail
    clear e1 e2 e3 e4 hlf bc0
    have B0c := B0.cells
    have O1 := Lib.hid (of_any s (HR.out.below b0 (Nat.le_refl _)))
    go_upto_region 4 with (first
      | ((with_reducible refine Calls.mono O1.out ?_); rintro e w3 ⟨K1, ck1, V1, cv1, D1, cd1, rfl, n1, hb3⟩; have P1 := Lib.hid (split_any s n1))
      | ((with_reducible refine Calls.mono P1.out ?_); rintro e w4 ⟨p, q, Kp, nkp, ckp, Vp, nvp, cvp, Dp, ndp, cdp, Kq, nkq, ckq, Vq, nvq, cvq, Dq, ndq, cdq, rfl, np, nq, hspl, hb4⟩))
    have HSP := Lib.hid hspl
    have b34 := hb3.trans (hb4.mono hb3.size)
    have HJJ := Lib.hid (split_join HLN.out hspl)
    have HRM := Lib.hid (join_room HR.out np nq (split_join HLN.out hspl).1)
    have HPK : Hid (p.keys.length = nkp) := np.nk_eq
    refine wp_world (fun U => (HvW w U s.leaf K nk ck V nv cv D nd cd p q w4.heap.size (w4.heap.size + 1) [Value.bool p.leaf, .slice Kp nkp ckp, .slice Vp nvp cvp, .slice Dp ndp cdp] [Value.bool q.leaf, .slice Kq nkq ckq, .slice Vq nvq cvq, .slice Dq ndq cdq]) ∧ NdR U 0 p Kp nkp ckp Vp nvp cvp Dp ndp cdp ∧ NdR U 0 q Kq nkq ckq Vq nvq cvq Dq ndq cdq)
      (by
        have n1' := (np.below (B := w4.heap.size) (((Below.refl _ _).alloc (Nat.le_refl _) (.cells #[Value.bool p.leaf, .slice Kp nkp ckp, .slice Vp nvp cvp, .slice Dp ndp cdp] 26)).alloc (by simp) (.cells #[Value.bool q.leaf, .slice Kq nkq ckq, .slice Vq nvq cvq, .slice Dq ndq cdq] 26)) (Nat.le_refl _)).weak (Nat.zero_le _)
        have n2' := (nq.below (B := w4.heap.size) (((Below.refl _ _).alloc (Nat.le_refl _) (.cells #[Value.bool p.leaf, .slice Kp nkp ckp, .slice Vp nvp cvp, .slice Dp ndp cdp] 26)).alloc (by simp) (.cells #[Value.bool q.leaf, .slice Kq nkq ckq, .slice Vq nvq cvq, .slice Dq ndq cdq] 26)) (Nat.le_refl _)).weak (Nat.zero_le _)
        exact ⟨⟨((B0.below b34 B0.lt).alloc _).alloc _, (Blk.new w4 _ [Value.bool p.leaf, .slice Kp nkp ckp, .slice Vp nvp cvp, .slice Dp ndp cdp]).alloc _, Blk.new_at (cs := [Value.bool q.leaf, .slice Kq nkq ckq, .slice Vq nvq cvq, .slice Dq ndq cdq]) (by simp), ⟨_, _, _, _, _, _, _, _, _, rfl, n1'⟩, ⟨_, _, _, _, _, _, _, _, _, rfl, n2'⟩,
          ((b0.trans (b34.mono b0.size)).alloc (b0.trans (b34.mono b0.size)).size _).alloc (by have := (b0.trans (b34.mono b0.size)).size; simp; omega) _⟩, n1', n2'⟩) ?_
    clear np nq hspl hb4 hb3 n1 b34 B0 b0 B0c O1 P1
    generalize w4.heap.size + 1 = gq at *
    generalize w4.heap.size = gp at *
    rintro U2 ⟨hW, np, nq⟩
    have R1 := Lib.hid (rsplit_any s (HR.out.below hW.drew.below (Nat.le_refl _)))
    have NP := Lib.hid np
    have NQ := Lib.hid nq
    clear np nq
    refine wp_region_last (S := fun w' => w'.cell? ⟨w.heap.size, 0, none⟩ = some (.bool s.leaf) ∧ w'.cell? ⟨w.heap.size, 1, none⟩ = some (.slice K nk ck) ∧ w'.cell? ⟨w.heap.size, 2, none⟩ = some (.slice V nv cv) ∧ w'.cell? ⟨w.heap.size, 3, none⟩ = some (.slice D nd cd) ∧ w'.cell? ⟨gp, 0, none⟩ = some (.bool p.leaf) ∧ w'.cell? ⟨gp, 1, none⟩ = some (.slice Kp nkp ckp) ∧ w'.cell? ⟨gp, 2, none⟩ = some (.slice Vp nvp cvp) ∧ w'.cell? ⟨gp, 3, none⟩ = some (.slice Dp ndp cdp) ∧ w'.cell? ⟨gq, 0, none⟩ = some (.bool q.leaf) ∧ w'.cell? ⟨gq, 1, none⟩ = some (.slice Kq nkq ckq) ∧ w'.cell? ⟨gq, 2, none⟩ = some (.slice Vq nvq cvq) ∧ w'.cell? ⟨gq, 3, none⟩ = some (.slice Dq ndq cdq)) 5 (by kernel_rfl) rfl (by kernel_rfl) ?_ ?_
    · exact ⟨hW.drew.box.cell 0, hW.drew.box.cell 1, hW.drew.box.cell 2, hW.drew.box.cell 3, hW.drew.one.cell 0, hW.drew.one.cell 1, hW.drew.one.cell 2, hW.drew.one.cell 3, hW.drew.two.cell 0, hW.drew.two.cell 1, hW.drew.two.cell 2, hW.drew.two.cell 3⟩
    intro hHeld
    simp only [List.take_succ_cons, List.take_zero]
    refine wpAnyH_take (i := 0) (v := ?_) (by simp only [List.getElem?_toArray, List.getElem?_cons_succ, List.getElem?_cons_zero]; rfl) (by kernel_rfl) (by kernel_rfl) (by kernel_rfl) (fun _ _ _ h => h) (Or.inl ⟨by rfl, ?_⟩) hHeld ?_
    rotate_left
    · intro wz hSw; (try dsimp only at hSw); go_simp; try with_reducible rfl
    (try simp only [Act.put, List.setIfInBounds_toArray, List.set_cons_zero, List.set_cons_succ])
    refine wpAnyH_take (i := 1) (v := ?_) (by simp only [List.getElem?_toArray, List.getElem?_cons_succ, List.getElem?_cons_zero]; rfl) (by kernel_rfl) (by kernel_rfl) (by kernel_rfl) (fun _ _ _ h => h) (Or.inl ⟨by rfl, ?_⟩) hHeld ?_
    rotate_left
    · intro wz hSw; (try dsimp only at hSw); go_simp; try with_reducible rfl
    (try simp only [Act.put, List.setIfInBounds_toArray, List.set_cons_zero, List.set_cons_succ])
    refine wpAnyH_take (i := 2) (v := ?_) (by simp only [List.getElem?_toArray, List.getElem?_cons_succ, List.getElem?_cons_zero]; rfl) (by kernel_rfl) (by kernel_rfl) (by kernel_rfl) (fun _ _ _ h => h) (Or.inl ⟨by rfl, ?_⟩) hHeld ?_
    rotate_left
    · intro wz hSw; (try dsimp only at hSw); go_simp; try with_reducible rfl
    (try simp only [Act.put, List.setIfInBounds_toArray, List.set_cons_zero, List.set_cons_succ])
    refine wpAnyH_take (i := 3) (v := ?_) (by simp only [List.getElem?_toArray, List.getElem?_cons_succ, List.getElem?_cons_zero]; rfl) (by kernel_rfl) (by kernel_rfl) (by kernel_rfl) (fun _ _ _ h => h) (Or.inl ⟨by rfl, ?_⟩) hHeld ?_
    rotate_left
    · intro wz hSw; (try dsimp only at hSw); go_simp; try with_reducible rfl
    (try simp only [Act.put, List.setIfInBounds_toArray, List.set_cons_zero, List.set_cons_succ])
    refine wpAnyH_ready (rs := [4]) (by kernel_rfl) (by simp) ?_
    refine AllReadyH.cons (by simp only [List.getElem?_toArray, List.getElem?_cons_succ, List.getElem?_cons_zero]; rfl) (fun KK hK => ?_) AllReadyH.nil
    go_simp; ((with_reducible refine Calls.mono R1.out ?_); rintro e w5 ⟨r, rfl, hr, hb5⟩; have hW5 := hW.drew.under hb5); go_wp2_with fail
    refine hK.out _ _ ?_ (fun hHeld => ?_)
    · exact ⟨hW5.box.cell 0, hW5.box.cell 1, hW5.box.cell 2, hW5.box.cell 3, hW5.one.cell 0, hW5.one.cell 1, hW5.one.cell 2, hW5.one.cell 3, hW5.two.cell 0, hW5.two.cell 1, hW5.two.cell 2, hW5.two.cell 3⟩
    clear hK KK
    (try simp only [Act.put, List.setIfInBounds_toArray, List.set_cons_zero, List.set_cons_succ])
    refine wpAnyH_done (by kernel_rfl) ?_ _
    simp only [lastQ]
    go_simp
    clear hHeld
    obtain rfl : nkp = r := by rw [← HPK.out]; exact split_len HSP.out hr
    clear hr R1
    go_upto_region 6 with fail
    refine wp_world (fun U => (HvW w U s.leaf K nk ck V nv cv D nd cd p q gp gq [Value.bool p.leaf, .slice Kp nkp ckp, .slice Vp nvp cvp, .slice Dp ndp cdp] [Value.bool q.leaf, .slice Kq nkq ckq, .slice Vq nvq cvq, .slice Dq ndq cdq]) ∧ NdR U 0 p Kp nkp ckp Vp nvp cvp Dp ndp cdp ∧ NdR U 0 q Kq nkq ckq Vq nvq cvq Dq ndq cdq)
      ⟨hW5, NP.out.below (Below.trans (Below.refl _ _).drew hb5) (Nat.le_refl _), NQ.out.below (Below.trans (Below.refl _ _).drew hb5) (Nat.le_refl _)⟩ ?_
    clear hW hW5 hb5 NP NQ
    rintro U3 ⟨hW, np, nq⟩
    have HJ : Hid (joinN p q = s) := HJJ.out.1
    have J1 := Lib.hid (join_any p q (np.below (w' := U3.drew) (B := U3.heap.size) (Below.refl _ _).drew (Nat.le_refl _)) (nq.below (w' := U3.drew) (B := U3.heap.size) (Below.refl _ _).drew (Nat.le_refl _)) HRM.out.1 HRM.out.2.1 HRM.out.2.2)
    clear np nq
    refine wp_region_last (S := fun w' => w'.cell? ⟨w.heap.size, 0, none⟩ = some (.bool s.leaf) ∧ w'.cell? ⟨w.heap.size, 1, none⟩ = some (.slice K nk ck) ∧ w'.cell? ⟨w.heap.size, 2, none⟩ = some (.slice V nv cv) ∧ w'.cell? ⟨w.heap.size, 3, none⟩ = some (.slice D nd cd) ∧ w'.cell? ⟨gp, 0, none⟩ = some (.bool p.leaf) ∧ w'.cell? ⟨gp, 1, none⟩ = some (.slice Kp nkp ckp) ∧ w'.cell? ⟨gp, 2, none⟩ = some (.slice Vp nvp cvp) ∧ w'.cell? ⟨gp, 3, none⟩ = some (.slice Dp ndp cdp) ∧ w'.cell? ⟨gq, 0, none⟩ = some (.bool q.leaf) ∧ w'.cell? ⟨gq, 1, none⟩ = some (.slice Kq nkq ckq) ∧ w'.cell? ⟨gq, 2, none⟩ = some (.slice Vq nvq cvq) ∧ w'.cell? ⟨gq, 3, none⟩ = some (.slice Dq ndq cdq)) 5 (by kernel_rfl) rfl (by kernel_rfl) ?_ ?_
    · exact ⟨hW.drew.box.cell 0, hW.drew.box.cell 1, hW.drew.box.cell 2, hW.drew.box.cell 3, hW.drew.one.cell 0, hW.drew.one.cell 1, hW.drew.one.cell 2, hW.drew.one.cell 3, hW.drew.two.cell 0, hW.drew.two.cell 1, hW.drew.two.cell 2, hW.drew.two.cell 3⟩
    intro hHeld
    simp only [List.take_succ_cons, List.take_zero]
    refine wpAnyH_take (i := 0) (v := ?_) (by simp only [List.getElem?_toArray, List.getElem?_cons_succ, List.getElem?_cons_zero]; rfl) (by kernel_rfl) (by kernel_rfl) (by kernel_rfl) (fun _ _ _ h => h) (Or.inl ⟨by rfl, ?_⟩) hHeld ?_
    rotate_left
    · intro wz hSw; (try dsimp only at hSw); go_simp; try with_reducible rfl
    (try simp only [Act.put, List.setIfInBounds_toArray, List.set_cons_zero, List.set_cons_succ])
    refine wpAnyH_take (i := 1) (v := ?_) (by simp only [List.getElem?_toArray, List.getElem?_cons_succ, List.getElem?_cons_zero]; rfl) (by kernel_rfl) (by kernel_rfl) (by kernel_rfl) (fun _ _ _ h => h) (Or.inl ⟨by rfl, ?_⟩) hHeld ?_
    rotate_left
    · intro wz hSw; (try dsimp only at hSw); go_simp; try with_reducible rfl
    (try simp only [Act.put, List.setIfInBounds_toArray, List.set_cons_zero, List.set_cons_succ])
    refine wpAnyH_take (i := 3) (v := ?_) (by simp only [List.getElem?_toArray, List.getElem?_cons_succ, List.getElem?_cons_zero]; rfl) (by kernel_rfl) (by kernel_rfl) (by kernel_rfl) (fun _ _ _ h => h) (Or.inl ⟨by rfl, ?_⟩) hHeld ?_
    rotate_left
    · intro wz hSw; (try dsimp only at hSw); go_simp; try with_reducible rfl
    (try simp only [Act.put, List.setIfInBounds_toArray, List.set_cons_zero, List.set_cons_succ])
    refine wpAnyH_ready (rs := [2]) (by kernel_rfl) (by simp) ?_
    refine AllReadyH.cons (by simp only [List.getElem?_toArray, List.getElem?_cons_succ, List.getElem?_cons_zero]; rfl) (fun KK hK => ?_) AllReadyH.nil
    go_simp; ((with_reducible refine Calls.mono J1.out ?_); rintro e w6 ⟨K6, nk6, ck6, V6, nv6, cv6, D6, nd6, cd6, rfl, n6, hb6⟩; have hW6 := hW.drew.under hb6); go_wp2_with fail
    refine hK.out _ _ ?_ (fun hHeld => ?_)
    · exact ⟨hW6.box.cell 0, hW6.box.cell 1, hW6.box.cell 2, hW6.box.cell 3, hW6.one.cell 0, hW6.one.cell 1, hW6.one.cell 2, hW6.one.cell 3, hW6.two.cell 0, hW6.two.cell 1, hW6.two.cell 2, hW6.two.cell 3⟩
    clear hK KK
    (try simp only [Act.put, List.setIfInBounds_toArray, List.set_cons_zero, List.set_cons_succ])
    have M1 := Lib.hid (nsame_b (decide_eq_true HJ.out) n6 (HR.out.below hW6.below (Nat.le_refl _)))
    refine wpAnyH_ready (rs := [4]) (by kernel_rfl) (by simp) ?_
    refine AllReadyH.cons (by simp only [List.getElem?_toArray, List.getElem?_cons_succ, List.getElem?_cons_zero]; rfl) (fun KK hK => ?_) AllReadyH.nil
    go_simp; ((with_reducible refine Calls.mono M1.out ?_); rintro e w7 ⟨rfl, hb7⟩; have hW7 := hW6.under hb7); go_wp2_with fail
    refine hK.out _ _ ?_ (fun hHeld => ?_)
    · exact ⟨hW7.box.cell 0, hW7.box.cell 1, hW7.box.cell 2, hW7.box.cell 3, hW7.one.cell 0, hW7.one.cell 1, hW7.one.cell 2, hW7.one.cell 3, hW7.two.cell 0, hW7.two.cell 1, hW7.two.cell 2, hW7.two.cell 3⟩
    clear hK KK
    (try simp only [Act.put, List.setIfInBounds_toArray, List.set_cons_zero, List.set_cons_succ])
    refine wpAnyH_done (by kernel_rfl) ?_ _
    simp only [lastQ]
    go_simp
    clear hHeld
    go_upto_region 7 with fail
    refine wp_world (fun U => HvW w U s.leaf K nk ck V nv cv D nd cd p q gp gq [Value.bool p.leaf, .slice Kp nkp ckp, .slice Vp nvp cvp, .slice Dp ndp cdp] [Value.bool q.leaf, .slice Kq nkq ckq, .slice Vq nvq cvq, .slice Dq ndq cdq]) hW7 ?_
    clear hW hW6 hW7 hb6 hb7 n6 J1 M1
    try clear hHeld
    rintro U4 hW
    have bc := hW.box.cells
    have qc := hW.two.cells
    have b9 := hW.below
    clear hW
    rcases HJJ.out.2 with hx | ⟨hx, hq⟩
    · rw [HK.out] at hx
      go_wp2_with (go_at_call 17; refine (nodlives_any _).mono ?_; rintro e w8 ⟨rfl, hb8⟩)
      go_ret
      exact ⟨rfl, b9.trans (hb8.mono b9.size)⟩
    · rw [HK.out] at hx
      have hx2 : decide ((nk : Int) < 2) = false := decide_eq_false (by omega)
      rw [hq] at qc
      go_wp2_with (go_at_call 17; refine (nodlives_any _).mono ?_; rintro e w8 ⟨rfl, hb8⟩)
      go_ret
      exact ⟨rfl, b9.trans (hb8.mono b9.size)⟩
  · replace hlf : s.leaf = false := by simpa using hlf
    by_cases e1 : nd = nk
    rotate_left
    · have e2 : ((nd : Int) == (nk : Int)) = false := beq_eq_false_iff_ne.2 (by omega)
      clear B0
      go_wp2_with (go_at_call 17; refine (nodlives_any _).mono ?_; rintro e w8 ⟨rfl, hb8⟩)
      go_ret
      exact ⟨rfl, b0.trans (hb8.mono b0.size)⟩
    have e2 : ((nd : Int) == (nk : Int)) = true := beq_iff_eq.2 (by omega)
    by_cases e3 : nv = 0
    rotate_left
    · have e4 : ((nv : Int) == 0) = false := beq_eq_false_iff_ne.2 (by omega)
      clear B0
      go_wp2_with (go_at_call 17; refine (nodlives_any _).mono ?_; rintro e w8 ⟨rfl, hb8⟩)
      go_ret
      exact ⟨rfl, b0.trans (hb8.mono b0.size)⟩
    have e4 : ((nv : Int) == 0) = true := beq_iff_eq.2 (by omega)
    have HLN : Hid (lensN s) := ⟨fun h => by rw [hlf] at h; exact absurd h (by simp), fun _ => by rw [HV.out, HK.out, HD.out]; exact ⟨e1, e3⟩⟩
    go_upto_region 3 with fail
    clear e1 e2 e3 e4 hlf bc0
    have B0c := B0.cells
    have O1 := Lib.hid (of_any s (HR.out.below b0 (Nat.le_refl _)))
    go_upto_region 4 with (first
      | ((with_reducible refine Calls.mono O1.out ?_); rintro e w3 ⟨K1, ck1, V1, cv1, D1, cd1, rfl, n1, hb3⟩; have P1 := Lib.hid (split_any s n1))
      | ((with_reducible refine Calls.mono P1.out ?_); rintro e w4 ⟨p, q, Kp, nkp, ckp, Vp, nvp, cvp, Dp, ndp, cdp, Kq, nkq, ckq, Vq, nvq, cvq, Dq, ndq, cdq, rfl, np, nq, hspl, hb4⟩))
    have HSP := Lib.hid hspl
    have b34 := hb3.trans (hb4.mono hb3.size)
    have HJJ := Lib.hid (split_join HLN.out hspl)
    have HRM := Lib.hid (join_room HR.out np nq (split_join HLN.out hspl).1)
    have HPK : Hid (p.keys.length = nkp) := np.nk_eq
    refine wp_world (fun U => (HvW w U s.leaf K nk ck V nv cv D nd cd p q w4.heap.size (w4.heap.size + 1) [Value.bool p.leaf, .slice Kp nkp ckp, .slice Vp nvp cvp, .slice Dp ndp cdp] [Value.bool q.leaf, .slice Kq nkq ckq, .slice Vq nvq cvq, .slice Dq ndq cdq]) ∧ NdR U 0 p Kp nkp ckp Vp nvp cvp Dp ndp cdp ∧ NdR U 0 q Kq nkq ckq Vq nvq cvq Dq ndq cdq)
      (by
        have n1' := (np.below (B := w4.heap.size) (((Below.refl _ _).alloc (Nat.le_refl _) (.cells #[Value.bool p.leaf, .slice Kp nkp ckp, .slice Vp nvp cvp, .slice Dp ndp cdp] 26)).alloc (by simp) (.cells #[Value.bool q.leaf, .slice Kq nkq ckq, .slice Vq nvq cvq, .slice Dq ndq cdq] 26)) (Nat.le_refl _)).weak (Nat.zero_le _)
        have n2' := (nq.below (B := w4.heap.size) (((Below.refl _ _).alloc (Nat.le_refl _) (.cells #[Value.bool p.leaf, .slice Kp nkp ckp, .slice Vp nvp cvp, .slice Dp ndp cdp] 26)).alloc (by simp) (.cells #[Value.bool q.leaf, .slice Kq nkq ckq, .slice Vq nvq cvq, .slice Dq ndq cdq] 26)) (Nat.le_refl _)).weak (Nat.zero_le _)
        exact ⟨⟨((B0.below b34 B0.lt).alloc _).alloc _, (Blk.new w4 _ [Value.bool p.leaf, .slice Kp nkp ckp, .slice Vp nvp cvp, .slice Dp ndp cdp]).alloc _, Blk.new_at (cs := [Value.bool q.leaf, .slice Kq nkq ckq, .slice Vq nvq cvq, .slice Dq ndq cdq]) (by simp), ⟨_, _, _, _, _, _, _, _, _, rfl, n1'⟩, ⟨_, _, _, _, _, _, _, _, _, rfl, n2'⟩,
          ((b0.trans (b34.mono b0.size)).alloc (b0.trans (b34.mono b0.size)).size _).alloc (by have := (b0.trans (b34.mono b0.size)).size; simp; omega) _⟩, n1', n2'⟩) ?_
    clear np nq hspl hb4 hb3 n1 b34 B0 b0 B0c O1 P1
    generalize w4.heap.size + 1 = gq at *
    generalize w4.heap.size = gp at *
    rintro U2 ⟨hW, np, nq⟩
    have R1 := Lib.hid (rsplit_any s (HR.out.below hW.drew.below (Nat.le_refl _)))
    have NP := Lib.hid np
    have NQ := Lib.hid nq
    clear np nq
    refine wp_region_last (S := fun w' => w'.cell? ⟨w.heap.size, 0, none⟩ = some (.bool s.leaf) ∧ w'.cell? ⟨w.heap.size, 1, none⟩ = some (.slice K nk ck) ∧ w'.cell? ⟨w.heap.size, 2, none⟩ = some (.slice V nv cv) ∧ w'.cell? ⟨w.heap.size, 3, none⟩ = some (.slice D nd cd) ∧ w'.cell? ⟨gp, 0, none⟩ = some (.bool p.leaf) ∧ w'.cell? ⟨gp, 1, none⟩ = some (.slice Kp nkp ckp) ∧ w'.cell? ⟨gp, 2, none⟩ = some (.slice Vp nvp cvp) ∧ w'.cell? ⟨gp, 3, none⟩ = some (.slice Dp ndp cdp) ∧ w'.cell? ⟨gq, 0, none⟩ = some (.bool q.leaf) ∧ w'.cell? ⟨gq, 1, none⟩ = some (.slice Kq nkq ckq) ∧ w'.cell? ⟨gq, 2, none⟩ = some (.slice Vq nvq cvq) ∧ w'.cell? ⟨gq, 3, none⟩ = some (.slice Dq ndq cdq)) 5 (by kernel_rfl) rfl (by kernel_rfl) ?_ ?_
    · exact ⟨hW.drew.box.cell 0, hW.drew.box.cell 1, hW.drew.box.cell 2, hW.drew.box.cell 3, hW.drew.one.cell 0, hW.drew.one.cell 1, hW.drew.one.cell 2, hW.drew.one.cell 3, hW.drew.two.cell 0, hW.drew.two.cell 1, hW.drew.two.cell 2, hW.drew.two.cell 3⟩
    intro hHeld
    simp only [List.take_succ_cons, List.take_zero]
    refine wpAnyH_take (i := 0) (v := ?_) (by simp only [List.getElem?_toArray, List.getElem?_cons_succ, List.getElem?_cons_zero]; rfl) (by kernel_rfl) (by kernel_rfl) (by kernel_rfl) (fun _ _ _ h => h) (Or.inl ⟨by rfl, ?_⟩) hHeld ?_
    rotate_left
    · intro wz hSw; (try dsimp only at hSw); go_simp; try with_reducible rfl
    (try simp only [Act.put, List.setIfInBounds_toArray, List.set_cons_zero, List.set_cons_succ])
    refine wpAnyH_take (i := 1) (v := ?_) (by simp only [List.getElem?_toArray, List.getElem?_cons_succ, List.getElem?_cons_zero]; rfl) (by kernel_rfl) (by kernel_rfl) (by kernel_rfl) (fun _ _ _ h => h) (Or.inl ⟨by rfl, ?_⟩) hHeld ?_
    rotate_left
    · intro wz hSw; (try dsimp only at hSw); go_simp; try with_reducible rfl
    (try simp only [Act.put, List.setIfInBounds_toArray, List.set_cons_zero, List.set_cons_succ])
    refine wpAnyH_take (i := 2) (v := ?_) (by simp only [List.getElem?_toArray, List.getElem?_cons_succ, List.getElem?_cons_zero]; rfl) (by kernel_rfl) (by kernel_rfl) (by kernel_rfl) (fun _ _ _ h => h) (Or.inl ⟨by rfl, ?_⟩) hHeld ?_
    rotate_left
    · intro wz hSw; (try dsimp only at hSw); go_simp; try with_reducible rfl
    (try simp only [Act.put, List.setIfInBounds_toArray, List.set_cons_zero, List.set_cons_succ])
    refine wpAnyH_take (i := 3) (v := ?_) (by simp only [List.getElem?_toArray, List.getElem?_cons_succ, List.getElem?_cons_zero]; rfl) (by kernel_rfl) (by kernel_rfl) (by kernel_rfl) (fun _ _ _ h => h) (Or.inl ⟨by rfl, ?_⟩) hHeld ?_
    rotate_left
    · intro wz hSw; (try dsimp only at hSw); go_simp; try with_reducible rfl
    (try simp only [Act.put, List.setIfInBounds_toArray, List.set_cons_zero, List.set_cons_succ])
    refine wpAnyH_ready (rs := [4]) (by kernel_rfl) (by simp) ?_
    refine AllReadyH.cons (by simp only [List.getElem?_toArray, List.getElem?_cons_succ, List.getElem?_cons_zero]; rfl) (fun KK hK => ?_) AllReadyH.nil
    go_simp; ((with_reducible refine Calls.mono R1.out ?_); rintro e w5 ⟨r, rfl, hr, hb5⟩; have hW5 := hW.drew.under hb5); go_wp2_with fail
    refine hK.out _ _ ?_ (fun hHeld => ?_)
    · exact ⟨hW5.box.cell 0, hW5.box.cell 1, hW5.box.cell 2, hW5.box.cell 3, hW5.one.cell 0, hW5.one.cell 1, hW5.one.cell 2, hW5.one.cell 3, hW5.two.cell 0, hW5.two.cell 1, hW5.two.cell 2, hW5.two.cell 3⟩
    clear hK KK
    (try simp only [Act.put, List.setIfInBounds_toArray, List.set_cons_zero, List.set_cons_succ])
    refine wpAnyH_done (by kernel_rfl) ?_ _
    simp only [lastQ]
    go_simp
    clear hHeld
    obtain rfl : nkp = r := by rw [← HPK.out]; exact split_len HSP.out hr
    clear hr R1
    go_upto_region 6 with fail
    refine wp_world (fun U => (HvW w U s.leaf K nk ck V nv cv D nd cd p q gp gq [Value.bool p.leaf, .slice Kp nkp ckp, .slice Vp nvp cvp, .slice Dp ndp cdp] [Value.bool q.leaf, .slice Kq nkq ckq, .slice Vq nvq cvq, .slice Dq ndq cdq]) ∧ NdR U 0 p Kp nkp ckp Vp nvp cvp Dp ndp cdp ∧ NdR U 0 q Kq nkq ckq Vq nvq cvq Dq ndq cdq)
      ⟨hW5, NP.out.below (Below.trans (Below.refl _ _).drew hb5) (Nat.le_refl _), NQ.out.below (Below.trans (Below.refl _ _).drew hb5) (Nat.le_refl _)⟩ ?_
    clear hW hW5 hb5 NP NQ
    rintro U3 ⟨hW, np, nq⟩
    have HJ : Hid (joinN p q = s) := HJJ.out.1
    have J1 := Lib.hid (join_any p q (np.below (w' := U3.drew) (B := U3.heap.size) (Below.refl _ _).drew (Nat.le_refl _)) (nq.below (w' := U3.drew) (B := U3.heap.size) (Below.refl _ _).drew (Nat.le_refl _)) HRM.out.1 HRM.out.2.1 HRM.out.2.2)
    clear np nq
    refine wp_region_last (S := fun w' => w'.cell? ⟨w.heap.size, 0, none⟩ = some (.bool s.leaf) ∧ w'.cell? ⟨w.heap.size, 1, none⟩ = some (.slice K nk ck) ∧ w'.cell? ⟨w.heap.size, 2, none⟩ = some (.slice V nv cv) ∧ w'.cell? ⟨w.heap.size, 3, none⟩ = some (.slice D nd cd) ∧ w'.cell? ⟨gp, 0, none⟩ = some (.bool p.leaf) ∧ w'.cell? ⟨gp, 1, none⟩ = some (.slice Kp nkp ckp) ∧ w'.cell? ⟨gp, 2, none⟩ = some (.slice Vp nvp cvp) ∧ w'.cell? ⟨gp, 3, none⟩ = some (.slice Dp ndp cdp) ∧ w'.cell? ⟨gq, 0, none⟩ = some (.bool q.leaf) ∧ w'.cell? ⟨gq, 1, none⟩ = some (.slice Kq nkq ckq) ∧ w'.cell? ⟨gq, 2, none⟩ = some (.slice Vq nvq cvq) ∧ w'.cell? ⟨gq, 3, none⟩ = some (.slice Dq ndq cdq)) 5 (by kernel_rfl) rfl (by kernel_rfl) ?_ ?_
    · exact ⟨hW.drew.box.cell 0, hW.drew.box.cell 1, hW.drew.box.cell 2, hW.drew.box.cell 3, hW.drew.one.cell 0, hW.drew.one.cell 1, hW.drew.one.cell 2, hW.drew.one.cell 3, hW.drew.two.cell 0, hW.drew.two.cell 1, hW.drew.two.cell 2, hW.drew.two.cell 3⟩
    intro hHeld
    simp only [List.take_succ_cons, List.take_zero]
    refine wpAnyH_take (i := 0) (v := ?_) (by simp only [List.getElem?_toArray, List.getElem?_cons_succ, List.getElem?_cons_zero]; rfl) (by kernel_rfl) (by kernel_rfl) (by kernel_rfl) (fun _ _ _ h => h) (Or.inl ⟨by rfl, ?_⟩) hHeld ?_
    rotate_left
    · intro wz hSw; (try dsimp only at hSw); go_simp; try with_reducible rfl
    (try simp only [Act.put, List.setIfInBounds_toArray, List.set_cons_zero, List.set_cons_succ])
    refine wpAnyH_take (i := 1) (v := ?_) (by simp only [List.getElem?_toArray, List.getElem?_cons_succ, List.getElem?_cons_zero]; rfl) (by kernel_rfl) (by kernel_rfl) (by kernel_rfl) (fun _ _ _ h => h) (Or.inl ⟨by rfl, ?_⟩) hHeld ?_
    rotate_left
    · intro wz hSw; (try dsimp only at hSw); go_simp; try with_reducible rfl
    (try simp only [Act.put, List.setIfInBounds_toArray, List.set_cons_zero, List.set_cons_succ])
    refine wpAnyH_take (i := 3) (v := ?_) (by simp only [List.getElem?_toArray, List.getElem?_cons_succ, List.getElem?_cons_zero]; rfl) (by kernel_rfl) (by kernel_rfl) (by kernel_rfl) (fun _ _ _ h => h) (Or.inl ⟨by rfl, ?_⟩) hHeld ?_
    rotate_left
    · intro wz hSw; (try dsimp only at hSw); go_simp; try with_reducible rfl
    (try simp only [Act.put, List.setIfInBounds_toArray, List.set_cons_zero, List.set_cons_succ])
    refine wpAnyH_ready (rs := [2]) (by kernel_rfl) (by simp) ?_
    refine AllReadyH.cons (by simp only [List.getElem?_toArray, List.getElem?_cons_succ, List.getElem?_cons_zero]; rfl) (fun KK hK => ?_) AllReadyH.nil
    go_simp; ((with_reducible refine Calls.mono J1.out ?_); rintro e w6 ⟨K6, nk6, ck6, V6, nv6, cv6, D6, nd6, cd6, rfl, n6, hb6⟩; have hW6 := hW.drew.under hb6); go_wp2_with fail
    refine hK.out _ _ ?_ (fun hHeld => ?_)
    · exact ⟨hW6.box.cell 0, hW6.box.cell 1, hW6.box.cell 2, hW6.box.cell 3, hW6.one.cell 0, hW6.one.cell 1, hW6.one.cell 2, hW6.one.cell 3, hW6.two.cell 0, hW6.two.cell 1, hW6.two.cell 2, hW6.two.cell 3⟩
    clear hK KK
    (try simp only [Act.put, List.setIfInBounds_toArray, List.set_cons_zero, List.set_cons_succ])
    have M1 := Lib.hid (nsame_b (decide_eq_true HJ.out) n6 (HR.out.below hW6.below (Nat.le_refl _)))
    refine wpAnyH_ready (rs := [4]) (by kernel_rfl) (by simp) ?_
    refine AllReadyH.cons (by simp only [List.getElem?_toArray, List.getElem?_cons_succ, List.getElem?_cons_zero]; rfl) (fun KK hK => ?_) AllReadyH.nil
    go_simp; ((with_reducible refine Calls.mono M1.out ?_); rintro e w7 ⟨rfl, hb7⟩; have hW7 := hW6.under hb7); go_wp2_with fail
    refine hK.out _ _ ?_ (fun hHeld => ?_)
    · exact ⟨hW7.box.cell 0, hW7.box.cell 1, hW7.box.cell 2, hW7.box.cell 3, hW7.one.cell 0, hW7.one.cell 1, hW7.one.cell 2, hW7.one.cell 3, hW7.two.cell 0, hW7.two.cell 1, hW7.two.cell 2, hW7.two.cell 3⟩
    clear hK KK
    (try simp only [Act.put, List.setIfInBounds_toArray, List.set_cons_zero, List.set_cons_succ])
    refine wpAnyH_done (by kernel_rfl) ?_ _
    simp only [lastQ]
    go_simp
    clear hHeld
    go_upto_region 7 with fail
    refine wp_world (fun U => HvW w U s.leaf K nk ck V nv cv D nd cd p q gp gq [Value.bool p.leaf, .slice Kp nkp ckp, .slice Vp nvp cvp, .slice Dp ndp cdp] [Value.bool q.leaf, .slice Kq nkq ckq, .slice Vq nvq cvq, .slice Dq ndq cdq]) hW7 ?_
    clear hW hW6 hW7 hb6 hb7 n6 J1 M1
    try clear hHeld
    rintro U4 hW
    have bc := hW.box.cells
    have qc := hW.two.cells
    have b9 := hW.below
    clear hW
    rcases HJJ.out.2 with hx | ⟨hx, hq⟩
    · rw [HK.out] at hx
      go_wp2_with (go_at_call 17; refine (nodlives_any _).mono ?_; rintro e w8 ⟨rfl, hb8⟩)
      go_ret
      exact ⟨rfl, b9.trans (hb8.mono b9.size)⟩
    · rw [HK.out] at hx
      have hx2 : decide ((nk : Int) < 2) = false := decide_eq_false (by omega)
      rw [hq] at qc
      go_wp2_with (go_at_call 17; refine (nodlives_any _).mono ?_; rintro e w8 ⟨rfl, hb8⟩)
      go_ret
      exact ⟨rfl, b9.trans (hb8.mono b9.size)⟩
end Go.Proofs.Ytnjpibbmgbiofaa
