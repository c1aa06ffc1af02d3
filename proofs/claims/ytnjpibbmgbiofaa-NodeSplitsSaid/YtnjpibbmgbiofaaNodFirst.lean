/- kistref14.first gives a node's first keys. (Printed by gen_nodfirst.py.) Condition: no more than there are. -/
import Derived.Test.YtnjpibbmgbiofaaNodFiM
namespace Go.Proofs.Ytnjpibbmgbiofaa
open Go.RowKit
set_option linter.unusedSimpArgs false
set_option linter.unusedVariables false

set_option maxRecDepth 100000 in
set_option maxHeartbeats 4000000 in
theorem first_any (s : Nd) {w : World} {lo : Nat} {K V D : Option Addr} {nk ck nv cv nd cd : Nat} (h : NdR w lo s K nk ck V nv cv D nd cd) (m : Nat) (hm : m ≤ nk) :
    Calls Try.prog 37 #[.agg #[.bool s.leaf, .slice K nk ck, .slice V nv cv, .slice D nd cd], .int .i64 m] w (NodeTo w (partN s 0 m)) := by
  have hz := zero25_
  have HR := Lib.hid h
  have hkr := h.kroom
  have hvr := h.vroom
  have hdr := h.droom
  have hck := h.keys.2.1
  have hck2 := h.keys.2.2.1
  have hcv := h.vals.2.1
  have hcv2 := h.vals.2.2.1
  have hcd := h.kids.2.1
  have hcd2 := h.kids.2.2.1
  have HK : Hid (s.keys.length = nk) := h.nk_eq
  have HV : Hid (s.vals.length = nv) := h.nv_eq
  have HD : Hid (s.kids.length = nd) := h.nd_eq
  clear h
  go_enter Try.func37, Try.ntmps37
  go_upto_region 2 with fail
  refine wp_world (fun W => FiQ w [.bool s.leaf, .slice K nk ck, .slice V nv cv, .slice D nd cd] W s.leaf [] [] [] none 0 none 0 none 0) (FiQ.init s.leaf) ?_
  clear hz
  rintro W G1
  go_wp2
  go_loopw [6] (fun s6 wr => ∃ (i : Nat) (ks vs : List ByteArray) (ds : List Int) (K1 : Option Addr) (ck1 : Nat) (V1 : Option Addr) (cv1 : Nat) (D1 : Option Addr) (cd1 : Nat), i ≤ m ∧ s6 = .int .i64 i ∧ s.keys.take i = ks ∧ s.vals.take i = vs ∧ s.kids.take i = ds ∧ FiQ w [.bool s.leaf, .slice K nk ck, .slice V nv cv, .slice D nd cd] wr s.leaf ks vs ds K1 ck1 V1 cv1 D1 cd1)
    (fun s6 _ => m - (intOf s6).toNat)
  case atStart => exact ⟨0, [], [], [], none, 0, none, 0, none, 0, Nat.zero_le _, rfl, rfl, rfl, rfl, G1⟩
  case round =>
    clear G1
    obtain ⟨i, ks, vs, ds, K1, ck1, V1, cv1, D1, cd1, hi, rfl, hks, hvs, hds, hG⟩ := hrel
    have HKs := Lib.hid hks
    have HVs := Lib.hid hvs
    have HDs := Lib.hid hds
    have lk : ks.length ≤ i := by rw [← hks, List.length_take]; omega
    have lv : vs.length ≤ i := by rw [← hvs, List.length_take]; omega
    have ld : ds.length ≤ i := by rw [← hds, List.length_take]; omega
    clear hks hvs hds
    by_cases hlt : i < m
    · have hq : i < nk := by omega
      have hqi : (i : Int) < (nk : Int) := by omega
      obtain ⟨b, o, rfl, _, _⟩ := HR.out.keys.at_ (by omega)
      have HC := Lib.hid (show ∀ W', Below w.heap.size w W' → W'.cell? ⟨b, o + i, none⟩ = some (.string (kAt s i)) from fun W' hW' => sl_cell (HR.out.keys.below hW' (Nat.le_refl _)) i hq)
      have HKn : Hid (s.keys.take (i + 1) = ks ++ [kAt s i]) := by show _ = _; rw [take_snoc s.keys .empty i (by rw [HK.out]; exact hq), HKs.out]; rfl
      go_upto_region 5 with fail
      refine wp_region_last (S := fun w' => w'.cell? ⟨w.heap.size + 2, 1, none⟩ = some (.slice K1 ks.length ck1) ∧ w'.cell? ⟨w.heap.size, 1, none⟩ = some (.slice (some ⟨b, o, none⟩) nk ck) ∧ w'.cell? ⟨b, o + i, none⟩ = some (.string (kAt s i))) 10 (by kernel_rfl) rfl (by kernel_rfl) ?_ ?_
      · exact ⟨hG.nod.cell 1, hG.box.cell 1, HC.out _ hG.below.drew⟩
      intro hHeld
      simp only [List.take_succ_cons, List.take_zero]
      refine wpAnyH_take (i := 0) (v := ?_) (by simp only [List.getElem?_toArray, List.getElem?_cons_succ, List.getElem?_cons_zero]; rfl) (by kernel_rfl) (by kernel_rfl) (by kernel_rfl) (fun _ _ _ h => h) (Or.inl ⟨by rfl, ?_⟩) hHeld ?_
      rotate_left
      · intro wz hSw; (try dsimp only at hSw); go_simp; try with_reducible rfl
      (try simp only [Act.put, List.setIfInBounds_toArray, List.set_cons_zero, List.set_cons_succ])
      refine wpAnyH_take (i := 1) (v := ?_) (by simp only [List.getElem?_toArray, List.getElem?_cons_succ, List.getElem?_cons_zero]; rfl) (by kernel_rfl) (by kernel_rfl) (by kernel_rfl) (fun _ _ _ h => h) (Or.inl ⟨by rfl, ?_⟩) hHeld ?_
      rotate_left
      · intro wz hSw; (try dsimp only at hSw); go_simp; try with_reducible rfl
      (try simp only [Act.put, List.setIfInBounds_toArray, List.set_cons_zero, List.set_cons_succ])
      refine wpAnyH_take (i := 2) (v := ?_) (by simp only [List.getElem?_toArray, List.getElem?_cons_succ, List.getElem?_cons_zero]; rfl) (by kernel_rfl) (by kernel_rfl) (by kernel_rfl) (fun _ _ _ h => h) (Or.inl ⟨by rfl, ?_⟩) hHeld ?_
      rotate_left
      · intro wz hSw; (try dsimp only at hSw); go_simp; try with_reducible rfl
      (try simp only [Act.put, List.setIfInBounds_toArray, List.set_cons_zero, List.set_cons_succ])
      refine wpAnyH_take (i := 3) (v := ?_) (by simp only [List.getElem?_toArray, List.getElem?_cons_succ, List.getElem?_cons_zero]; rfl) (by kernel_rfl) (by kernel_rfl) (by kernel_rfl) (fun _ _ _ h => h) (Or.inl ⟨by rfl, ?_⟩) hHeld ?_
      rotate_left
      · intro wz hSw; (try dsimp only at hSw); go_simp; try with_reducible rfl
      (try simp only [Act.put, List.setIfInBounds_toArray, List.set_cons_zero, List.set_cons_succ])
      refine wpAnyH_take (i := 4) (v := ?_) (by simp only [List.getElem?_toArray, List.getElem?_cons_succ, List.getElem?_cons_zero]; rfl) (by kernel_rfl) (by kernel_rfl) (by kernel_rfl) (fun _ _ _ h => h) (Or.inl ⟨by rfl, ?_⟩) hHeld ?_
      rotate_left
      · intro wz hSw; (try dsimp only at hSw); go_simp; try with_reducible rfl
      (try simp only [Act.put, List.setIfInBounds_toArray, List.set_cons_zero, List.set_cons_succ])
      refine wpAnyH_take (i := 5) (v := ?_) (by simp only [List.getElem?_toArray, List.getElem?_cons_succ, List.getElem?_cons_zero]; rfl) (by kernel_rfl) (by kernel_rfl) (by kernel_rfl) (fun _ _ _ h => h) (Or.inl ⟨by rfl, ?_⟩) hHeld ?_
      rotate_left
      · intro wz hSw; (try dsimp only at hSw); go_simp; try with_reducible rfl
      (try simp only [Act.put, List.setIfInBounds_toArray, List.set_cons_zero, List.set_cons_succ])
      refine wpAnyH_take (i := 6) (v := ?_) (by simp only [List.getElem?_toArray, List.getElem?_cons_succ, List.getElem?_cons_zero]; rfl) (by kernel_rfl) (by kernel_rfl) (by kernel_rfl) (fun _ _ _ h => h) (Or.inl ⟨by rfl, ?_⟩) hHeld ?_
      rotate_left
      · intro wz hSw; (try dsimp only at hSw); go_simp; try with_reducible rfl
      (try simp only [Act.put, List.setIfInBounds_toArray, List.set_cons_zero, List.set_cons_succ])
      refine wpAnyH_ready (rs := [7]) (by kernel_rfl) (by simp) ?_
      refine AllReadyH.cons (by simp only [List.getElem?_toArray, List.getElem?_cons_succ, List.getElem?_cons_zero]; rfl) (fun KK hK => ?_) AllReadyH.nil
      go_simp
      refine hK.out _ _ ?_ (fun hHeld => ?_)
      · exact ⟨(hG.drew.alloc _).nod.cell 1, (hG.drew.alloc _).box.cell 1, HC.out _ (hG.drew.alloc _).below⟩
      clear hK KK
      (try simp only [Act.put, List.setIfInBounds_toArray, List.set_cons_zero, List.set_cons_succ])
      refine wpAnyH_ready (rs := [8]) (by kernel_rfl) (by simp) ?_
      refine AllReadyH.cons (by simp only [List.getElem?_toArray, List.getElem?_cons_succ, List.getElem?_cons_zero]; rfl) (fun KK hK => ?_) AllReadyH.nil
      (refine step_app rfl (.tmp 16) (.tmp 22) 22 rfl 9 1 Try.underlying22 info9 rfl (by omega) rfl (hG.keys.drew.alloc _) rfl (rd_one _ _ rfl) rfl (one_str _) (by omega) (by omega) (by have := hG.high; simp; omega) ?_; intro K2 ck2 w2 ho2 hg2 hf2; have G2 := hG.drew.allocg hg2; have hb5 := below_own G2.below G2.keys hg2 (by omega) G2.below.size)
      refine hK.out _ _ ?_ (fun hHeld => ?_)
      · exact ⟨(G2.midk hg2).cell 1, (G2.box.grown hg2 (own_ne G2.keys (by omega))).cell 1, HC.out _ hb5⟩
      clear hK KK
      (try simp only [Act.put, List.setIfInBounds_toArray, List.set_cons_zero, List.set_cons_succ])
      refine wpAnyH_take (i := 9) (v := ?_) (by simp only [List.getElem?_toArray, List.getElem?_cons_succ, List.getElem?_cons_zero]; rfl) (by kernel_rfl) (by kernel_rfl) (by kernel_rfl) (fun _ _ _ h => h) (Or.inl ⟨by rfl, ?_⟩) hHeld ?_
      rotate_left
      · intro wz hSw; (try dsimp only at hSw); go_simp; try with_reducible rfl
      (try simp only [Act.put, List.setIfInBounds_toArray, List.set_cons_zero, List.set_cons_succ])
      have eF := (G2.midk hg2).frees
      have eC := (G2.midk hg2).cells
      refine wpAnyH_done (by kernel_rfl) ?_ _
      simp only [lastQ]
      go_simp
      clear eF eC
      go_upto_region 6 with fail
      refine wp_world (fun W => FiQ w [.bool s.leaf, .slice (some ⟨b, o, none⟩) nk ck, .slice V nv cv, .slice D nd cd] W s.leaf (ks ++ [kAt s i]) vs ds K2 ck2 V1 cv1 D1 cd1) (G2.key ho2 hg2 hf2) ?_
      clear hG G2 ho2 hg2 hf2 hHeld hb5
      rintro W3 hG
      obtain ⟨ks2, hk2⟩ : ∃ l, ks ++ [kAt s i] = l := ⟨_, rfl⟩
      rw [hk2] at hG
      have HKn2 : Hid (s.keys.take (i + 1) = ks2) := by show _ = _; rw [HKn.out, hk2]
      clear hk2 HKn HC
      by_cases hiv : i < nv
      · obtain ⟨vb, vo, rfl, _, _⟩ := HR.out.vals.at_ (by omega)
        have hivi : (i : Int) < (nv : Int) := by omega
        have HC2 := Lib.hid (show ∀ W', Below w.heap.size w W' → W'.cell? ⟨vb, vo + i, none⟩ = some (.string (vAt s i)) from fun W' hW' => sl_cell (HR.out.vals.below hW' (Nat.le_refl _)) i hiv)
        have HVn : Hid (s.vals.take (i + 1) = vs ++ [vAt s i]) := by show _ = _; rw [take_snoc s.vals .empty i (by rw [HV.out]; exact hiv), HVs.out]; rfl
        have bc := hG.box.cells
        go_upto_region 7 with fail
        clear bc
        refine wp_region_last (S := fun w' => w'.cell? ⟨w.heap.size + 2, 2, none⟩ = some (.slice V1 vs.length cv1) ∧ w'.cell? ⟨w.heap.size, 2, none⟩ = some (.slice (some ⟨vb, vo, none⟩) nv cv) ∧ w'.cell? ⟨vb, vo + i, none⟩ = some (.string (vAt s i))) 10 (by kernel_rfl) rfl (by kernel_rfl) ?_ ?_
        · exact ⟨hG.nod.cell 2, hG.box.cell 2, HC2.out _ hG.below.drew⟩
        intro hHeld
        simp only [List.take_succ_cons, List.take_zero]
        refine wpAnyH_take (i := 0) (v := ?_) (by simp only [List.getElem?_toArray, List.getElem?_cons_succ, List.getElem?_cons_zero]; rfl) (by kernel_rfl) (by kernel_rfl) (by kernel_rfl) (fun _ _ _ h => h) (Or.inl ⟨by rfl, ?_⟩) hHeld ?_
        rotate_left
        · intro wz hSw; (try dsimp only at hSw); go_simp; try with_reducible rfl
        (try simp only [Act.put, List.setIfInBounds_toArray, List.set_cons_zero, List.set_cons_succ])
        refine wpAnyH_take (i := 1) (v := ?_) (by simp only [List.getElem?_toArray, List.getElem?_cons_succ, List.getElem?_cons_zero]; rfl) (by kernel_rfl) (by kernel_rfl) (by kernel_rfl) (fun _ _ _ h => h) (Or.inl ⟨by rfl, ?_⟩) hHeld ?_
        rotate_left
        · intro wz hSw; (try dsimp only at hSw); go_simp; try with_reducible rfl
        (try simp only [Act.put, List.setIfInBounds_toArray, List.set_cons_zero, List.set_cons_succ])
        refine wpAnyH_take (i := 2) (v := ?_) (by simp only [List.getElem?_toArray, List.getElem?_cons_succ, List.getElem?_cons_zero]; rfl) (by kernel_rfl) (by kernel_rfl) (by kernel_rfl) (fun _ _ _ h => h) (Or.inl ⟨by rfl, ?_⟩) hHeld ?_
        rotate_left
        · intro wz hSw; (try dsimp only at hSw); go_simp; try with_reducible rfl
        (try simp only [Act.put, List.setIfInBounds_toArray, List.set_cons_zero, List.set_cons_succ])
        refine wpAnyH_take (i := 3) (v := ?_) (by simp only [List.getElem?_toArray, List.getElem?_cons_succ, List.getElem?_cons_zero]; rfl) (by kernel_rfl) (by kernel_rfl) (by kernel_rfl) (fun _ _ _ h => h) (Or.inl ⟨by rfl, ?_⟩) hHeld ?_
        rotate_left
        · intro wz hSw; (try dsimp only at hSw); go_simp; try with_reducible rfl
        (try simp only [Act.put, List.setIfInBounds_toArray, List.set_cons_zero, List.set_cons_succ])
        refine wpAnyH_take (i := 4) (v := ?_) (by simp only [List.getElem?_toArray, List.getElem?_cons_succ, List.getElem?_cons_zero]; rfl) (by kernel_rfl) (by kernel_rfl) (by kernel_rfl) (fun _ _ _ h => h) (Or.inl ⟨by rfl, ?_⟩) hHeld ?_
        rotate_left
        · intro wz hSw; (try dsimp only at hSw); go_simp; try with_reducible rfl
        (try simp only [Act.put, List.setIfInBounds_toArray, List.set_cons_zero, List.set_cons_succ])
        refine wpAnyH_take (i := 5) (v := ?_) (by simp only [List.getElem?_toArray, List.getElem?_cons_succ, List.getElem?_cons_zero]; rfl) (by kernel_rfl) (by kernel_rfl) (by kernel_rfl) (fun _ _ _ h => h) (Or.inl ⟨by rfl, ?_⟩) hHeld ?_
        rotate_left
        · intro wz hSw; (try dsimp only at hSw); go_simp; try with_reducible rfl
        (try simp only [Act.put, List.setIfInBounds_toArray, List.set_cons_zero, List.set_cons_succ])
        refine wpAnyH_take (i := 6) (v := ?_) (by simp only [List.getElem?_toArray, List.getElem?_cons_succ, List.getElem?_cons_zero]; rfl) (by kernel_rfl) (by kernel_rfl) (by kernel_rfl) (fun _ _ _ h => h) (Or.inl ⟨by rfl, ?_⟩) hHeld ?_
        rotate_left
        · intro wz hSw; (try dsimp only at hSw); go_simp; try with_reducible rfl
        (try simp only [Act.put, List.setIfInBounds_toArray, List.set_cons_zero, List.set_cons_succ])
        refine wpAnyH_ready (rs := [7]) (by kernel_rfl) (by simp) ?_
        refine AllReadyH.cons (by simp only [List.getElem?_toArray, List.getElem?_cons_succ, List.getElem?_cons_zero]; rfl) (fun KK hK => ?_) AllReadyH.nil
        go_simp
        refine hK.out _ _ ?_ (fun hHeld => ?_)
        · exact ⟨(hG.drew.alloc _).nod.cell 2, (hG.drew.alloc _).box.cell 2, HC2.out _ (hG.drew.alloc _).below⟩
        clear hK KK
        (try simp only [Act.put, List.setIfInBounds_toArray, List.set_cons_zero, List.set_cons_succ])
        refine wpAnyH_ready (rs := [8]) (by kernel_rfl) (by simp) ?_
        refine AllReadyH.cons (by simp only [List.getElem?_toArray, List.getElem?_cons_succ, List.getElem?_cons_zero]; rfl) (fun KK hK => ?_) AllReadyH.nil
        (refine step_app rfl (.tmp 31) (.tmp 37) 22 rfl 9 1 Try.underlying22 info9 rfl (by omega) rfl (hG.vals.drew.alloc _) rfl (rd_one _ _ rfl) rfl (one_str _) (by omega) (by omega) (by have := hG.high; simp; omega) ?_; intro V2 cv2 w2 ho2 hg2 hf2; have G2 := hG.drew.allocg hg2; have hb5 := below_own G2.below G2.vals hg2 (by omega) G2.below.size)
        refine hK.out _ _ ?_ (fun hHeld => ?_)
        · exact ⟨(G2.midv hg2).cell 2, (G2.box.grown hg2 (own_ne G2.vals (by omega))).cell 2, HC2.out _ hb5⟩
        clear hK KK
        (try simp only [Act.put, List.setIfInBounds_toArray, List.set_cons_zero, List.set_cons_succ])
        refine wpAnyH_take (i := 9) (v := ?_) (by simp only [List.getElem?_toArray, List.getElem?_cons_succ, List.getElem?_cons_zero]; rfl) (by kernel_rfl) (by kernel_rfl) (by kernel_rfl) (fun _ _ _ h => h) (Or.inl ⟨by rfl, ?_⟩) hHeld ?_
        rotate_left
        · intro wz hSw; (try dsimp only at hSw); go_simp; try with_reducible rfl
        (try simp only [Act.put, List.setIfInBounds_toArray, List.set_cons_zero, List.set_cons_succ])
        have eF := (G2.midv hg2).frees
        have eC := (G2.midv hg2).cells
        refine wpAnyH_done (by kernel_rfl) ?_ _
        simp only [lastQ]
        go_simp
        clear eF eC
        go_upto_region 8 with fail
        refine wp_world (fun W => FiQ w [.bool s.leaf, .slice (some ⟨b, o, none⟩) nk ck, .slice (some ⟨vb, vo, none⟩) nv cv, .slice D nd cd] W s.leaf ks2 (vs ++ [vAt s i]) ds K2 ck2 V2 cv2 D1 cd1) (G2.val ho2 hg2 hf2) ?_
        clear hG G2 ho2 hg2 hf2 hHeld hb5
        rintro W3 hG
        clear HC2
        by_cases hid : i < nd
        · obtain ⟨db, do_, rfl, _, _⟩ := HR.out.kids.at_ (by omega)
          have hidi : (i : Int) < (nd : Int) := by omega
          have HC3 := Lib.hid (show ∀ W', Below w.heap.size w W' → W'.cell? ⟨db, do_ + i, none⟩ = some (.int .i64 (dAt s i)) from fun W' hW' => il_cell (HR.out.kids.below hW' (Nat.le_refl _)) i hid)
          have HDn : Hid (s.kids.take (i + 1) = ds ++ [dAt s i]) := by show _ = _; rw [take_snoc s.kids 0 i (by rw [HD.out]; exact hid), HDs.out]; rfl
          have bc := hG.box.cells
          go_upto_region 9 with fail
          clear bc
          refine wp_region_last (S := fun w' => w'.cell? ⟨w.heap.size + 2, 3, none⟩ = some (.slice D1 ds.length cd1) ∧ w'.cell? ⟨w.heap.size, 3, none⟩ = some (.slice (some ⟨db, do_, none⟩) nd cd) ∧ w'.cell? ⟨db, do_ + i, none⟩ = some (.int .i64 (dAt s i))) 10 (by kernel_rfl) rfl (by kernel_rfl) ?_ ?_
          · exact ⟨hG.nod.cell 3, hG.box.cell 3, HC3.out _ hG.below.drew⟩
          intro hHeld
          simp only [List.take_succ_cons, List.take_zero]
          refine wpAnyH_take (i := 0) (v := ?_) (by simp only [List.getElem?_toArray, List.getElem?_cons_succ, List.getElem?_cons_zero]; rfl) (by kernel_rfl) (by kernel_rfl) (by kernel_rfl) (fun _ _ _ h => h) (Or.inl ⟨by rfl, ?_⟩) hHeld ?_
          rotate_left
          · intro wz hSw; (try dsimp only at hSw); go_simp; try with_reducible rfl
          (try simp only [Act.put, List.setIfInBounds_toArray, List.set_cons_zero, List.set_cons_succ])
          refine wpAnyH_take (i := 1) (v := ?_) (by simp only [List.getElem?_toArray, List.getElem?_cons_succ, List.getElem?_cons_zero]; rfl) (by kernel_rfl) (by kernel_rfl) (by kernel_rfl) (fun _ _ _ h => h) (Or.inl ⟨by rfl, ?_⟩) hHeld ?_
          rotate_left
          · intro wz hSw; (try dsimp only at hSw); go_simp; try with_reducible rfl
          (try simp only [Act.put, List.setIfInBounds_toArray, List.set_cons_zero, List.set_cons_succ])
          refine wpAnyH_take (i := 2) (v := ?_) (by simp only [List.getElem?_toArray, List.getElem?_cons_succ, List.getElem?_cons_zero]; rfl) (by kernel_rfl) (by kernel_rfl) (by kernel_rfl) (fun _ _ _ h => h) (Or.inl ⟨by rfl, ?_⟩) hHeld ?_
          rotate_left
          · intro wz hSw; (try dsimp only at hSw); go_simp; try with_reducible rfl
          (try simp only [Act.put, List.setIfInBounds_toArray, List.set_cons_zero, List.set_cons_succ])
          refine wpAnyH_take (i := 3) (v := ?_) (by simp only [List.getElem?_toArray, List.getElem?_cons_succ, List.getElem?_cons_zero]; rfl) (by kernel_rfl) (by kernel_rfl) (by kernel_rfl) (fun _ _ _ h => h) (Or.inl ⟨by rfl, ?_⟩) hHeld ?_
          rotate_left
          · intro wz hSw; (try dsimp only at hSw); go_simp; try with_reducible rfl
          (try simp only [Act.put, List.setIfInBounds_toArray, List.set_cons_zero, List.set_cons_succ])
          refine wpAnyH_take (i := 4) (v := ?_) (by simp only [List.getElem?_toArray, List.getElem?_cons_succ, List.getElem?_cons_zero]; rfl) (by kernel_rfl) (by kernel_rfl) (by kernel_rfl) (fun _ _ _ h => h) (Or.inl ⟨by rfl, ?_⟩) hHeld ?_
          rotate_left
          · intro wz hSw; (try dsimp only at hSw); go_simp; try with_reducible rfl
          (try simp only [Act.put, List.setIfInBounds_toArray, List.set_cons_zero, List.set_cons_succ])
          refine wpAnyH_take (i := 5) (v := ?_) (by simp only [List.getElem?_toArray, List.getElem?_cons_succ, List.getElem?_cons_zero]; rfl) (by kernel_rfl) (by kernel_rfl) (by kernel_rfl) (fun _ _ _ h => h) (Or.inl ⟨by rfl, ?_⟩) hHeld ?_
          rotate_left
          · intro wz hSw; (try dsimp only at hSw); go_simp; try with_reducible rfl
          (try simp only [Act.put, List.setIfInBounds_toArray, List.set_cons_zero, List.set_cons_succ])
          refine wpAnyH_take (i := 6) (v := ?_) (by simp only [List.getElem?_toArray, List.getElem?_cons_succ, List.getElem?_cons_zero]; rfl) (by kernel_rfl) (by kernel_rfl) (by kernel_rfl) (fun _ _ _ h => h) (Or.inl ⟨by rfl, ?_⟩) hHeld ?_
          rotate_left
          · intro wz hSw; (try dsimp only at hSw); go_simp; try with_reducible rfl
          (try simp only [Act.put, List.setIfInBounds_toArray, List.set_cons_zero, List.set_cons_succ])
          refine wpAnyH_ready (rs := [7]) (by kernel_rfl) (by simp) ?_
          refine AllReadyH.cons (by simp only [List.getElem?_toArray, List.getElem?_cons_succ, List.getElem?_cons_zero]; rfl) (fun KK hK => ?_) AllReadyH.nil
          go_simp
          refine hK.out _ _ ?_ (fun hHeld => ?_)
          · exact ⟨(hG.drew.alloc _).nod.cell 3, (hG.drew.alloc _).box.cell 3, HC3.out _ (hG.drew.alloc _).below⟩
          clear hK KK
          (try simp only [Act.put, List.setIfInBounds_toArray, List.set_cons_zero, List.set_cons_succ])
          refine wpAnyH_ready (rs := [8]) (by kernel_rfl) (by simp) ?_
          refine AllReadyH.cons (by simp only [List.getElem?_toArray, List.getElem?_cons_succ, List.getElem?_cons_zero]; rfl) (fun KK hK => ?_) AllReadyH.nil
          (refine step_app rfl (.tmp 46) (.tmp 52) 23 rfl 3 1 Try.underlying23 info3 rfl (by omega) rfl (hG.kids.drew.alloc _) rfl (rd_one _ _ rfl) rfl (one_int _ _) (by omega) (by omega) (by have := hG.high; simp; omega) ?_; intro D2 cd2 w2 ho2 hg2 hf2; have G2 := hG.drew.allocg hg2; have hb5 := below_own G2.below G2.kids hg2 (by omega) G2.below.size)
          refine hK.out _ _ ?_ (fun hHeld => ?_)
          · exact ⟨(G2.midd hg2).cell 3, (G2.box.grown hg2 (own_ne G2.kids (by omega))).cell 3, HC3.out _ hb5⟩
          clear hK KK
          (try simp only [Act.put, List.setIfInBounds_toArray, List.set_cons_zero, List.set_cons_succ])
          refine wpAnyH_take (i := 9) (v := ?_) (by simp only [List.getElem?_toArray, List.getElem?_cons_succ, List.getElem?_cons_zero]; rfl) (by kernel_rfl) (by kernel_rfl) (by kernel_rfl) (fun _ _ _ h => h) (Or.inl ⟨by rfl, ?_⟩) hHeld ?_
          rotate_left
          · intro wz hSw; (try dsimp only at hSw); go_simp; try with_reducible rfl
          (try simp only [Act.put, List.setIfInBounds_toArray, List.set_cons_zero, List.set_cons_succ])
          have eF := (G2.midd hg2).frees
          have eC := (G2.midd hg2).cells
          refine wpAnyH_done (by kernel_rfl) ?_ _
          simp only [lastQ]
          go_simp
          clear eF eC
          go_upto_region 4 with fail
          refine wp_world (fun W => FiQ w [.bool s.leaf, .slice (some ⟨b, o, none⟩) nk ck, .slice (some ⟨vb, vo, none⟩) nv cv, .slice (some ⟨db, do_, none⟩) nd cd] W s.leaf ks2 (vs ++ [vAt s i]) (ds ++ [dAt s i]) K2 ck2 V2 cv2 D2 cd2) (G2.kid ho2 hg2) ?_
          clear hG G2 ho2 hg2 hf2 hHeld hb5
          rintro W3 hG
          have bc := hG.box.cells
          go_wp2
          go_roundw
          case rel => exact ⟨i + 1, _, _, _, _, _, _, _, _, _, by omega, by go_num, HKn2.out, HVn.out, HDn.out, hG⟩
          case measure => simp [intOf]; omega
        · have HDn : Hid (s.kids.take (i + 1) = ds) := by show _ = _; rw [take_more s.kids i (by rw [HD.out]; omega), HDs.out]
          have bc := hG.box.cells
          go_wp2
          go_roundw
          case rel => exact ⟨i + 1, _, _, _, _, _, _, _, _, _, by omega, by go_num, HKn2.out, HVn.out, HDn.out, hG⟩
          case measure => simp [intOf]; omega
      · have HVn : Hid (s.vals.take (i + 1) = vs) := by show _ = _; rw [take_more s.vals i (by rw [HV.out]; omega), HVs.out]
        by_cases hid : i < nd
        · obtain ⟨db, do_, rfl, _, _⟩ := HR.out.kids.at_ (by omega)
          have hidi : (i : Int) < (nd : Int) := by omega
          have HC3 := Lib.hid (show ∀ W', Below w.heap.size w W' → W'.cell? ⟨db, do_ + i, none⟩ = some (.int .i64 (dAt s i)) from fun W' hW' => il_cell (HR.out.kids.below hW' (Nat.le_refl _)) i hid)
          have HDn : Hid (s.kids.take (i + 1) = ds ++ [dAt s i]) := by show _ = _; rw [take_snoc s.kids 0 i (by rw [HD.out]; exact hid), HDs.out]; rfl
          have bc := hG.box.cells
          go_upto_region 9 with fail
          clear bc
          refine wp_region_last (S := fun w' => w'.cell? ⟨w.heap.size + 2, 3, none⟩ = some (.slice D1 ds.length cd1) ∧ w'.cell? ⟨w.heap.size, 3, none⟩ = some (.slice (some ⟨db, do_, none⟩) nd cd) ∧ w'.cell? ⟨db, do_ + i, none⟩ = some (.int .i64 (dAt s i))) 10 (by kernel_rfl) rfl (by kernel_rfl) ?_ ?_
          · exact ⟨hG.nod.cell 3, hG.box.cell 3, HC3.out _ hG.below.drew⟩
          intro hHeld
          simp only [List.take_succ_cons, List.take_zero]
          refine wpAnyH_take (i := 0) (v := ?_) (by simp only [List.getElem?_toArray, List.getElem?_cons_succ, List.getElem?_cons_zero]; rfl) (by kernel_rfl) (by kernel_rfl) (by kernel_rfl) (fun _ _ _ h => h) (Or.inl ⟨by rfl, ?_⟩) hHeld ?_
          rotate_left
          · intro wz hSw; (try dsimp only at hSw); go_simp; try with_reducible rfl
          (try simp only [Act.put, List.setIfInBounds_toArray, List.set_cons_zero, List.set_cons_succ])
          refine wpAnyH_take (i := 1) (v := ?_) (by simp only [List.getElem?_toArray, List.getElem?_cons_succ, List.getElem?_cons_zero]; rfl) (by kernel_rfl) (by kernel_rfl) (by kernel_rfl) (fun _ _ _ h => h) (Or.inl ⟨by rfl, ?_⟩) hHeld ?_
          rotate_left
          · intro wz hSw; (try dsimp only at hSw); go_simp; try with_reducible rfl
          (try simp only [Act.put, List.setIfInBounds_toArray, List.set_cons_zero, List.set_cons_succ])
          refine wpAnyH_take (i := 2) (v := ?_) (by simp only [List.getElem?_toArray, List.getElem?_cons_succ, List.getElem?_cons_zero]; rfl) (by kernel_rfl) (by kernel_rfl) (by kernel_rfl) (fun _ _ _ h => h) (Or.inl ⟨by rfl, ?_⟩) hHeld ?_
          rotate_left
          · intro wz hSw; (try dsimp only at hSw); go_simp; try with_reducible rfl
          (try simp only [Act.put, List.setIfInBounds_toArray, List.set_cons_zero, List.set_cons_succ])
          refine wpAnyH_take (i := 3) (v := ?_) (by simp only [List.getElem?_toArray, List.getElem?_cons_succ, List.getElem?_cons_zero]; rfl) (by kernel_rfl) (by kernel_rfl) (by kernel_rfl) (fun _ _ _ h => h) (Or.inl ⟨by rfl, ?_⟩) hHeld ?_
          rotate_left
          · intro wz hSw; (try dsimp only at hSw); go_simp; try with_reducible rfl
          (try simp only [Act.put, List.setIfInBounds_toArray, List.set_cons_zero, List.set_cons_succ])
          refine wpAnyH_take (i := 4) (v := ?_) (by simp only [List.getElem?_toArray, List.getElem?_cons_succ, List.getElem?_cons_zero]; rfl) (by kernel_rfl) (by kernel_rfl) (by kernel_rfl) (fun _ _ _ h => h) (Or.inl ⟨by rfl, ?_⟩) hHeld ?_
          rotate_left
          · intro wz hSw; (try dsimp only at hSw); go_simp; try with_reducible rfl
          (try simp only [Act.put, List.setIfInBounds_toArray, List.set_cons_zero, List.set_cons_succ])
          refine wpAnyH_take (i := 5) (v := ?_) (by simp only [List.getElem?_toArray, List.getElem?_cons_succ, List.getElem?_cons_zero]; rfl) (by kernel_rfl) (by kernel_rfl) (by kernel_rfl) (fun _ _ _ h => h) (Or.inl ⟨by rfl, ?_⟩) hHeld ?_
          rotate_left
          · intro wz hSw; (try dsimp only at hSw); go_simp; try with_reducible rfl
          (try simp only [Act.put, List.setIfInBounds_toArray, List.set_cons_zero, List.set_cons_succ])
          refine wpAnyH_take (i := 6) (v := ?_) (by simp only [List.getElem?_toArray, List.getElem?_cons_succ, List.getElem?_cons_zero]; rfl) (by kernel_rfl) (by kernel_rfl) (by kernel_rfl) (fun _ _ _ h => h) (Or.inl ⟨by rfl, ?_⟩) hHeld ?_
          rotate_left
          · intro wz hSw; (try dsimp only at hSw); go_simp; try with_reducible rfl
          (try simp only [Act.put, List.setIfInBounds_toArray, List.set_cons_zero, List.set_cons_succ])
          refine wpAnyH_ready (rs := [7]) (by kernel_rfl) (by simp) ?_
          refine AllReadyH.cons (by simp only [List.getElem?_toArray, List.getElem?_cons_succ, List.getElem?_cons_zero]; rfl) (fun KK hK => ?_) AllReadyH.nil
          go_simp
          refine hK.out _ _ ?_ (fun hHeld => ?_)
          · exact ⟨(hG.drew.alloc _).nod.cell 3, (hG.drew.alloc _).box.cell 3, HC3.out _ (hG.drew.alloc _).below⟩
          clear hK KK
          (try simp only [Act.put, List.setIfInBounds_toArray, List.set_cons_zero, List.set_cons_succ])
          refine wpAnyH_ready (rs := [8]) (by kernel_rfl) (by simp) ?_
          refine AllReadyH.cons (by simp only [List.getElem?_toArray, List.getElem?_cons_succ, List.getElem?_cons_zero]; rfl) (fun KK hK => ?_) AllReadyH.nil
          (refine step_app rfl (.tmp 46) (.tmp 52) 23 rfl 3 1 Try.underlying23 info3 rfl (by omega) rfl (hG.kids.drew.alloc _) rfl (rd_one _ _ rfl) rfl (one_int _ _) (by omega) (by omega) (by have := hG.high; simp; omega) ?_; intro D2 cd2 w2 ho2 hg2 hf2; have G2 := hG.drew.allocg hg2; have hb5 := below_own G2.below G2.kids hg2 (by omega) G2.below.size)
          refine hK.out _ _ ?_ (fun hHeld => ?_)
          · exact ⟨(G2.midd hg2).cell 3, (G2.box.grown hg2 (own_ne G2.kids (by omega))).cell 3, HC3.out _ hb5⟩
          clear hK KK
          (try simp only [Act.put, List.setIfInBounds_toArray, List.set_cons_zero, List.set_cons_succ])
          refine wpAnyH_take (i := 9) (v := ?_) (by simp only [List.getElem?_toArray, List.getElem?_cons_succ, List.getElem?_cons_zero]; rfl) (by kernel_rfl) (by kernel_rfl) (by kernel_rfl) (fun _ _ _ h => h) (Or.inl ⟨by rfl, ?_⟩) hHeld ?_
          rotate_left
          · intro wz hSw; (try dsimp only at hSw); go_simp; try with_reducible rfl
          (try simp only [Act.put, List.setIfInBounds_toArray, List.set_cons_zero, List.set_cons_succ])
          have eF := (G2.midd hg2).frees
          have eC := (G2.midd hg2).cells
          refine wpAnyH_done (by kernel_rfl) ?_ _
          simp only [lastQ]
          go_simp
          clear eF eC
          go_upto_region 4 with fail
          refine wp_world (fun W => FiQ w [.bool s.leaf, .slice (some ⟨b, o, none⟩) nk ck, .slice V nv cv, .slice (some ⟨db, do_, none⟩) nd cd] W s.leaf ks2 vs (ds ++ [dAt s i]) K2 ck2 V1 cv1 D2 cd2) (G2.kid ho2 hg2) ?_
          clear hG G2 ho2 hg2 hf2 hHeld hb5
          rintro W3 hG
          have bc := hG.box.cells
          go_wp2
          go_roundw
          case rel => exact ⟨i + 1, _, _, _, _, _, _, _, _, _, by omega, by go_num, HKn2.out, HVn.out, HDn.out, hG⟩
          case measure => simp [intOf]; omega
        · have HDn : Hid (s.kids.take (i + 1) = ds) := by show _ = _; rw [take_more s.kids i (by rw [HD.out]; omega), HDs.out]
          have bc := hG.box.cells
          go_wp2
          go_roundw
          case rel => exact ⟨i + 1, _, _, _, _, _, _, _, _, _, by omega, by go_num, HKn2.out, HVn.out, HDn.out, hG⟩
          case measure => simp [intOf]; omega
    · obtain rfl : i = m := by omega
      have HP : Hid (partN s 0 i = ⟨s.leaf, ks, vs, ds⟩) := by show _ = _; unfold partN; rw [List.drop_zero, List.drop_zero, List.drop_zero, HKs.out, HVs.out, HDs.out]
      have nc := hG.nod.cells
      have rc_ := hG.res.cells
      have rf_ := hG.res.frees
      have hlv : vs.length ≤ nv := by rw [← HVs.out, List.length_take, HV.out]; omega
      have hld : ds.length ≤ nd := by rw [← HDs.out, List.length_take, HD.out]; omega
      have HLL := Lib.hid (And.intro hlv hld)
      have hsm : ∀ j, (ks.getD j .empty).size ≤ 140737488355328 := fun j => by have := small_cut HR.out.ksmall 0 i j; rwa [List.drop_zero, HKs.out] at this
      have hsv : ∀ j, (vs.getD j .empty).size ≤ 140737488355328 := fun j => by have := small_cut HR.out.vsmall 0 i j; rwa [List.drop_zero, HVs.out] at this
      have HSM := Lib.hid (And.intro hsm hsv)
      clear hlv hld hsm hsv
      go_wp2
      have hB := (((hG.res.set_ 0 (.bool s.leaf)).set_ 1 (.slice K1 ks.length ck1)).set_ 2 (.slice V1 vs.length cv1)).set_ 3 (.slice D1 ds.length cd1)
      refine bodyPost_ret (results_cell_row rfl _ _ (w.heap.size + 1) 25 #[.bool s.leaf, .slice K1 ks.length ck1, .slice V1 vs.length cv1, .slice D1 ds.length cd1] (0, 0) _ rfl hB Try.underlying25 rfl (by rw [size25]; rfl)) rfl ?_
      rw [HP.out]
      exact ⟨K1, ks.length, ck1, V1, vs.length, cv1, D1, ds.length, cd1, rfl,
        ⟨(own_ls ((((hG.keys.far (by simp) _).far (by simp) _).far (by simp) _).far (by simp) _)).weak (by omega), (own_ls ((((hG.vals.far (by simp) _).far (by simp) _).far (by simp) _).far (by simp) _)).weak (by omega), (own_ls ((((hG.kids.far (by simp) _).far (by simp) _).far (by simp) _).far (by simp) _)).weak (by omega),
          HSM.out.1, HSM.out.2, by omega, by have := HLL.out.1; omega, by have := HLL.out.2; omega⟩,
        (((hG.below.setCell (by simp) _).setCell (by simp) _).setCell (by simp) _).setCell (by simp) _⟩
end Go.Proofs.Ytnjpibbmgbiofaa
