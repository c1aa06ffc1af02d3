/- node.Get reads a node, and its lists are the call's own. (Printed by gen_nodgeto.py from NodGet.) No condition. -/
import Derived.Test.YtdakohbfibcjeaaTvH
namespace Go.Proofs.Ytdakohbfibcjeaa
open Go.RowKit
set_option linter.unusedSimpArgs false
set_option linter.unusedVariables false

/-- .. and the lists are new, each for itself -/
def NGetO (w : World) (r : Option Nd) (e : Ending) (w' : World) : Prop :=
  ∃ K nk ck V nv cv D nd cd, e = .returned (.tuple #[.agg #[.bool (r.getD Nd.nil).leaf, .slice K nk ck, .slice V nv cv, .slice D nd cd], .int .i64 (if r.isSome then 0 else 7)]) ∧ NdR w' w.heap.size (r.getD Nd.nil) K nk ck V nv cv D nd cd ∧ Below w.heap.size w w' ∧
    (r.isSome = true → Own w' w.heap.size 9 1 K nk ck (sl (r.getD Nd.nil).keys) ∧ Own w' w.heap.size 9 1 V nv cv (sl (r.getD Nd.nil).vals) ∧ Own w' w.heap.size 3 1 D nd cd (il (r.getD Nd.nil).kids) ∧ ∀ g, ablk K = some g → ablk V ≠ some g)
theorem ngeto_none {w w' : World} {e : Ending} (he : e = .returned (.tuple #[.agg #[.bool false, .slice none 0 0, .slice none 0 0, .slice none 0 0], .int .i64 7])) (hb : Below w.heap.size w w') : NGetO w none e w' :=
  ⟨none, 0, 0, none, 0, 0, none, 0, 0, he, ndr_nil _ _, hb, fun h => by cases h⟩

set_option maxRecDepth 100000 in
set_option maxHeartbeats 4000000 in
theorem ngeto_any (kd : Int) {A : Option Addr} {m c lo : Nat} {body : List UInt8} {w : World} (hb : Bs w lo A m c body) :
    Calls Try.prog 42 #[.agg #[.int .i64 kd, .slice A m c]] w (NGetO w (getN kd body)) := by
  obtain rfl := hb.1
  have HB := Lib.hid (hb.weak (Nat.zero_le lo))
  have hz := zero26_
  have HG : Hid (getN kd body = if getOk kd body then some (psN (decide (kd = 1)) body).nd else none) := rfl
  have HOK : Hid (getOk kd body ↔ ((psN (decide (kd = 1)) body).bad = false ∧ mayN (psN (decide (kd = 1)) body).nd ∧ (kindN (psN (decide (kd = 1)) body).nd : Int) = kd ∧ bodyN (psN (decide (kd = 1)) body).nd = body)) := Iff.rfl
  have hk1 : (kd == 1) = decide (kd = 1) := by rw [Bool.eq_iff_iff]; simp
  have HN : Hid (psN (decide (kd = 1)) body = psTo (decide (kd = 1)) body (psCount body)) := rfl
  have HC : Hid (((tkOut body false 1).getD 0 0).toNat = psCount body) := rfl
  have hN : psCount body < 256 := UInt8.toNat_lt _
  have HSh := Lib.hid (psTo_short (decide (kd = 1)) body)
  have H0 : Hid (psTo (decide (kd = 1)) body 0 = ⟨⟨decide (kd = 1), [], [], []⟩, tkRest body false 1, tkBad body false 1⟩) := rfl
  have HSt : Hid (∀ i, psTo (decide (kd = 1)) body (i + 1) = psVal (psKey (psTo (decide (kd = 1)) body i))) := fun _ => rfl
  clear hb
  generalize decide (kd = 1) = lf at *
  generalize psCount body = N at *
  go_enter Try.func42, Try.ntmps42
  go_upto_region 3 with fail
  refine wp_world (fun W => GetR w kd A body.length c W lf [] [] [] body false none 0 none 0 none 0 A c) (GetR.init lf HB.out) ?_
  clear hz hk1
  rintro W hG
  have T1 := Lib.hid (take_any (n := 1) hG.tak hG.rest hG.below (by omega) (by omega))
  go_upto_region 4 with ((with_reducible refine Calls.mono T1.out ?_); rintro e w1 ⟨O, co, R1, rc1, rfl, hO, hT1, hr1, hg1, -⟩; rw [length_tkOut] at hO ⊢; obtain ⟨b, o, rfl, _, _⟩ := hO.at_ (by omega); have cd := hO.cell 0 (by omega); rw [HC.out, Nat.add_zero] at cd; have hO1 := hO.2.1; have hO2 := hO.2.2.1; have G1 := hG.take hg1 hT1 hr1)
  clear hG T1 hO hT1 hr1 hg1 cd
  go_wp2
  go_loopw [6, 21] (fun s6 s21 wr => ∃ (i : Nat) (ks vs : List ByteArray) (ds : List Int) (r : List UInt8) (bad : Bool) (K : Option Addr) (ck : Nat) (V : Option Addr) (cv : Nat) (D : Option Addr) (cd : Nat) (R : Option Addr) (rc : Nat), i ≤ N ∧ s21 = .int .u8 i ∧ psTo lf body i = ⟨⟨lf, ks, vs, ds⟩, r, bad⟩ ∧ ks.length ≤ i ∧ vs.length ≤ i ∧ ds.length ≤ i ∧ GetR w kd A body.length c wr lf ks vs ds r bad K ck V cv D cd R rc)
    (fun _ s21 _ => N - (intOf s21).toNat)
  case atStart => exact ⟨0, [], [], [], _, _, none, 0, none, 0, none, 0, _, _, Nat.zero_le _, rfl, H0.out, Nat.le_refl _, Nat.le_refl _, Nat.le_refl _, G1⟩
  case round =>
    clear G1
    obtain ⟨i, ks, vs, ds, r, bad, K, ck, V, cv, D, cd, R, rc, hi, rfl, hps, hlk, hlv, hld, hG⟩ := hrel
    by_cases hlt : i < N
    · have HS1 := Lib.hid (HSt.out i)
      rw [hps] at HS1
      have HPk : Hid (psKey ⟨⟨lf, ks, vs, ds⟩, r, bad⟩ = ⟨⟨lf, ks ++ [strOf (txOut r bad)], vs, ds⟩, txRest r bad, txBad r bad⟩) := rfl
      rw [HPk.out] at HS1
      clear hps HPk
      have T1 := Lib.hid (text_any (w := wr.drew) hG.tak.drew hG.rest hG.below.drew (by omega))
      go_upto_region 5 with fail
      refine wp_region_last (S := fun w' => w'.cell? ⟨w.heap.size + 3, 1, none⟩ = some (.slice K ks.length ck)) 7 (by kernel_rfl) rfl (by kernel_rfl) ?_ ?_
      · exact hG.nod.cell 1
      intro hHeld
      simp only [List.take_succ_cons, List.take_zero]
      refine wpAnyH_take (i := 0) (v := ?_) (by simp only [List.getElem?_toArray, List.getElem?_cons_succ, List.getElem?_cons_zero]; rfl) (by kernel_rfl) (by kernel_rfl) (by kernel_rfl) (fun _ _ _ h => h) (Or.inl ⟨by rfl, ?_⟩) hHeld ?_
      rotate_left
      · intro wz hSw; (try dsimp only at hSw); go_simp; try with_reducible rfl
      (try simp only [Act.put, List.setIfInBounds_toArray, List.set_cons_zero, List.set_cons_succ])
      refine wpAnyH_take (i := 1) (v := ?_) (by simp only [List.getElem?_toArray, List.getElem?_cons_succ, List.getElem?_cons_zero]; rfl) (by kernel_rfl) (by kernel_rfl) (by kernel_rfl) (fun _ _ _ h => h) (Or.inl ⟨by rfl, ?_⟩) hHeld ?_
      rotate_left
      · intro wz hSw; (try dsimp only at hSw); go_simp; try with_reducible rfl
      (try simp only [Act.put, List.setIfInBounds_toArray, List.set_cons_zero, List.set_cons_succ])
      refine wpAnyH_take (i := 2) (v := ?_) (by simp only [List.getElem?_toArray, List.getElem?_cons_succ, List.getElem?_cons_zero]; rfl) (by kernel_rfl) (by kernel_rfl) (by kernel_rfl) (fun _ _ _ h => h) (Or.inl ⟨by rfl, ?_⟩) hHeld ?_
      rotate_left
      · intro wz hSw; (try dsimp only at hSw); go_simp; try with_reducible rfl
      (try simp only [Act.put, List.setIfInBounds_toArray, List.set_cons_zero, List.set_cons_succ])
      refine wpAnyH_ready (rs := [3]) (by kernel_rfl) (by simp) ?_
      refine AllReadyH.cons (by simp only [List.getElem?_toArray, List.getElem?_cons_succ, List.getElem?_cons_zero]; rfl) (fun K hK => ?_) AllReadyH.nil
      go_simp; ((with_reducible refine Calls.mono T1.out ?_); rintro e w1 ⟨R1, rc1, rfl, hT1, hr1, hg1⟩; have G1 := hG.drew.take hg1 hT1 hr1); go_wp2_with fail
      refine hK.out _ _ ?_ (fun hHeld => ?_)
      · exact G1.nod.cell 1
      clear hK K
      (try simp only [Act.put, List.setIfInBounds_toArray, List.set_cons_zero, List.set_cons_succ])
      refine wpAnyH_ready (rs := [4]) (by kernel_rfl) (by simp) ?_
      refine AllReadyH.cons (by simp only [List.getElem?_toArray, List.getElem?_cons_succ, List.getElem?_cons_zero]; rfl) (fun K hK => ?_) AllReadyH.nil
      go_simp
      refine hK.out _ _ ?_ (fun hHeld => ?_)
      · exact (G1.alloc _).nod.cell 1
      clear hK K
      (try simp only [Act.put, List.setIfInBounds_toArray, List.set_cons_zero, List.set_cons_succ])
      refine wpAnyH_ready (rs := [5]) (by kernel_rfl) (by simp) ?_
      refine AllReadyH.cons (by simp only [List.getElem?_toArray, List.getElem?_cons_succ, List.getElem?_cons_zero]; rfl) (fun K hK => ?_) AllReadyH.nil
      (refine step_app rfl (.tmp 24) (.tmp 27) 56 rfl 9 1 Try.underlying56 info9 rfl (by omega) rfl (G1.keys.alloc _) rfl (rd_one _ _ rfl) rfl (one_str _) (by omega) (by omega) (by have := G1.high; simp; omega) ?_; intro K2 ck2 w2 ho2 hg2 hf2; have G2 := G1.allocg hg2)
      refine hK.out _ _ ?_ (fun hHeld => ?_)
      · exact (G2.midk hg2).cell 1
      clear hK K
      (try simp only [Act.put, List.setIfInBounds_toArray, List.set_cons_zero, List.set_cons_succ])
      refine wpAnyH_take (i := 6) (v := ?_) (by simp only [List.getElem?_toArray, List.getElem?_cons_succ, List.getElem?_cons_zero]; rfl) (by kernel_rfl) (by kernel_rfl) (by kernel_rfl) (fun _ _ _ h => h) (Or.inl ⟨by rfl, ?_⟩) hHeld ?_
      rotate_left
      · intro wz hSw; (try dsimp only at hSw); go_simp; try with_reducible rfl
      (try simp only [Act.put, List.setIfInBounds_toArray, List.set_cons_zero, List.set_cons_succ])
      have eF := (G2.midk hg2).frees
      have eC := (G2.midk hg2).cells
      refine wpAnyH_done (by kernel_rfl) ?_ _
      simp only [lastQ]
      go_simp
      clear eF eC
      go_upto_region 6 with fail
      refine wp_world (fun W => GetR w kd A body.length c W lf (ks ++ [strOf (txOut r bad)]) vs ds (txRest r bad) (txBad r bad) K2 ck2 V cv D cd R1 rc1) (G2.key ho2 hg2 hf2) ?_
      clear hG T1 G1 G2 ho2 hg2 hf2 hHeld hT1 hr1 hg1
      rintro W3 hG
      have hlk2 : (ks ++ [strOf (txOut r bad)]).length ≤ i + 1 := by simp; omega
      generalize ks ++ [strOf (txOut r bad)] = ks2 at *
      generalize txRest r bad = r2 at *
      generalize txBad r bad = bad2 at *
      clear hlk
      have hBc := hG.nod.cells
      cases lf with
      | true =>
        have HPv : Hid (psVal ⟨⟨true, ks2, vs, ds⟩, r2, bad2⟩ = ⟨⟨true, ks2, vs ++ [strOf (txOut r2 bad2)], ds⟩, txRest r2 bad2, txBad r2 bad2⟩) := rfl
        rw [HPv.out] at HS1
        clear HPv
        go_upto_region 7 with fail
        clear hBc
        have T1 := Lib.hid (text_any (w := W3.drew) hG.tak.drew hG.rest hG.below.drew (by omega))
        refine wp_region_last (S := fun w' => w'.cell? ⟨w.heap.size + 3, 2, none⟩ = some (.slice V vs.length cv)) 7 (by kernel_rfl) rfl (by kernel_rfl) ?_ ?_
        · exact hG.nod.cell 2
        intro hHeld
        simp only [List.take_succ_cons, List.take_zero]
        refine wpAnyH_take (i := 0) (v := ?_) (by simp only [List.getElem?_toArray, List.getElem?_cons_succ, List.getElem?_cons_zero]; rfl) (by kernel_rfl) (by kernel_rfl) (by kernel_rfl) (fun _ _ _ h => h) (Or.inl ⟨by rfl, ?_⟩) hHeld ?_
        rotate_left
        · intro wz hSw; (try dsimp only at hSw); go_simp; try with_reducible rfl
        (try simp only [Act.put, List.setIfInBounds_toArray, List.set_cons_zero, List.set_cons_succ])
        refine wpAnyH_take (i := 1) (v := ?_) (by simp only [List.getElem?_toArray, List.getElem?_cons_succ, List.getElem?_cons_zero]; rfl) (by kernel_rfl) (by kernel_rfl) (by kernel_rfl) (fun _ _ _ h => h) (Or.inl ⟨by rfl, ?_⟩) hHeld ?_
        rotate_left
        · intro wz hSw; (try dsimp only at hSw); go_simp; try with_reducible rfl
        (try simp only [Act.put, List.setIfInBounds_toArray, List.set_cons_zero, List.set_cons_succ])
        refine wpAnyH_take (i := 2) (v := ?_) (by simp only [List.getElem?_toArray, List.getElem?_cons_succ, List.getElem?_cons_zero]; rfl) (by kernel_rfl) (by kernel_rfl) (by kernel_rfl) (fun _ _ _ h => h) (Or.inl ⟨by rfl, ?_⟩) hHeld ?_
        rotate_left
        · intro wz hSw; (try dsimp only at hSw); go_simp; try with_reducible rfl
        (try simp only [Act.put, List.setIfInBounds_toArray, List.set_cons_zero, List.set_cons_succ])
        refine wpAnyH_ready (rs := [3]) (by kernel_rfl) (by simp) ?_
        refine AllReadyH.cons (by simp only [List.getElem?_toArray, List.getElem?_cons_succ, List.getElem?_cons_zero]; rfl) (fun K hK => ?_) AllReadyH.nil
        go_simp; ((with_reducible refine Calls.mono T1.out ?_); rintro e w4 ⟨R4, rc4, rfl, hT1, hr1, hg1⟩; have G1 := hG.drew.take hg1 hT1 hr1); go_wp2_with fail
        refine hK.out _ _ ?_ (fun hHeld => ?_)
        · exact G1.nod.cell 2
        clear hK K
        (try simp only [Act.put, List.setIfInBounds_toArray, List.set_cons_zero, List.set_cons_succ])
        refine wpAnyH_ready (rs := [4]) (by kernel_rfl) (by simp) ?_
        refine AllReadyH.cons (by simp only [List.getElem?_toArray, List.getElem?_cons_succ, List.getElem?_cons_zero]; rfl) (fun K hK => ?_) AllReadyH.nil
        go_simp
        refine hK.out _ _ ?_ (fun hHeld => ?_)
        · exact (G1.alloc _).nod.cell 2
        clear hK K
        (try simp only [Act.put, List.setIfInBounds_toArray, List.set_cons_zero, List.set_cons_succ])
        refine wpAnyH_ready (rs := [5]) (by kernel_rfl) (by simp) ?_
        refine AllReadyH.cons (by simp only [List.getElem?_toArray, List.getElem?_cons_succ, List.getElem?_cons_zero]; rfl) (fun K hK => ?_) AllReadyH.nil
        (refine step_app rfl (.tmp 33) (.tmp 36) 56 rfl 9 1 Try.underlying56 info9 rfl (by omega) rfl (G1.vals.alloc _) rfl (rd_one _ _ rfl) rfl (one_str _) (by omega) (by omega) (by have := G1.high; simp; omega) ?_; intro K5 ck5 w5 ho2 hg2 hf2; have G2 := G1.allocg hg2)
        refine hK.out _ _ ?_ (fun hHeld => ?_)
        · exact (G2.midv hg2).cell 2
        clear hK K
        (try simp only [Act.put, List.setIfInBounds_toArray, List.set_cons_zero, List.set_cons_succ])
        refine wpAnyH_take (i := 6) (v := ?_) (by simp only [List.getElem?_toArray, List.getElem?_cons_succ, List.getElem?_cons_zero]; rfl) (by kernel_rfl) (by kernel_rfl) (by kernel_rfl) (fun _ _ _ h => h) (Or.inl ⟨by rfl, ?_⟩) hHeld ?_
        rotate_left
        · intro wz hSw; (try dsimp only at hSw); go_simp; try with_reducible rfl
        (try simp only [Act.put, List.setIfInBounds_toArray, List.set_cons_zero, List.set_cons_succ])
        have eF := (G2.midv hg2).frees
        have eC := (G2.midv hg2).cells
        refine wpAnyH_done (by kernel_rfl) ?_ _
        simp only [lastQ]
        go_simp
        clear eF eC
        have hGf := G2.val ho2 hg2 hf2
        clear hG T1 G1 G2 ho2 hg2 hf2 hHeld hT1 hr1 hg1
        go_wp2
        go_roundw
        case rel =>
          exact ⟨i + 1, _, _, _, _, _, _, _, _, _, _, _, _, _, by omega, by go_num, HS1.out, hlk2, by simp; omega, by omega, hGf⟩
        case measure => simp [intOf]; omega
      | false =>
        have HPv : Hid (psVal ⟨⟨false, ks2, vs, ds⟩, r2, bad2⟩ = ⟨⟨false, ks2, vs, ds ++ [kidOf (tkOut r2 bad2 2)]⟩, tkRest r2 bad2 2, tkBad r2 bad2 2⟩) := rfl
        rw [HPv.out] at HS1
        clear HPv
        have HK : Hid (kidOf (tkOut r2 bad2 2) = ((((tkOut r2 bad2 2).getD 0 0).toNat + 256 * ((tkOut r2 bad2 2).getD 1 0).toNat : Nat) : Int)) := rfl
        have hy0 : ((tkOut r2 bad2 2).getD 0 0).toNat < 256 := UInt8.toNat_lt _
        have hy1 : ((tkOut r2 bad2 2).getD 1 0).toNat < 256 := UInt8.toNat_lt _
        have T1 := Lib.hid (take_any (n := 2) hG.tak hG.rest hG.below (by omega) (by omega))
        go_upto_region 9 with ((with_reducible refine Calls.mono T1.out ?_); rintro e w4 ⟨O, co, R4, rc4, rfl, hO, hT1, hr1, hg1, hfr⟩; rw [length_tkOut] at hO hfr ⊢; obtain ⟨b4, o4, rfl, _, _⟩ := hO.at_ (by omega); have c0 := hO.cell 0 (by omega); have c1 := hO.cell 1 (by omega); rw [Nat.add_zero] at c0; have hO1 := hO.2.1; have hO2 := hO.2.2.1; have hnD : some b4 ≠ ablk D := (fun e => by have h1 := hG.kids.blk e.symm; rcases hfr (by omega) b4 rfl with h | h <;> omega); have G1 := hG.take hg1 hT1 hr1)
        clear hBc hG T1 hT1 hr1 hg1 hfr
        generalize ((tkOut r2 bad2 2).getD 0 0).toNat = y0 at *
        generalize ((tkOut r2 bad2 2).getD 1 0).toNat = y1 at *
        generalize kidOf (tkOut r2 bad2 2) = kv at *
        have HO4 := Lib.hid hO
        clear hO
        refine wp_region_last (S := fun w' => w'.cell? ⟨w.heap.size + 3, 3, none⟩ = some (.slice D ds.length cd) ∧ w'.cell? ⟨b4, o4, none⟩ = some (.int .u8 (y0 : Int)) ∧ w'.cell? ⟨b4, o4 + 1, none⟩ = some (.int .u8 (y1 : Int))) 15 (by kernel_rfl) rfl (by kernel_rfl) ?_ ?_
        · exact ⟨G1.nod.cell 3, c0, c1⟩
        intro hHeld
        simp only [List.take_succ_cons, List.take_zero]
        refine wpAnyH_take (i := 0) (v := ?_) (by simp only [List.getElem?_toArray, List.getElem?_cons_succ, List.getElem?_cons_zero]; rfl) (by kernel_rfl) (by kernel_rfl) (by kernel_rfl) (fun _ _ _ h => h) (Or.inl ⟨by rfl, ?_⟩) hHeld ?_
        rotate_left
        · intro wz hSw; (try dsimp only at hSw); go_simp; try with_reducible rfl
        (try simp only [Act.put, List.setIfInBounds_toArray, List.set_cons_zero, List.set_cons_succ])
        refine wpAnyH_take (i := 1) (v := ?_) (by simp only [List.getElem?_toArray, List.getElem?_cons_succ, List.getElem?_cons_zero]; rfl) (by kernel_rfl) (by kernel_rfl) (by kernel_rfl) (fun _ _ _ h => h) (Or.inl ⟨by rfl, ?_⟩) hHeld ?_
        rotate_left
        · intro wz hSw; (try dsimp only at hSw); go_simp; try with_reducible rfl
        (try simp only [Act.put, List.setIfInBounds_toArray, List.set_cons_zero, List.set_cons_succ])
        refine wpAnyH_take (i := 2) (v := ?_) (by simp only [List.getElem?_toArray, List.getElem?_cons_succ, List.getElem?_cons_zero]; rfl) (by kernel_rfl) (by kernel_rfl) (by kernel_rfl) (fun _ _ _ h => h) (Or.inl ⟨by rfl, ?_⟩) hHeld ?_
        rotate_left
        · intro wz hSw; (try dsimp only at hSw); go_simp; try with_reducible rfl
        (try simp only [Act.put, List.setIfInBounds_toArray, List.set_cons_zero, List.set_cons_succ])
        refine wpAnyH_take (i := 3) (v := ?_) (by simp only [List.getElem?_toArray, List.getElem?_cons_succ, List.getElem?_cons_zero]; rfl) (by kernel_rfl) (by kernel_rfl) (by kernel_rfl) (fun _ _ _ h => h) (Or.inl ⟨by rfl, ?_⟩) hHeld ?_
        rotate_left
        · intro wz hSw; (try dsimp only at hSw); go_simp; try with_reducible rfl
        (try simp only [Act.put, List.setIfInBounds_toArray, List.set_cons_zero, List.set_cons_succ])
        refine wpAnyH_take (i := 4) (v := ?_) (by simp only [List.getElem?_toArray, List.getElem?_cons_succ, List.getElem?_cons_zero]; rfl) (by kernel_rfl) (by kernel_rfl) (by kernel_rfl) (fun _ _ _ h => h) (Or.inl ⟨by rfl, ?_⟩) hHeld ?_
        rotate_left
        · intro wz hSw; (try dsimp only at hSw); go_simp; try with_reducible rfl
        (try simp only [Act.put, List.setIfInBounds_toArray, List.set_cons_zero, List.set_cons_succ])
        refine wpAnyH_take (i := 5) (v := ?_) (by simp only [List.getElem?_toArray, List.getElem?_cons_succ, List.getElem?_cons_zero]; rfl) (by kernel_rfl) (by kernel_rfl) (by kernel_rfl) (fun _ _ _ h => h) (Or.inl ⟨by rfl, ?_⟩) hHeld ?_
        rotate_left
        · intro wz hSw; (try dsimp only at hSw); go_simp; try with_reducible rfl
        (try simp only [Act.put, List.setIfInBounds_toArray, List.set_cons_zero, List.set_cons_succ])
        refine wpAnyH_take (i := 6) (v := ?_) (by simp only [List.getElem?_toArray, List.getElem?_cons_succ, List.getElem?_cons_zero]; rfl) (by kernel_rfl) (by kernel_rfl) (by kernel_rfl) (fun _ _ _ h => h) (Or.inl ⟨by rfl, ?_⟩) hHeld ?_
        rotate_left
        · intro wz hSw; (try dsimp only at hSw); go_simp; try with_reducible rfl
        (try simp only [Act.put, List.setIfInBounds_toArray, List.set_cons_zero, List.set_cons_succ])
        refine wpAnyH_take (i := 7) (v := ?_) (by simp only [List.getElem?_toArray, List.getElem?_cons_succ, List.getElem?_cons_zero]; rfl) (by kernel_rfl) (by kernel_rfl) (by kernel_rfl) (fun _ _ _ h => h) (Or.inl ⟨by rfl, ?_⟩) hHeld ?_
        rotate_left
        · intro wz hSw; (try dsimp only at hSw); go_simp; try with_reducible rfl
        (try simp only [Act.put, List.setIfInBounds_toArray, List.set_cons_zero, List.set_cons_succ])
        refine wpAnyH_take (i := 8) (v := ?_) (by simp only [List.getElem?_toArray, List.getElem?_cons_succ, List.getElem?_cons_zero]; rfl) (by kernel_rfl) (by kernel_rfl) (by kernel_rfl) (fun _ _ _ h => h) (Or.inl ⟨by rfl, ?_⟩) hHeld ?_
        rotate_left
        · intro wz hSw; (try dsimp only at hSw); go_simp; try with_reducible rfl
        (try simp only [Act.put, List.setIfInBounds_toArray, List.set_cons_zero, List.set_cons_succ])
        refine wpAnyH_take (i := 9) (v := ?_) (by simp only [List.getElem?_toArray, List.getElem?_cons_succ, List.getElem?_cons_zero]; rfl) (by kernel_rfl) (by kernel_rfl) (by kernel_rfl) (fun _ _ _ h => h) (Or.inl ⟨by rfl, ?_⟩) hHeld ?_
        rotate_left
        · intro wz hSw; (try dsimp only at hSw); go_simp; try with_reducible rfl
        (try simp only [Act.put, List.setIfInBounds_toArray, List.set_cons_zero, List.set_cons_succ])
        refine wpAnyH_take (i := 10) (v := ?_) (by simp only [List.getElem?_toArray, List.getElem?_cons_succ, List.getElem?_cons_zero]; rfl) (by kernel_rfl) (by kernel_rfl) (by kernel_rfl) (fun _ _ _ h => h) (Or.inl ⟨by rfl, ?_⟩) hHeld ?_
        rotate_left
        · intro wz hSw; (try dsimp only at hSw); go_simp; try with_reducible rfl
        (try simp only [Act.put, List.setIfInBounds_toArray, List.set_cons_zero, List.set_cons_succ])
        refine wpAnyH_take (i := 11) (v := ?_) (by simp only [List.getElem?_toArray, List.getElem?_cons_succ, List.getElem?_cons_zero]; rfl) (by kernel_rfl) (by kernel_rfl) (by kernel_rfl) (fun _ _ _ h => h) (Or.inl ⟨by rfl, ?_⟩) hHeld ?_
        rotate_left
        · intro wz hSw; (try dsimp only at hSw); go_simp; try with_reducible rfl
        (try simp only [Act.put, List.setIfInBounds_toArray, List.set_cons_zero, List.set_cons_succ])
        refine wpAnyH_ready (rs := [12]) (by kernel_rfl) (by simp) ?_
        refine AllReadyH.cons (by simp only [List.getElem?_toArray, List.getElem?_cons_succ, List.getElem?_cons_zero]; rfl) (fun K hK => ?_) AllReadyH.nil
        go_simp
        refine hK.out _ _ ?_ (fun hHeld => ?_)
        · exact ⟨(G1.drew.alloc _).nod.cell 3, cell_alloc_old c0 _, cell_alloc_old c1 _⟩
        clear hK K
        (try simp only [Act.put, List.setIfInBounds_toArray, List.set_cons_zero, List.set_cons_succ])
        refine wpAnyH_ready (rs := [13]) (by kernel_rfl) (by simp) ?_
        refine AllReadyH.cons (by simp only [List.getElem?_toArray, List.getElem?_cons_succ, List.getElem?_cons_zero]; rfl) (fun K hK => ?_) AllReadyH.nil
        (refine step_app rfl (.tmp 42) (.tmp 53) 57 rfl 3 1 Try.underlying57 info3 rfl (by omega) rfl (G1.kids.drew.alloc _) rfl (rd_one _ _ rfl) rfl (one_int _ _) (by omega) (by omega) (by have := G1.high; simp; omega) ?_; intro K5 ck5 w5 ho2 hg2 hf2; have G2 := G1.drew.allocg hg2)
        refine hK.out _ _ ?_ (fun hHeld => ?_)
        · exact ⟨(G2.midd hg2).cell 3, hg2.cell (cell_alloc_old c0 _) hnD, hg2.cell (cell_alloc_old c1 _) hnD⟩
        clear hK K
        (try simp only [Act.put, List.setIfInBounds_toArray, List.set_cons_zero, List.set_cons_succ])
        refine wpAnyH_take (i := 14) (v := ?_) (by simp only [List.getElem?_toArray, List.getElem?_cons_succ, List.getElem?_cons_zero]; rfl) (by kernel_rfl) (by kernel_rfl) (by kernel_rfl) (fun _ _ _ h => h) (Or.inl ⟨by rfl, ?_⟩) hHeld ?_
        rotate_left
        · intro wz hSw; (try dsimp only at hSw); go_simp; try with_reducible rfl
        (try simp only [Act.put, List.setIfInBounds_toArray, List.set_cons_zero, List.set_cons_succ])
        have eF := (G2.midd hg2).frees
        have eC := (G2.midd hg2).cells
        refine wpAnyH_done (by kernel_rfl) ?_ _
        simp only [lastQ]
        go_simp
        clear eF eC
        rw [IntWalk.i64_in (y0 : Int) (by omega), IntWalk.i64_in (y1 : Int) (by omega), IntWalk.i64_in ((y1 : Int) * 256) (by omega), show (y1 : Int) * 256 = ((y1 * 256 : Nat) : Int) by simp, or_kid y0 y1 hy0 hy1, ← HK.out] at ho2
        have hGf := G2.kid ho2 hg2
        clear G1 G2 ho2 hg2 hf2 hHeld
        go_wp2
        go_roundw
        case rel =>
          exact ⟨i + 1, _, _, _, _, _, _, _, _, _, _, _, _, _, by omega, by go_num, HS1.out, hlk2, by omega, by simp; omega, hGf⟩
        case measure => simp [intOf]; omega
    · obtain rfl : i = N := by omega
      have HNd : Hid (psN lf body = ⟨⟨lf, ks, vs, ds⟩, r, bad⟩) := by show _ = _; rw [HN.out, hps]
      have hsh := HSh.out i
      rw [hps] at hsh
      have hndr : NdR wr w.heap.size ⟨lf, ks, vs, ds⟩ K ks.length ck V vs.length cv D ds.length cd :=
        ⟨(own_ls hG.keys).weak (by omega), (own_ls hG.vals).weak (by omega), (own_ls hG.kids).weak (by omega), fun i => Nat.le_trans (hsh.1 i) (by omega), fun i => Nat.le_trans (hsh.2 i) (by omega), by omega, by omega, by omega⟩
      rw [HNd.out] at HOK
      have HG2 : Hid (getN kd body = if getOk kd body then some ⟨lf, ks, vs, ds⟩ else none) := by show _ = _; rw [HG.out, HNd.out]
      have HNR := Lib.hid hndr
      have hBc := hG.nod.cells
      clear hsh HSh HSt HN HC H0 HG hps
      have HNo : Hid (∀ e' w', ¬ getOk kd body → NGetO w none e' w' → NGetO w (getN kd body) e' w') := fun e' w' h1 h2 => by
        rw [HG2.out, if_neg h1]; exact h2
      by_cases hm : mayN ⟨lf, ks, vs, ds⟩
      · obtain ⟨s, hs⟩ : ∃ s : Nd, s = ⟨lf, ks, vs, ds⟩ := ⟨_, rfl⟩
        have P1 := Lib.hid (nput_b hs hndr hm)
        have HS := Lib.hid hs
        have HM := Lib.hid hm
        clear hndr hs hm
        go_upto_region 12 with ((with_reducible refine Calls.mono P1.out ?_); rintro e w5 ⟨A5, c5, rfl, ho5, hb5⟩)
        refine wp_world (fun U => GetR w kd A body.length c U lf ks vs ds r bad K ck V cv D cd R rc ∧ Blk U w5.heap.size 89 [.int .i64 (kindN s), .slice A5 (bodyN s).length c5] ∧ Bs U 0 A5 (bodyN s).length c5 (bodyN s))
          ⟨(hG.under hb5).alloc _, Blk.new_at (cs := [.int .i64 (kindN s), .slice A5 (bodyN s).length c5]) rfl, (own_bs (ho5.alloc _)).weak (Nat.zero_le _)⟩ ?_
        clear hG hBc P1 ho5 hb5
        generalize w5.heap.size = g7 at *
        rintro U ⟨G5, hB7, hb7⟩
        have tc := G5.tak.cells
        have bc := G5.box.cells
        have rc_ := G5.res.cells
        have rf_ := G5.res.frees
        have nc := G5.nod.cells
        have c7 := hB7.cells
        cases bad with
        | true =>
          have hno : Hid (¬ getOk kd body) := fun h => by have := (HOK.out.1 h).1; cases this
          go_wp2
          refine bodyPost_ret (results_nd rfl rfl rfl ((((G5.res.set_ 0 _).set_ 1 _).set_ 2 _).set_ 3 _)) rfl (HNo.out _ _ hno.out (ngeto_none rfl ((((G5.below.setCell (by simp) _).setCell (by simp) _).setCell (by simp) _).setCell (by simp) _)))
        | false =>
          by_cases hk : (kindN s : Int) = kd
          · have hk2 : ((kindN s : Int) == kd) = true := beq_iff_eq.2 hk
            have HK := Lib.hid hk
            clear hk
            by_cases he : bodyN s = body
            · have E1 := Lib.hid (equal_b hb7 (HB.out.below G5.below (Nat.le_refl _)) (decide_eq_true he))
              have hok : Hid (getOk kd body) := HOK.out.2 ⟨rfl, HM.out, by rw [← HS.out]; exact HK.out, by rw [← HS.out]; exact he⟩
              clear he hb7
              go_wp2_with ((with_reducible refine Calls.mono E1.out ?_); rintro e w6 ⟨rfl, rfl⟩)
              refine bodyPost_ret (results_nd rfl rfl rfl ((((G5.res.set_ 0 _).set_ 1 _).set_ 2 _).set_ 3 _)) rfl ?_
              rw [HG2.out, if_pos hok.out]
              refine ⟨K, ks.length, ck, V, vs.length, cv, D, ds.length, cd, rfl, ?_, ((((G5.below.setCell (by simp) _).setCell (by simp) _).setCell (by simp) _).setCell (by simp) _), fun _ => ⟨((((G5.keys.far (by simp) _).far (by simp) _).far (by simp) _).far (by simp) _).weak (by omega), ((((G5.vals.far (by simp) _).far (by simp) _).far (by simp) _).far (by simp) _).weak (by omega), ((((G5.kids.far (by simp) _).far (by simp) _).far (by simp) _).far (by simp) _).weak (by omega), G5.kv⟩⟩
              have hn := HNR.out
              exact ⟨(own_ls ((((G5.keys.far (by simp) _).far (by simp) _).far (by simp) _).far (by simp) _)).weak (by omega), (own_ls ((((G5.vals.far (by simp) _).far (by simp) _).far (by simp) _).far (by simp) _)).weak (by omega), (own_ls ((((G5.kids.far (by simp) _).far (by simp) _).far (by simp) _).far (by simp) _)).weak (by omega), hn.ksmall, hn.vsmall, hn.kroom, hn.vroom, hn.droom⟩
            · have E1 := Lib.hid (equal_b hb7 (HB.out.below G5.below (Nat.le_refl _)) (decide_eq_false he))
              have hno : Hid (¬ getOk kd body) := fun h => he (by have := (HOK.out.1 h).2.2.2; rw [← HS.out] at this; exact this)
              clear he hb7
              go_wp2_with ((with_reducible refine Calls.mono E1.out ?_); rintro e w6 ⟨rfl, rfl⟩)
              refine bodyPost_ret (results_nd rfl rfl rfl ((((G5.res.set_ 0 _).set_ 1 _).set_ 2 _).set_ 3 _)) rfl (HNo.out _ _ hno.out (ngeto_none rfl ((((G5.below.setCell (by simp) _).setCell (by simp) _).setCell (by simp) _).setCell (by simp) _)))
          · have hk2 : ((kindN s : Int) == kd) = false := beq_eq_false_iff_ne.2 hk
            have hno : Hid (¬ getOk kd body) := fun h => hk (by have := (HOK.out.1 h).2.2.1; rw [← HS.out] at this; exact this)
            go_wp2
            refine bodyPost_ret (results_nd rfl rfl rfl ((((G5.res.set_ 0 _).set_ 1 _).set_ 2 _).set_ 3 _)) rfl (HNo.out _ _ hno.out (ngeto_none rfl ((((G5.below.setCell (by simp) _).setCell (by simp) _).setCell (by simp) _).setCell (by simp) _)))
      · have P1 := Lib.hid (nput_no _ hndr hm)
        have hno : Hid (¬ getOk kd body) := fun h => hm (HOK.out.1 h).2.1
        simp only at P1
        clear hndr hm
        go_upto_region 12 with ((with_reducible refine Calls.mono P1.out ?_); rintro e w5 ⟨rfl, hb5⟩)
        refine wp_world (fun U => GetR w kd A body.length c U lf ks vs ds r bad K ck V cv D cd R rc) ((hG.under hb5).alloc _) ?_
        clear hG hBc P1 hb5
        rintro U G5
        have tc := G5.tak.cells
        have rc_ := G5.res.cells
        have rf_ := G5.res.frees
        cases bad with
        | true =>
          go_wp2
          refine bodyPost_ret (results_nd rfl rfl rfl ((((G5.res.set_ 0 _).set_ 1 _).set_ 2 _).set_ 3 _)) rfl (HNo.out _ _ hno.out (ngeto_none rfl ((((G5.below.setCell (by simp) _).setCell (by simp) _).setCell (by simp) _).setCell (by simp) _)))
        | false =>
          go_wp2
          refine bodyPost_ret (results_nd rfl rfl rfl ((((G5.res.set_ 0 _).set_ 1 _).set_ 2 _).set_ 3 _)) rfl (HNo.out _ _ hno.out (ngeto_none rfl ((((G5.below.setCell (by simp) _).setCell (by simp) _).setCell (by simp) _).setCell (by simp) _)))
end Go.Proofs.Ytdakohbfibcjeaa
