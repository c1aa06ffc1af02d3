/- Which nodes may be: node.May. -/
import Derived.Test.YtnjpibbmgbiofaaNodSize
import Derived.Test.YtnjpibbmgbiofaaNodFn
namespace Go.Proofs.Ytnjpibbmgbiofaa
open Go.RowKit

def keyOk (s : Nd) (i : Nat) : Prop := (kAt s i).size ≤ 24 ∧ (0 < i → Op.bytesLess (kAt s (i - 1)).toList (kAt s i).toList = true)
instance (s : Nd) (i : Nat) : Decidable (keyOk s i) := by unfold keyOk; infer_instance
def headN (s : Nd) : Prop := 0 < s.keys.length ∧ szV (sizeN s) ≤ 240
instance (s : Nd) : Decidable (headN s) := by unfold headN; infer_instance
def leafN (s : Nd) : Prop := kAt s 0 ≠ .empty ∧ s.vals.length = s.keys.length ∧ s.kids.length = 0 ∧ shortAll s.vals
instance (s : Nd) : Decidable (leafN s) := by unfold leafN; infer_instance
def innerN (s : Nd) : Prop := s.kids.length = s.keys.length ∧ s.vals.length = 0 ∧ narrowAll s.kids
instance (s : Nd) : Decidable (innerN s) := by unfold innerN; infer_instance
def mayN (s : Nd) : Prop := headN s ∧ (∀ i, i < s.keys.length → keyOk s i) ∧ (s.leaf = true → leafN s) ∧ (s.leaf = false → innerN s)
instance (s : Nd) : Decidable (mayN s) := by unfold mayN; infer_instance

theorem toList_empty (k : ByteArray) : k.toList.isEmpty = decide (k = .empty) := by
  have h := @toList_inj k .empty
  rw [← h]
  have e : (ByteArray.empty).toList = [] := by rw [ByteArray.toList_eq]; rfl
  rw [e]
  cases k.toList <;> rfl
theorem kAt_size {w : World} {lo : Nat} {s : Nd} {K V D : Option Addr} {nk ck nv cv nd cd : Nat} (h : NdR w lo s K nk ck V nv cv D nd cd) (i : Nat) : (s.vals.getD i .empty).size ≤ 140737488355328 := h.vsmall i

set_option maxRecDepth 100000 in
set_option maxHeartbeats 4000000 in
theorem nmay_any (s : Nd) {w : World} {lo : Nat} {K V D : Option Addr} {nk ck nv cv nd cd : Nat} (h : NdR w lo s K nk ck V nv cv D nd cd) :
    Calls Try.prog 11 #[.agg #[.bool s.leaf, .slice K nk ck, .slice V nv cv, .slice D nd cd]] w fun e w' => e = .returned (.bool (decide (mayN s))) ∧ Below w.heap.size w w' := by
  have HR := Lib.hid h
  have hk := Lib.hid h.nk_eq
  have hv := Lib.hid h.nv_eq
  have hd := Lib.hid h.nd_eq
  have hc1 := h.keys.2.1
  have hc2 := h.keys.2.2.1
  have HF : Hid (¬ mayN s → decide (mayN s) = false) := fun h => decide_eq_false h
  have HT : Hid (mayN s → decide (mayN s) = true) := fun h => decide_eq_true h
  have hb : Below w.heap.size w (w.alloc (.cells #[.bool s.leaf, .slice K nk ck, .slice V nv cv, .slice D nd cd] 26)) := (Below.refl _ _).alloc (Nat.le_refl _) _
  by_cases h0 : nk = 0
  · have HN : Hid (¬ mayN s) := fun h => by have := h.1.1; rw [hk.out] at this; omega
    have h0' : ((nk : Int) == 0) = true := beq_iff_eq.2 (by omega)
    clear h
    go_enter Try.func11, Try.ntmps11
    go_wp2
    go_ret
    exact ⟨by rw [HF.out HN.out]; rfl, (Below.refl _ _).alloc (Nat.le_refl _) _⟩
  have h0' : ((nk : Int) == 0) = false := beq_eq_false_iff_ne.2 (by omega)
  have S1 := Lib.hid (nsize_any s (h.below hb (Nat.le_refl _)))
  have bd := szV_bd (sizeN s)
  by_cases h1 : szV (sizeN s) ≤ 240
  rotate_left
  · have HN : Hid (¬ mayN s) := fun h => h1 h.1.2
    have d1 : decide (240 < szV (sizeN s)) = true := decide_eq_true (by omega)
    clear h
    go_enter Try.func11, Try.ntmps11
    go_wp2_with ((with_reducible refine Calls.mono S1.out ?_); rintro e w1 ⟨rfl, hb1⟩)
    go_ret
    exact ⟨by rw [HF.out HN.out]; rfl, hb.trans (hb1.mono hb.size)⟩
  have d1 : decide (240 < szV (sizeN s)) = false := decide_eq_false (by omega)
  have HH : Hid (headN s) := ⟨by rw [hk.out]; omega, h1⟩
  clear h
  go_enter Try.func11, Try.ntmps11
  go_upto_region 3 with ((with_reducible refine Calls.mono S1.out ?_); rintro e w1 ⟨rfl, hb1⟩)
  refine wp_world (fun U => Blk U w.heap.size 26 [.bool s.leaf, .slice K nk ck, .slice V nv cv, .slice D nd cd] ∧ Below w.heap.size w U ∧ NdR U lo s K nk ck V nv cv D nd cd)
    ⟨(Blk.new w _ [.bool s.leaf, .slice K nk ck, .slice V nv cv, .slice D nd cd]).below hb1 (by simp), hb.trans (hb1.mono (by simp)), HR.out.below (hb.trans (hb1.mono (by simp))) (Nat.le_refl _)⟩ ?_
  clear S1 hb1 hb d1 bd h1 h0' HR
  rintro U ⟨hB, hU, hR⟩
  have hBc := hB.cells
  have HR := Lib.hid hR
  clear hB hR
  go_wp2
  go_loopw [3, 16] (fun s3 s16 wr => ∃ i : Nat, i ≤ nk ∧ s16 = .int .i64 i ∧ (∀ j, j < i → keyOk s j) ∧ ∃ q, wr = U.drewN q) (fun _ s16 _ => nk - (intOf s16).toNat)
  case atStart => exact ⟨0, Nat.zero_le _, rfl, fun j hj => absurd hj (by omega), 0, rfl⟩
  case round =>
    obtain ⟨i, hi, rfl, ha, q, rfl⟩ := hrel
    have HA := Lib.hid ha
    clear ha
    by_cases hlt : i < nk
    · obtain ⟨b, o, rfl, _, _⟩ := HR.out.keys.at_ (by omega)
      have c0 : U.cell? ⟨b, o + i, none⟩ = some (.string (kAt s i)) := sl_cell HR.out.keys i hlt
      have k1 := HR.out.ksmall i
      have HK : Hid (∀ h : keyOk s i, ∀ j, j < i + 1 → keyOk s j) := fun h j hj => by
        by_cases hji : j < i
        · exact HA.out j hji
        · obtain rfl : j = i := by omega
          exact h
      have HN : Hid (¬ keyOk s i → ¬ mayN s) := fun h h2 => h (h2.2.1 i (by rw [hk.out]; exact hlt))
      have HKo : Hid (keyOk s i ↔ ((kAt s i).size ≤ 24 ∧ (0 < i → Op.bytesLess (kAt s (i - 1)).toList (kAt s i).toList = true))) := Iff.rfl
      go_upto_region 6 with fail
      go_cut [43] (fun s43 wx => s43 = .bool (decide (¬ keyOk s i)) ∧ ∃ q, wx = U.drewN q)
      case first =>
        generalize hkk : kAt s i = kk at *
        by_cases a1 : 24 < kk.size
        · have d1 : decide ((24 : Int) < (kk.size : Int)) = true := decide_eq_true (by omega)
          have HD : Hid (decide (¬ keyOk s i) = true) := decide_eq_true (fun h => by have := (HKo.out.1 h).1; omega)
          go_quiet (fail)
          go_wp2_with fail
          go_meet
          exact ⟨by rw [HD.out], q + nq, by rw [World.drewN_drewN]⟩
        have d1 : decide ((24 : Int) < (kk.size : Int)) = false := decide_eq_false (by omega)
        by_cases a2 : i = 0
        · have d2 : decide (0 < i) = false := decide_eq_false (by omega)
          have HD : Hid (decide (¬ keyOk s i) = false) := decide_eq_false (fun h => h (HKo.out.2 ⟨by omega, fun h => by omega⟩))
          clear a2
          go_quiet (fail)
          go_wp2_with fail
          go_meet
          exact ⟨by rw [HD.out], q + nq, by rw [World.drewN_drewN]⟩
        have d2 : decide (0 < i) = true := decide_eq_true (by omega)
        obtain ⟨j, hj⟩ : ∃ j, i = j + 1 := ⟨i - 1, by omega⟩
        have e1 : (i : Int) - 1 = (j : Int) := by omega
        have cj : U.cell? ⟨b, o + j, none⟩ = some (.string (kAt s j)) := sl_cell HR.out.keys j (by omega)
        have hjn : j < nk := by omega
        have hij : i - 1 = j := by omega
        rw [hij] at HKo
        have HJ := Lib.hid hj
        clear hj hij
        generalize kAt s j = kj at *
        by_cases a3 : Op.bytesLess kj.toList kk.toList = true
        · have HD : Hid (decide (¬ keyOk s i) = false) := decide_eq_false (fun h => h (HKo.out.2 ⟨by omega, fun _ => a3⟩))
          go_quiet (fail)
          go_wp2_with fail
          go_meet
          exact ⟨by rw [HD.out], q + nq, by rw [World.drewN_drewN]⟩
        · have a3' : Op.bytesLess kj.toList kk.toList = false := by simpa using a3
          have HD : Hid (decide (¬ keyOk s i) = true) := decide_eq_true (fun h => a3 ((HKo.out.1 h).2 (by have := HJ.out; omega)))
          clear a3
          go_quiet (fail)
          go_wp2_with fail
          go_meet
          exact ⟨by rw [HD.out], q + nq, by rw [World.drewN_drewN]⟩
      case rest =>
        obtain ⟨rfl, q2, rfl⟩ := hcut
        by_cases hko : keyOk s i
        · rw [show decide (¬ keyOk s i) = false from decide_eq_false (fun h => h hko)]
          have HKN := Lib.hid (HK.out hko)
          clear hko
          go_wp2
          go_roundw
          case rel => exact ⟨i + 1, by omega, by go_num, HKN.out, q2, rfl⟩
          case measure => simp [intOf]; omega
        · rw [show decide (¬ keyOk s i) = true from decide_eq_true hko]
          have HN2 := Lib.hid (HN.out hko)
          clear hko
          go_wp2
          go_ret
          exact ⟨by rw [HF.out HN2.out]; rfl, below_drewN hU q2⟩
    · obtain rfl : i = nk := by omega
      have HAll : Hid (∀ j, j < s.keys.length → keyOk s j) := fun j hj => HA.out j (by rw [← hk.out]; exact hj)
      have hq := below_drewN hU q
      by_cases hlf : s.leaf = true
      · rw [hlf] at hBc
        obtain ⟨b, o, rfl, _, _⟩ := HR.out.keys.at_ (by omega)
        have c0 : U.cell? ⟨b, o, none⟩ = some (.string (kAt s 0)) := sl_cell HR.out.keys 0 (by omega)
        have C1 := Lib.hid (cons_any (w := U.drewN q) (HR.out.vals.drewN q) (fun i => HR.out.vsmall i))
        have HL : Hid (leafN s ↔ (kAt s 0 ≠ .empty ∧ nv = i ∧ nd = 0 ∧ shortAll s.vals)) := by
          show _ ↔ _
          unfold leafN
          rw [hk.out, hv.out, hd.out]
        have HM : Hid (leafN s → mayN s) := fun h => by
          unfold mayN
          exact ⟨HH.out, HAll.out, fun _ => h, fun h2 => absurd (hlf.symm.trans h2) (by simp)⟩
        have HNM : Hid (¬ leafN s → ¬ mayN s) := fun h h2 => h (h2.2.2.1 hlf)
        have hem := toList_empty (kAt s 0)
        generalize kAt s 0 = k0 at *
        by_cases b1 : k0 = .empty
        · have HX := Lib.hid (HF.out (HNM.out (fun h => (HL.out.1 h).1 b1)))
          rw [decide_eq_true b1] at hem
          clear b1
          go_wp2
          go_ret
          exact ⟨by rw [HX.out]; rfl, hq⟩
        rw [decide_eq_false b1] at hem
        have HB1 := Lib.hid b1
        clear b1
        by_cases b2 : nv = i
        rotate_left
        · have HX := Lib.hid (HF.out (HNM.out (fun h => b2 (HL.out.1 h).2.1)))
          have e2 : ((nv : Int) == (i : Int)) = false := beq_eq_false_iff_ne.2 (by omega)
          clear b2
          go_wp2
          go_ret
          exact ⟨by rw [HX.out]; rfl, hq⟩
        have e2 : ((nv : Int) == (i : Int)) = true := beq_iff_eq.2 (by omega)
        have HB2 := Lib.hid b2
        clear b2
        by_cases b3 : nd = 0
        rotate_left
        · have HX := Lib.hid (HF.out (HNM.out (fun h => b3 (HL.out.1 h).2.2.1)))
          have e3 : ((nd : Int) == 0) = false := beq_eq_false_iff_ne.2 (by omega)
          clear b3
          go_wp2
          go_ret
          exact ⟨by rw [HX.out]; rfl, hq⟩
        have e3 : ((nd : Int) == 0) = true := beq_iff_eq.2 (by omega)
        have HB3 := Lib.hid b3
        clear b3
        by_cases b4 : shortAll s.vals
        · have HX := Lib.hid (HT.out (HM.out (HL.out.2 ⟨HB1.out, HB2.out, HB3.out, b4⟩)))
          rw [decide_eq_false (show ¬ ¬ shortAll s.vals from fun h => h b4)] at C1
          clear b4
          go_wp2_with ((with_reducible refine Calls.mono C1.out ?_); rintro e w1 ⟨rfl, rfl⟩)
          go_ret
          exact ⟨by rw [HX.out]; rfl, hq⟩
        · have HX := Lib.hid (HF.out (HNM.out (fun h => b4 (HL.out.1 h).2.2.2)))
          rw [decide_eq_true (show ¬ shortAll s.vals from b4)] at C1
          clear b4
          go_wp2_with ((with_reducible refine Calls.mono C1.out ?_); rintro e w1 ⟨rfl, rfl⟩)
          go_ret
          exact ⟨by rw [HX.out]; rfl, hq⟩
      · have hlf : s.leaf = false := by simpa using hlf
        rw [hlf] at hBc
        have C1 := Lib.hid (cond_any (w := U.drewN q) (HR.out.kids.drewN q))
        have HL : Hid (innerN s ↔ (nd = i ∧ nv = 0 ∧ narrowAll s.kids)) := by
          show _ ↔ _
          unfold innerN
          rw [hk.out, hv.out, hd.out]
        have HM : Hid (innerN s → mayN s) := fun h => by
          unfold mayN
          exact ⟨HH.out, HAll.out, fun h2 => absurd (hlf.symm.trans h2) (by simp), fun _ => h⟩
        have HNM : Hid (¬ innerN s → ¬ mayN s) := fun h h2 => h (h2.2.2.2 hlf)
        by_cases b2 : nd = i
        rotate_left
        · have HX := Lib.hid (HF.out (HNM.out (fun h => b2 (HL.out.1 h).1)))
          have e2 : ((nd : Int) == (i : Int)) = false := beq_eq_false_iff_ne.2 (by omega)
          clear b2
          go_wp2
          go_ret
          exact ⟨by rw [HX.out]; rfl, hq⟩
        have e2 : ((nd : Int) == (i : Int)) = true := beq_iff_eq.2 (by omega)
        have HB2 := Lib.hid b2
        clear b2
        by_cases b3 : nv = 0
        rotate_left
        · have HX := Lib.hid (HF.out (HNM.out (fun h => b3 (HL.out.1 h).2.1)))
          have e3 : ((nv : Int) == 0) = false := beq_eq_false_iff_ne.2 (by omega)
          clear b3
          go_wp2
          go_ret
          exact ⟨by rw [HX.out]; rfl, hq⟩
        have e3 : ((nv : Int) == 0) = true := beq_iff_eq.2 (by omega)
        have HB3 := Lib.hid b3
        clear b3
        by_cases b4 : narrowAll s.kids
        · have HX := Lib.hid (HT.out (HM.out (HL.out.2 ⟨HB2.out, HB3.out, b4⟩)))
          rw [decide_eq_false (show ¬ ¬ narrowAll s.kids from fun h => h b4)] at C1
          clear b4
          go_wp2_with ((with_reducible refine Calls.mono C1.out ?_); rintro e w1 ⟨rfl, rfl⟩)
          go_ret
          exact ⟨by rw [HX.out]; rfl, hq⟩
        · have HX := Lib.hid (HF.out (HNM.out (fun h => b4 (HL.out.1 h).2.2)))
          rw [decide_eq_true (show ¬ narrowAll s.kids from b4)] at C1
          clear b4
          go_wp2_with ((with_reducible refine Calls.mono C1.out ?_); rintro e w1 ⟨rfl, rfl⟩)
          go_ret
          exact ⟨by rw [HX.out]; rfl, hq⟩
end Go.Proofs.Ytnjpibbmgbiofaa
