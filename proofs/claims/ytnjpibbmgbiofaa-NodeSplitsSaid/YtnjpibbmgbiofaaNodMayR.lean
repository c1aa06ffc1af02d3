/- Which nodes may be: kistref14.May. -/
import Derived.Test.YtnjpibbmgbiofaaNodMay
namespace Go.Proofs.Ytnjpibbmgbiofaa
open Go.RowKit

theorem bytesLess_nil (x : List UInt8) : Op.bytesLess x [] = false := by cases x <;> rfl
theorem may_key (s : Nd) (h : mayN s) (hl : s.leaf = true) (i : Nat) (hi : i < s.keys.length) : kAt s i ≠ .empty := by
  intro he
  rcases Nat.eq_zero_or_pos i with rfl | hp
  · exact (h.2.2.1 hl).1 he
  · have := (h.2.1 i hi).2 hp
    rw [he] at this
    have e : (ByteArray.empty).toList = [] := by rw [ByteArray.toList_eq]; rfl
    rw [e, bytesLess_nil] at this
    cases this
/-- a key may be, in the document's words -/
def rkeyOk (s : Nd) (i : Nat) : Prop := keyOk s i ∧ (s.leaf = true → kAt s i ≠ .empty)
instance (s : Nd) (i : Nat) : Decidable (rkeyOk s i) := by unfold rkeyOk; infer_instance

set_option maxRecDepth 100000 in
set_option maxHeartbeats 4000000 in
theorem rnmay_any (s : Nd) {w : World} {lo : Nat} {K V D : Option Addr} {nk ck nv cv nd cd : Nat} (h : NdR w lo s K nk ck V nv cv D nd cd) :
    Calls Try.prog 9 #[.agg #[.bool s.leaf, .slice K nk ck, .slice V nv cv, .slice D nd cd]] w fun e w' => e = .returned (.bool (decide (mayN s))) ∧ Below w.heap.size w w' := by
  have HR := Lib.hid h
  have hk := Lib.hid h.nk_eq
  have hv := Lib.hid h.nv_eq
  have hd := Lib.hid h.nd_eq
  have hc1 := h.keys.2.1
  have hc2 := h.keys.2.2.1
  have hc3 := h.vals.2.1
  have hc4 := h.vals.2.2.1
  have hc5 := h.kids.2.1
  have hc6 := h.kids.2.2.1
  have HF : Hid (¬ mayN s → decide (mayN s) = false) := fun h => decide_eq_false h
  have HT : Hid (mayN s → decide (mayN s) = true) := fun h => decide_eq_true h
  have hb : Below w.heap.size w (w.alloc (.cells #[.bool s.leaf, .slice K nk ck, .slice V nv cv, .slice D nd cd] 25)) := (Below.refl _ _).alloc (Nat.le_refl _) _
  by_cases h0 : nk = 0
  · have HN : Hid (¬ mayN s) := fun h => by have := h.1.1; rw [hk.out] at this; omega
    clear h
    go_enter Try.func9, Try.ntmps9
    go_wp2
    go_ret
    exact ⟨by rw [HF.out HN.out]; rfl, (Below.refl _ _).alloc (Nat.le_refl _) _⟩
  have S1 := Lib.hid (rsize_any s (h.below hb (Nat.le_refl _)))
  have bd := szV_bd (sizeN s)
  have h1n : (1 : Int) ≤ (nk : Int) := by omega
  by_cases h1 : szV (sizeN s) ≤ 240
  rotate_left
  · have HN : Hid (¬ mayN s) := fun h => h1 h.1.2
    have d1 : decide (240 < szV (sizeN s)) = true := decide_eq_true (by omega)
    clear h
    go_enter Try.func9, Try.ntmps9
    go_wp2_with ((with_reducible refine Calls.mono S1.out ?_); rintro e w1 ⟨rfl, hb1⟩)
    go_ret
    exact ⟨by rw [HF.out HN.out]; rfl, hb.trans (hb1.mono hb.size)⟩
  have d1 : decide (240 < szV (sizeN s)) = false := decide_eq_false (by omega)
  have HH : Hid (headN s) := ⟨by rw [hk.out]; omega, h1⟩
  clear h
  go_enter Try.func9, Try.ntmps9
  go_upto_region 3 with ((with_reducible refine Calls.mono S1.out ?_); rintro e w1 ⟨rfl, hb1⟩)
  refine wp_world (fun U => Blk U w.heap.size 25 [.bool s.leaf, .slice K nk ck, .slice V nv cv, .slice D nd cd] ∧ Below w.heap.size w U ∧ NdR U lo s K nk ck V nv cv D nd cd)
    ⟨(Blk.new w _ [.bool s.leaf, .slice K nk ck, .slice V nv cv, .slice D nd cd]).below hb1 (by simp), hb.trans (hb1.mono (by simp)), HR.out.below (hb.trans (hb1.mono (by simp))) (Nat.le_refl _)⟩ ?_
  clear S1 hb1 hb d1 bd h1 HR
  rintro U ⟨hB, hU, hR⟩
  have hBc := hB.cells
  have HR := Lib.hid hR
  clear hB hR
  go_wp2
  go_loopw [3] (fun s3 wr => ∃ i : Nat, i ≤ nk ∧ s3 = .int .i64 i ∧ (∀ j, j < i → rkeyOk s j) ∧ ∃ q, wr = U.drewN q) (fun s3 _ => nk - (intOf s3).toNat)
  case atStart => exact ⟨0, Nat.zero_le _, rfl, fun j hj => absurd hj (by omega), 0, rfl⟩
  case round =>
    obtain ⟨i, hi, rfl, ha, q, rfl⟩ := hrel
    have HA := Lib.hid ha
    clear ha
    by_cases hlt : i < nk
    · obtain ⟨b, o, rfl, _, _⟩ := HR.out.keys.at_ (by omega)
      have c0 : U.cell? ⟨b, o + i, none⟩ = some (.string (kAt s i)) := sl_cell HR.out.keys i hlt
      have k1 := HR.out.ksmall i
      have HK : Hid (∀ h : rkeyOk s i, ∀ j, j < i + 1 → rkeyOk s j) := fun h j hj => by
        by_cases hji : j < i
        · exact HA.out j hji
        · obtain rfl : j = i := by omega
          exact h
      have HN : Hid (¬ rkeyOk s i → ¬ mayN s) := fun h h2 => h ⟨h2.2.1 i (by rw [hk.out]; exact hlt), fun hl => may_key s h2 hl i (by rw [hk.out]; exact hlt)⟩
      have HKo : Hid (rkeyOk s i ↔ (((kAt s i).size ≤ 24 ∧ (0 < i → Op.bytesLess (kAt s (i - 1)).toList (kAt s i).toList = true)) ∧ (s.leaf = true → kAt s i ≠ .empty))) := Iff.rfl
      go_upto_region 6 with fail
      go_cut [58] (fun s58 wx => s58 = .bool (decide (¬ rkeyOk s i)) ∧ ∃ q, wx = U.drewN q)
      case first =>
        have hem := toList_empty (kAt s i)
        generalize hkk : kAt s i = kk at *
        by_cases a1 : 24 < kk.size
        · have d1 : decide ((24 : Int) < (kk.size : Int)) = true := decide_eq_true (by omega)
          have HD : Hid (decide (¬ rkeyOk s i) = true) := decide_eq_true (fun h => by have := (HKo.out.1 h).1.1; omega)
          go_quiet (fail)
          go_wp2_with fail
          go_meet
          exact ⟨by rw [HD.out], q + nq, by rw [World.drewN_drewN]⟩
        have d1 : decide ((24 : Int) < (kk.size : Int)) = false := decide_eq_false (by omega)
        have HS24 : Hid (kk.size ≤ 24) := by show _ ≤ _; omega
        clear a1
        by_cases a2 : i = 0
        · have d2 : decide (0 < i) = false := decide_eq_false (by omega)
          by_cases hlf : s.leaf = true
          · rw [hlf] at hBc
            by_cases a4 : kk = .empty
            · have HD : Hid (decide (¬ rkeyOk s i) = true) := decide_eq_true (fun h => (HKo.out.1 h).2 hlf a4)
              rw [decide_eq_true a4] at hem
              clear a2 a4
              go_quiet (fail)
              go_wp2_with fail
              go_meet
              exact ⟨by rw [HD.out], q + nq, by rw [World.drewN_drewN]⟩
            · have HD : Hid (decide (¬ rkeyOk s i) = false) := decide_eq_false (fun h => h (HKo.out.2 ⟨⟨HS24.out, fun h => by omega⟩, fun _ => a4⟩))
              rw [decide_eq_false a4] at hem
              clear a2 a4
              go_quiet (fail)
              go_wp2_with fail
              go_meet
              exact ⟨by rw [HD.out], q + nq, by rw [World.drewN_drewN]⟩
          · have hlf : s.leaf = false := by simpa using hlf
            rw [hlf] at hBc
            have HD : Hid (decide (¬ rkeyOk s i) = false) := decide_eq_false (fun h => h (HKo.out.2 ⟨⟨HS24.out, fun h => by omega⟩, fun h2 => by rw [hlf] at h2; cases h2⟩))
            clear a2 hem
            go_quiet (fail)
            go_wp2_with fail
            go_meet
            exact ⟨by rw [HD.out], q + nq, by rw [World.drewN_drewN]⟩
        have d2 : decide (0 < i) = true := decide_eq_true (by omega)
        obtain ⟨j, hj⟩ : ∃ j, i = j + 1 := ⟨i - 1, by omega⟩
        have e1 : (i : Int) - 1 = (j : Int) := by omega
        have cj : U.cell? ⟨b, o + j, none⟩ = some (.string (kAt s j)) := sl_cell HR.out.keys j (by omega)
        have hjn : j < nk := by omega
        have hij : i - 1 = j := by omega
        rw [hij] at HKo
        have HJ := Lib.hid hj
        clear hj hij
        generalize kAt s j = kj at *
        by_cases a3 : Op.bytesLess kj.toList kk.toList = true
        · by_cases hlf : s.leaf = true
          · rw [hlf] at hBc
            by_cases a4 : kk = .empty
            · have HD : Hid (decide (¬ rkeyOk s i) = true) := decide_eq_true (fun h => (HKo.out.1 h).2 hlf a4)
              rw [decide_eq_true a4] at hem
              clear a4
              go_quiet (fail)
              go_wp2_with fail
              go_meet
              exact ⟨by rw [HD.out], q + nq, by rw [World.drewN_drewN]⟩
            · have HD : Hid (decide (¬ rkeyOk s i) = false) := decide_eq_false (fun h => h (HKo.out.2 ⟨⟨HS24.out, fun _ => a3⟩, fun _ => a4⟩))
              rw [decide_eq_false a4] at hem
              clear a4
              go_quiet (fail)
              go_wp2_with fail
              go_meet
              exact ⟨by rw [HD.out], q + nq, by rw [World.drewN_drewN]⟩
          · have hlf : s.leaf = false := by simpa using hlf
            rw [hlf] at hBc
            have HD : Hid (decide (¬ rkeyOk s i) = false) := decide_eq_false (fun h => h (HKo.out.2 ⟨⟨HS24.out, fun _ => a3⟩, fun h2 => by rw [hlf] at h2; cases h2⟩))
            clear hem
            go_quiet (fail)
            go_wp2_with fail
            go_meet
            exact ⟨by rw [HD.out], q + nq, by rw [World.drewN_drewN]⟩
        · have a3' : Op.bytesLess kj.toList kk.toList = false := by simpa using a3
          have HD : Hid (decide (¬ rkeyOk s i) = true) := decide_eq_true (fun h => a3 ((HKo.out.1 h).1.2 (by have := HJ.out; omega)))
          clear a3 hem
          go_quiet (fail)
          go_wp2_with fail
          go_meet
          exact ⟨by rw [HD.out], q + nq, by rw [World.drewN_drewN]⟩
      case rest =>
        obtain ⟨rfl, q2, rfl⟩ := hcut
        by_cases hko : rkeyOk s i
        · rw [show decide (¬ rkeyOk s i) = false from decide_eq_false (fun h => h hko)]
          have HKN := Lib.hid (HK.out hko)
          clear hko
          go_wp2
          go_roundw
          case rel => exact ⟨i + 1, by omega, by go_num, HKN.out, q2, rfl⟩
          case measure => simp [intOf]; omega
        · rw [show decide (¬ rkeyOk s i) = true from decide_eq_true hko]
          have HN2 := Lib.hid (HN.out hko)
          clear hko
          go_wp2
          go_ret
          exact ⟨by rw [HF.out HN2.out]; rfl, below_drewN hU q2⟩
    · obtain rfl : i = nk := by omega
      have HAll : Hid (∀ j, j < s.keys.length → keyOk s j) := fun j hj => (HA.out j (by rw [← hk.out]; exact hj)).1
      have hq := below_drewN hU q
      by_cases hlf : s.leaf = true
      · rw [hlf] at hBc
        have HK0 : Hid (kAt s 0 ≠ .empty) := (HA.out 0 (by omega)).2 hlf
        have HM : Hid (nv = i → nd = 0 → shortAll s.vals → mayN s) := fun h1 h2 h3 => by
          unfold mayN
          refine ⟨HH.out, HAll.out, fun _ => ?_, fun h2 => absurd (hlf.symm.trans h2) (by simp)⟩
          unfold leafN
          exact ⟨HK0.out, by rw [hv.out, hk.out]; exact h1, by rw [hd.out]; exact h2, h3⟩
        have HNM : Hid (¬ (nv = i ∧ nd = 0 ∧ shortAll s.vals) → ¬ mayN s) := fun h h2 => h (by
          obtain ⟨_, l2, l3, l4⟩ := h2.2.2.1 hlf
          exact ⟨by rw [← hv.out, l2, hk.out], by rw [← hd.out]; exact l3, l4⟩)
        go_wp2
        go_loopw [4] (fun s4 wr => ∃ j : Nat, j ≤ nv ∧ s4 = .int .i64 j ∧ (∀ k, k < j → (s.vals.getD k .empty).size ≤ 24) ∧ wr = U.drewN q) (fun s4 _ => nv - (intOf s4).toNat)
        case atStart => exact ⟨0, Nat.zero_le _, rfl, fun k hk => absurd hk (by omega), rfl⟩
        case round =>
          obtain ⟨j, hj, rfl, ha, rfl⟩ := hrel
          have HB := Lib.hid ha
          clear ha
          by_cases hltv : j < nv
          · obtain ⟨b, o, rfl, _, _⟩ := HR.out.vals.at_ (by omega)
            have cv := sl_cell HR.out.vals j hltv
            have v1 := HR.out.vsmall j
            have HBv : Hid ((s.vals.getD j .empty).size ≤ 24 → ∀ k, k < j + 1 → (s.vals.getD k .empty).size ≤ 24) := fun h k hk => by
              by_cases hkj : k < j
              · exact HB.out k hkj
              · obtain rfl : k = j := by omega
                exact h
            have HBn : Hid (¬ (s.vals.getD j .empty).size ≤ 24 → ¬ mayN s) := fun h => HNM.out (fun h2 => h (h2.2.2 j (by rw [hv.out]; exact hltv)))
            unfold vAt at v1
            generalize s.vals.getD j .empty = vv at *
            by_cases hs : vv.size ≤ 24
            · have HX := Lib.hid (HBv.out hs)
              go_wp2
              go_roundw
              case rel => exact ⟨j + 1, by omega, by go_num, HX.out, trivial⟩
              case measure => simp [intOf]; omega
            · have HX := Lib.hid (HF.out (HBn.out hs))
              have hs2 : 24 < vv.size := by omega
              clear hs
              go_wp2
              go_ret
              exact ⟨by rw [HX.out]; rfl, hq⟩
          · obtain rfl : j = nv := by omega
            have HSh : Hid (shortAll s.vals) := fun k hk => HB.out k (by rw [← hv.out]; exact hk)
            by_cases b2 : j = i
            rotate_left
            · have HX := Lib.hid (HF.out (HNM.out (fun h => b2 h.1)))
              have e2 : ((j : Int) == (i : Int)) = false := beq_eq_false_iff_ne.2 (by omega)
              clear b2
              go_wp2
              go_ret
              exact ⟨by rw [HX.out]; rfl, hq⟩
            have e2 : ((j : Int) == (i : Int)) = true := beq_iff_eq.2 (by omega)
            have HB2 := Lib.hid b2
            clear b2
            by_cases b3 : nd = 0
            · have HX := Lib.hid (HT.out (HM.out HB2.out b3 HSh.out))
              have e3 : ((nd : Int) == 0) = true := beq_iff_eq.2 (by omega)
              clear b3
              go_wp2
              go_ret
              exact ⟨by rw [HX.out]; rfl, hq⟩
            · have HX := Lib.hid (HF.out (HNM.out (fun h => b3 h.2.1)))
              have e3 : ((nd : Int) == 0) = false := beq_eq_false_iff_ne.2 (by omega)
              clear b3
              go_wp2
              go_ret
              exact ⟨by rw [HX.out]; rfl, hq⟩
      · have hlf : s.leaf = false := by simpa using hlf
        rw [hlf] at hBc
        have HM : Hid (nd = i → nv = 0 → narrowAll s.kids → mayN s) := fun h1 h2 h3 => by
          unfold mayN
          refine ⟨HH.out, HAll.out, fun h2 => absurd (hlf.symm.trans h2) (by simp), fun _ => ?_⟩
          unfold innerN
          exact ⟨by rw [hd.out, hk.out]; exact h1, by rw [hv.out]; exact h2, h3⟩
        have HNM : Hid (¬ (nd = i ∧ nv = 0 ∧ narrowAll s.kids) → ¬ mayN s) := fun h h2 => h (by
          obtain ⟨l2, l3, l4⟩ := h2.2.2.2 hlf
          exact ⟨by rw [← hd.out, l2, hk.out], by rw [← hv.out]; exact l3, l4⟩)
        go_wp2
        go_loopw [5] (fun s5 wr => ∃ j : Nat, j ≤ nd ∧ s5 = .int .i64 j ∧ (∀ k, k < j → 0 ≤ s.kids.getD k 0 ∧ s.kids.getD k 0 ≤ 65535) ∧ wr = U.drewN q) (fun s5 _ => nd - (intOf s5).toNat)
        case atStart => exact ⟨0, Nat.zero_le _, rfl, fun k hk => absurd hk (by omega), rfl⟩
        case round =>
          obtain ⟨j, hj, rfl, ha, rfl⟩ := hrel
          have HB := Lib.hid ha
          clear ha
          by_cases hltv : j < nd
          · obtain ⟨b, o, rfl, _, _⟩ := HR.out.kids.at_ (by omega)
            have cv := il_cell HR.out.kids j hltv
            have HBv : Hid ((0 ≤ s.kids.getD j 0 ∧ s.kids.getD j 0 ≤ 65535) → ∀ k, k < j + 1 → 0 ≤ s.kids.getD k 0 ∧ s.kids.getD k 0 ≤ 65535) := fun h k hk => by
              by_cases hkj : k < j
              · exact HB.out k hkj
              · obtain rfl : k = j := by omega
                exact h
            have HBn : Hid (¬ (0 ≤ s.kids.getD j 0 ∧ s.kids.getD j 0 ≤ 65535) → ¬ mayN s) := fun h => HNM.out (fun h2 => h (h2.2.2 j (by rw [hd.out]; exact hltv)))
            generalize s.kids.getD j 0 = vv at *
            by_cases hs1 : vv < 0
            · have HX := Lib.hid (HF.out (HBn.out (by omega)))
              go_wp2
              go_ret
              exact ⟨by rw [HX.out]; rfl, hq⟩
            · by_cases hs2 : 65535 < vv
              · have HX := Lib.hid (HF.out (HBn.out (by omega)))
                go_wp2
                go_ret
                exact ⟨by rw [HX.out]; rfl, hq⟩
              · have HX := Lib.hid (HBv.out (by omega))
                go_wp2
                go_roundw
                case rel => exact ⟨j + 1, by omega, by go_num, HX.out, trivial⟩
                case measure => simp [intOf]; omega
          · obtain rfl : j = nd := by omega
            have HSh : Hid (narrowAll s.kids) := fun k hk => HB.out k (by rw [← hd.out]; exact hk)
            by_cases b2 : j = i
            rotate_left
            · have HX := Lib.hid (HF.out (HNM.out (fun h => b2 h.1)))
              have e2 : ((j : Int) == (i : Int)) = false := beq_eq_false_iff_ne.2 (by omega)
              clear b2
              go_wp2
              go_ret
              exact ⟨by rw [HX.out]; rfl, hq⟩
            have e2 : ((j : Int) == (i : Int)) = true := beq_iff_eq.2 (by omega)
            have HB2 := Lib.hid b2
            clear b2
            by_cases b3 : nv = 0
            · have HX := Lib.hid (HT.out (HM.out HB2.out b3 HSh.out))
              have e3 : ((nv : Int) == 0) = true := beq_iff_eq.2 (by omega)
              clear b3
              go_wp2
              go_ret
              exact ⟨by rw [HX.out]; rfl, hq⟩
            · have HX := Lib.hid (HF.out (HNM.out (fun h => b3 h.2.1)))
              have e3 : ((nv : Int) == 0) = false := beq_eq_false_iff_ne.2 (by omega)
              clear b3
              go_wp2
              go_ret
              exact ⟨by rw [HX.out]; rfl, hq⟩
end Go.Proofs.Ytnjpibbmgbiofaa
