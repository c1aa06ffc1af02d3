/- The statement that chunks are the data: its walk. -/
import Derived.Test.YtgfmpgflbphpcaaCutE
namespace Go.Proofs.Ytgfmpgflbphpcaa
open Go.RowKit

set_option maxRecDepth 100000 in
set_option maxHeartbeats 2000000 in
theorem cutWhole_any {A : Option Addr} {m c lo : Nat} {l : List UInt8} {w : World} (hb : Bs w lo A m c l) :
    Calls Try.prog 14 #[.slice A m c] w fun e w' => e = .returned (.bool true) ∧ Below w.heap.size w w' := by
  have hc1 := hb.2.1
  have hc2 := hb.2.2.1
  have HB0 := Lib.hid hb
  clear hb
  by_cases hm : m ≤ 3000
  all_goals
    go_enter Try.func14, Try.ntmps14
    go_upto_region 3 with fail
    go_cut [0, 3] (fun s0 s3 wx => ∃ (M : Nat) (l' : List UInt8), s0 = .slice A M c ∧ Bs w lo A M c l' ∧ M ≤ 3000 ∧ ∃ A3 c3, s3 = .slice A3 (cuts l').length c3 ∧ Own wx w.heap.size 3 1 A3 (cuts l').length c3 (is (cuts l')) ∧ Below w.heap.size w wx)
  · go_wp2_with (go_at_call 29; refine (cut_any HB0.out (by omega)).mono ?_; rintro e w1 ⟨A1, c1, rfl, ho1, hb1⟩)
    go_meet
    exact ⟨m, l, rfl, HB0.out, hm, A1, c1, rfl, ho1, hb1⟩
  rotate_left
  · go_wp2_with (go_at_call 29; refine (cut_any (HB0.out.take 3000 (by omega)) (by omega)).mono ?_; rintro e w1 ⟨A1, c1, rfl, ho1, hb1⟩)
    go_meet
    exact ⟨3000, l.take 3000, rfl, HB0.out.take 3000 (by omega), Nat.le_refl _, A1, c1, rfl, ho1, hb1⟩
  all_goals
    obtain ⟨M, l', rfl, hb, hM, A3, c3, rfl, ho, hbw⟩ := hcut
    have HB := Lib.hid hb
    have HL := Lib.hid hb.1
    have HAt := Lib.hid (cuts_at l')
    have HSum := Lib.hid (cuts_sum l')
    clear hb hm HB0 hc1 hc2
    generalize cuts l' = C at *
    have HE : Hid (∀ (a b : Nat) (W : World), 7 ≤ a + b → a + b ≤ M → Below w.heap.size w W → Calls Try.prog 34 #[.slice A M c, .int .i64 ((a : Int) + (b : Int))] W fun e w' => e = .returned (.bool (endsB l' (a + b))) ∧ Below W.heap.size W w') := fun a b W h1 h2 h3 => by
      rw [← Int.natCast_add]
      exact ends_yes (a + b) (HB.out.below h3 (Nat.le_refl _)) h1 h2
    have hcap := ho.cap
    have h63 : C.length ≤ 9223372036854775807 := Nat.le_trans hcap.1 hcap.2
    clear hcap
    go_wp2
    go_loopw [4, 5, 6, 7] (fun s4 s5 s6 s7 wr => ∃ i : Nat, i ≤ C.length ∧ s5 = .int .i64 i ∧ s4 = .int .i64 ((C.take i).sum : Nat) ∧ Own wr w.heap.size 3 1 A3 C.length c3 (is C) ∧ Below w.heap.size w wr)
      (fun _ s5 _ _ _ => C.length - (intOf s5).toNat)
    case atStart => exact ⟨0, Nat.zero_le _, rfl, rfl, ho, hbw⟩
    case round =>
      clear ho hbw
      obtain ⟨i, hi, rfl, rfl, ho, hbw⟩ := hrel
      by_cases hlt : i < C.length
      · obtain ⟨g, rfl, _, hgl, hc⟩ := own_is ho (by omega)
        have x := hc i hlt
        have HO := Lib.hid ho
        obtain ⟨a1, a2, a3, a4, a5, a6⟩ := HAt.out i hlt
        have HT := Lib.hid (show (C.take (i + 1)).sum = (C.take i).sum + C.getD i 0 by rw [List.take_succ_eq_append_getElem hlt, List.sum_append, getD_get _ _ _ hlt]; simp)
        have H5 := Lib.hid a5
        have H6 := Lib.hid a6
        have hll := HL.out
        rw [hll] at a4
        clear hc ho a5 a6 hll HSum
        generalize (C.take i).sum = S at *
        generalize C.getD i 0 = X at *
        have HLt := Lib.hid hlt
        have hnn : C.length ≤ 9223372036854775807 := h63
        by_cases hl : i + 1 = C.length
        · have e1 : ((i : Int) == (C.length : Int) - 1) = true := beq_iff_eq.2 (by omega)
          go_wp2
          go_loopw [7] (fun s7 wr7 => ∃ k : Nat, s7 = .int .i64 k ∧ 64 ≤ k ∧ (k ≤ X ∨ k = 64) ∧ Below wr.heap.size wr wr7) (fun s7 _ => X - (intOf s7).toNat)
          case atStart => exact ⟨64, rfl, by omega, .inr rfl, Below.refl _ _⟩
          case round =>
            obtain ⟨k, rfl, hk, hkX, hb7⟩ := hrel
            have x7 := below_cell hb7 x
            clear x
            have h27 := hbw.trans (hb7.mono hbw.size)
            by_cases hlt7 : k < X
            · have h5 := H5.out k hk hlt7
              go_wp2_with fail
              refine (HE.out S k _ (by omega) (by omega) h27).mono ?_
              rw [h5]
              rintro e w8 ⟨rfl, hb8⟩
              go_wp2
              go_roundw
              case rel => exact ⟨k + 1, by go_num, by omega, .inl (by omega), hb7.trans (hb8.mono hb7.size)⟩
              case measure => simp [intOf]; omega
            · have HOw := Lib.hid (HO.out.below hb7 (Nat.le_refl _))
              have hS : ((S : Int) + (X : Int)) = (((C.take (i + 1)).sum : Nat) : Int) := by rw [HT.out]; omega
              have HS := Lib.hid hS
              clear hS hkX
              go_wp2
              go_roundw
              case rel => exact ⟨i + 1, by omega, by go_num, by rw [← HS.out], HOw.out, h27⟩
              case measure => simp [intOf]; omega
        · have e1 : ((i : Int) == (C.length : Int) - 1) = false := bne_of (by omega)
          have a64 := a3 hl
          go_wp2
          go_loopw [7] (fun s7 wr7 => ∃ k : Nat, s7 = .int .i64 k ∧ 64 ≤ k ∧ (k ≤ X ∨ k = 64) ∧ Below wr.heap.size wr wr7) (fun s7 _ => X - (intOf s7).toNat)
          case atStart => exact ⟨64, rfl, by omega, .inr rfl, Below.refl _ _⟩
          case round =>
            obtain ⟨k, rfl, hk, hkX, hb7⟩ := hrel
            have x7 := below_cell hb7 x
            clear x
            have h27 := hbw.trans (hb7.mono hbw.size)
            by_cases hlt7 : k < X
            · have h5 := H5.out k hk hlt7
              go_wp2_with fail
              refine (HE.out S k _ (by omega) (by omega) h27).mono ?_
              rw [h5]
              rintro e w8 ⟨rfl, hb8⟩
              go_wp2
              go_roundw
              case rel => exact ⟨k + 1, by go_num, by omega, .inl (by omega), hb7.trans (hb8.mono hb7.size)⟩
              case measure => simp [intOf]; omega
            · have hS : ((S : Int) + (X : Int)) = (((C.take (i + 1)).sum : Nat) : Int) := by rw [HT.out]; omega
              have HS := Lib.hid hS
              clear hS hkX
              by_cases h512 : X < 512
              · have h6 := H6.out hl h512
                go_wp2_with fail
                refine (HE.out S X _ (by omega) (by omega) h27).mono ?_
                rw [h6]
                rintro e w8 ⟨rfl, hb8⟩
                have HOw := Lib.hid (HO.out.below (hb7.trans (hb8.mono hb7.size)) (Nat.le_refl _))
                go_wp2
                go_roundw
                case rel => exact ⟨i + 1, by omega, by go_num, by rw [← HS.out], HOw.out, h27.trans (hb8.mono h27.size)⟩
                case measure => simp [intOf]; omega
              · have HOw := Lib.hid (HO.out.below hb7 (Nat.le_refl _))
                go_wp2
                go_roundw
                case rel => exact ⟨i + 1, by omega, by go_num, by rw [← HS.out], HOw.out, h27⟩
                case measure => simp [intOf]; omega
      · obtain rfl : i = C.length := by omega
        have hSu : (C.take C.length).sum = M := by rw [List.take_length, HSum.out, HL.out]
        rw [hSu]
        go_wp2_with (go_at_call 31; refine (clives_any _).mono ?_; rintro e w5 ⟨rfl, hb5⟩)
        go_ret
        exact ⟨rfl, hbw.trans (hb5.mono hbw.size)⟩
end Go.Proofs.Ytgfmpgflbphpcaa
