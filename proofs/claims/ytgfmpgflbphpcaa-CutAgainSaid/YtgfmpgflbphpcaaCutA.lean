/- The statement that what is alike is cut alike: its walk. -/
import Derived.Test.YtgfmpgflbphpcaaCutE
import Derived.Deep.DeepCutAuto
namespace Go.Proofs.Ytgfmpgflbphpcaa
open Go.RowKit

theorem getD_left {a b : List Nat} {i : Nat} (h : i < a.length) : (a ++ b).getD i 0 = a.getD i 0 := by
  rw [getD_get _ _ _ (by rw [List.length_append]; omega), List.getElem_append_left h, getD_get _ _ _ h]
theorem getD_right {a b : List Nat} {j : Nat} (h : j < b.length) : (a ++ b).getD (a.length + j) 0 = b.getD j 0 := by
  rw [getD_get _ _ _ (by rw [List.length_append]; omega), List.getElem_append_right (by omega), getD_get _ _ _ h]
  congr 1
  omega

theorem length_cuts (l : List UInt8) : (cuts l).length ≤ l.length := by
  have hs := cuts_sum l
  have hp : ∀ x ∈ cuts l, 1 ≤ x := fun x hx => by
    obtain ⟨i, hi, rfl⟩ := List.getElem_of_mem hx
    have := (cuts_at l i hi).1
    rwa [getD_get _ _ _ hi] at this
  have : ∀ c : List Nat, (∀ x ∈ c, 1 ≤ x) → c.length ≤ c.sum := by
    intro c
    induction c with
    | nil => intro _; simp
    | cons a c ih =>
      intro h
      have h1 := h a (by simp)
      have h2 := ih (fun x hx => h x (by simp [hx]))
      simp only [List.length_cons, List.sum_cons]
      omega
  rw [← hs]
  exact this _ hp

set_option maxRecDepth 100000 in
set_option maxHeartbeats 2000000 in
theorem cutAgain_any {A B : Option Addr} {m c lo k d lo2 : Nat} {l q : List UInt8} {w : World} (hb : Bs w lo A m c l) (hd : Bs w lo2 B k d q) :
    Calls Try.prog 12 #[.slice A m c, .slice B k d] w fun e w' => e = .returned (.bool true) ∧ Below w.heap.size w w' := by
  have hc1 := hb.2.1
  have hc2 := hb.2.2.1
  have hd1 := hd.2.1
  have hd2 := hd.2.2.1
  have HB0 := Lib.hid hb
  have HD0 := Lib.hid hd
  clear hb hd
  go_enter Try.func12, Try.ntmps12
  go_upto_if 14 with fail
  go_cut [0] (fun s0 wx => (∃ (M : Nat) (l' : List UInt8), M ≤ 65536 ∧ s0 = .slice A M c ∧ Bs w lo A M c l') ∧ w = wx)
  case first =>
    by_cases hm : m ≤ 65536
    · have e1 : decide (65536 < m) = false := decide_eq_false (by omega)
      go_wp2_with fail
      go_meet
      exact ⟨⟨m, l, hm, rfl, HB0.out⟩, rfl⟩
    · have e1 : decide (65536 < m) = true := decide_eq_true (by omega)
      go_wp2_with fail
      go_meet
      exact ⟨⟨65536, l.take 65536, Nat.le_refl _, rfl, HB0.out.take 65536 (by omega)⟩, rfl⟩
  obtain ⟨⟨M, l1, hM, rfl, hb1⟩, rfl⟩ := hcut
  go_upto_if 19 with fail
  go_cut [1] (fun s0 wx => (∃ (K : Nat) (l' : List UInt8), K ≤ 65536 ∧ s0 = .slice B K d ∧ Bs w lo2 B K d l') ∧ w = wx)
  case first =>
    by_cases hm : k ≤ 65536
    · have e1 : decide (65536 < k) = false := decide_eq_false (by omega)
      go_wp2_with fail
      go_meet
      exact ⟨⟨k, q, hm, rfl, HD0.out⟩, rfl⟩
    · have e1 : decide (65536 < k) = true := decide_eq_true (by omega)
      go_wp2_with fail
      go_meet
      exact ⟨⟨65536, q.take 65536, Nat.le_refl _, rfl, HD0.out.take 65536 (by omega)⟩, rfl⟩
  obtain ⟨⟨K, q1, hK, rfl, hb2⟩, rfl⟩ := hcut
  have hCl : (cuts l1).length ≤ M := by rw [← hb1.1]; exact length_cuts l1
  have HBk := Lib.hid (cuts_back l1)
  have HC := Lib.hid (cut_any hb1 (by omega))
  have HL1 := Lib.hid hb1.1
  have HJ := Lib.hid (cuts_join)
  have HB1 := Lib.hid hb1
  have HB2 := Lib.hid hb2
  have hM1 := hb1.2.1
  clear hb1 hb2 HB0 HD0 hc1 hd1
  generalize hC : cuts l1 = C at *
  clear hC
  rcases List.eq_nil_or_concat C with rfl | ⟨o, x, rfl⟩
  · go_wp2_with (first | (go_at_call 29; refine HC.out.mono ?_; rintro e w1 ⟨A1, c1, rfl, ho1, hb1⟩) | (go_at_call 31; refine (clives_any _).mono ?_; rintro e w5 ⟨rfl, hb5⟩))
    go_ret
    exact ⟨rfl, hb1.trans (hb5.mono hb1.size)⟩
  · obtain ⟨hsum, hst⟩ := HBk.out o x (by simp)
    have hl1 := HL1.out
    simp only [List.concat_eq_append, List.length_append, List.length_cons, List.length_nil, Nat.zero_add] at HC hCl
    go_upto_region 6 with (go_at_call 29; refine HC.out.mono ?_; rintro e w1 ⟨A1, c1, rfl, ho1, hb1⟩)
    obtain ⟨g1, rfl, hg1, hlg1, hc1⟩ := own_is ho1 (by omega)
    have x1 := hc1 o.length (by simp)
    have x1e : (o ++ [x]).getD o.length 0 = x := by rw [getD_get _ _ _ (by simp), List.getElem_concat_length rfl]
    rw [x1e] at x1
    have HO1 := Lib.hid ho1
    have HX1 := Lib.hid hc1
    have hcap1 := ho1.cap
    have vS : (M : Int) - (x : Int) = ((o.sum : Nat) : Int) := by omega
    have hSM : o.sum ≤ M := by omega
    clear hc1 ho1 x1e HC HBk
    have HT := Lib.hid (HB1.out.take o.sum hSM)
    have HTj := Lib.hid (HJ.out (l1.take o.sum) q1 o hst)
    have HTl := Lib.hid (HB1.out.take o.sum hSM).1
    clear hst
    generalize l1.take o.sum = p at *
    generalize hS : o.sum = S at *
    clear hS HL1 hl1 hsum
    go_upto_region 14 with (first
      | (at_builtin; refine wpList_app rfl (.tmp 39) (.tmp 42) 22 rfl 5 1 Try.underlying22 info5 rfl (by omega) rfl (Own.nil_ _ w1.heap.size 5 1) rfl (HT.out.below hb1 (Nat.le_refl _)).2.2.2 (by simpa using HTl.out) (bvs_oneCell _) (by omega) (by omega) (Nat.le_refl _) ?_; intro A2 c2 w2 ho2 hg2 _; rw [Nat.zero_add, List.nil_append] at ho2; rw [Nat.zero_add]; have b2 : Below w1.heap.size w1 w2 := below_own (Below.refl _ _) (Own.nil_ _ w1.heap.size 5 1) hg2 (Nat.le_refl _) (Nat.le_refl _))
      | (at_builtin; refine wpList_app rfl (.tmp 44) (.tmp 45) 22 rfl 5 1 Try.underlying22 info5 rfl (by omega) rfl ho2 rfl (HB2.out.below (hb1.trans (b2.mono hb1.size)) (Nat.le_refl _)).2.2.2 (by simpa using HB2.out.1) (bvs_oneCell _) (by omega) (by omega) b2.size ?_; intro A3 c3 w3 ho3 hg3 _; have b3 : Below w1.heap.size w1 w3 := below_own b2 ho2 hg3 (Nat.le_refl _) b2.size))
    rw [← bvs_append] at ho3
    have q3 := own_bs ho3
    have hb3 := hb1.trans (b3.mono hb1.size)
    have o1 := HO1.out.below b3 (Nat.le_refl _)
    have hcap3 := ho3.cap
    have HQ := Lib.hid q3
    have HO3 := Lib.hid o1
    clear q3 o1 ho3 hg3 ho2 hg2 HO1 HX1 x1 HT HTl
    have HT5 := Lib.hid (fun W (hW : Below w.heap.size w W) => cut_any (HB2.out.below hW (Nat.le_refl _)) (show K ≤ 1099511627776 by omega))
    have HC3 := Lib.hid (cut_any HQ.out (by omega))
    rw [HTj.out] at HC3
    have hTl : (cuts q1).length ≤ K := by rw [← HB2.out.1]; exact length_cuts q1
    generalize cuts q1 = T at *
    clear HTj HJ
    rw [List.length_append] at HC3
    go_upto_region 15 with (go_at_call 29; refine HC3.out.mono ?_; rintro e w4 ⟨A4, c4, rfl, ho4, hb4⟩)
    have hb34 := hb3.trans (hb4.mono hb3.size)
    have HO4 := Lib.hid ho4
    go_upto_region 16 with (go_at_call 29; refine (HT5.out _ hb34).mono ?_; rintro e w5 ⟨A5, c5, rfl, ho5, hb5⟩)
    have hb35 := hb34.trans (hb5.mono hb34.size)
    have o1 := (HO3.out.below hb4 (Nat.le_refl _)).below hb5 (Nat.le_refl _)
    have o4 := HO4.out.below hb5 (Nat.le_refl _)
    have hnT := ho5.cap
    have hn4 := o4.cap
    have hn1 := o1.cap
    have HX1 := Lib.hid o1
    have HX4 := Lib.hid o4
    have HX5 := Lib.hid ho5
    have H35 := Lib.hid hb35
    clear o1 o4 ho5 hb35 hb34 hb5 hb4 HO4 HO3 ho4 HC3 HT5 HQ hb3 b3 b2 hb1 HB1 HB2
    go_wp2
    go_loopw [10, 11] (fun s10 s11 wr => ∃ i : Nat, i ≤ o.length + T.length ∧ s10 = .int .i64 i ∧ ∃ q, wr = w5.drewN q) (fun s10 _ _ => o.length + T.length - (intOf s10).toNat)
    case atStart => exact ⟨0, Nat.zero_le _, rfl, 0, rfl⟩
    case round =>
      obtain ⟨i, hi, rfl, z, rfl⟩ := hrel
      by_cases hlt : i < o.length + T.length
      · obtain ⟨g4, rfl, _, _, hc4⟩ := own_is HX4.out (by omega)
        have y4 := hc4 i (by rw [List.length_append]; exact hlt)
        obtain ⟨g1', e1', _, _, hc1⟩ := own_is HX1.out (by omega)
        injection e1' with e1'
        injection e1' with e1'
        subst e1'
        have hltI : (i : Int) < (o.length : Int) + (T.length : Int) := by omega
        clear hc4
        by_cases ho : i < o.length
        · have y1 := hc1 i (by rw [List.length_append]; omega)
          rw [getD_left ho] at y1 y4
          clear hc1
          generalize o.getD i 0 = y at *
          go_wp2
          go_roundw
          case rel => exact ⟨i + 1, by omega, by go_num, _, rfl⟩
          case measure => simp [intOf]; omega
        · obtain ⟨j, hj⟩ : ∃ j, i = o.length + j := ⟨i - o.length, by omega⟩
          have hjT : j < T.length := by omega
          obtain ⟨g5, rfl, _, _, hc5⟩ := own_is HX5.out (by omega)
          have y5 := hc5 j hjT
          have e4 : (o ++ T).getD i 0 = T.getD j 0 := by rw [hj]; exact getD_right hjT
          rw [e4] at y4
          clear hc5 hc1 e4
          generalize T.getD j 0 = y at *
          have v1 : ((i : Int) - ((o.length : Int) + 1) + 1) = (j : Int) := by omega
          have HJ := Lib.hid hj
          clear hj
          go_wp2
          go_roundw
          case rel => exact ⟨i + 1, by omega, by go_num, _, rfl⟩
          case measure => simp [intOf]; omega
      · go_wp2_with (go_at_call 31; refine (clives_any _).mono ?_; rintro e w6 ⟨rfl, hb6⟩)
        go_ret
        exact ⟨rfl, (below_drewN H35.out z).trans (hb6.mono H35.out.size)⟩
end Go.Proofs.Ytgfmpgflbphpcaa
