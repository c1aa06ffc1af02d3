/- kistref07.Cut: the document's chunks. -/
import Derived.Test.YtgfmpgflbphpcaaCut2
namespace Go.Proofs.Ytgfmpgflbphpcaa
open Go.RowKit

theorem is_tab_get (l : List UInt8) (b : UInt8) : (is (tab l))[b.toNat]? = some (.int .i64 ((if b ∈ l then gearN b else 0 : Nat) : Int)) := by
  have h := b.toNat_lt
  rw [List.getElem?_eq_getElem (by rw [length_is, length_tab]; exact h), is_get, tab_get]
theorem is_set (l : List Nat) (i x : Nat) : (is l).set i (.int .i64 (x : Int)) = is (l.set i x) := by simp [is, List.map_set]

theorem make41 (w : World) : (Instr.makeSlice 41 (.int .i64 256) (.int .i64 256)).run Try.prog w = .ok (.slice (some ⟨w.heap.size, 0, none⟩) 256 256) (w.alloc (.cells (is (List.replicate 256 0)).toArray 3)) := by kernel_rfl
theorem cell_far {w : World} {p : Addr} {u v : Value} {b o : Nat} (hc : w.cell? ⟨b, o, none⟩ = some v) (hne : b ≠ p.block) : (w.setCell p u).cell? ⟨b, o, none⟩ = some v :=
  (World.cell?_of_block (Below.heap_setCell w p u b hne)).trans hc
theorem mark_i64 (mk g : Nat) : (2 * (mk : Int) + g) % 4294967296 = (((2 * mk + g) % 4294967296 : Nat) : Int) := by omega

set_option maxRecDepth 100000 in
set_option maxHeartbeats 2000000 in
theorem rcut_any {A : Option Addr} {m c lo : Nat} {l : List UInt8} {w : World} (hb : Bs w lo A m c l) (hm : m ≤ 1099511627776) :
    Calls Try.prog 30 #[.slice A m c] w fun e w' => ∃ A' c', e = .returned (.slice A' (cuts l).length c') ∧ Own w' w.heap.size 3 1 A' (cuts l).length c' (is (cuts l)) ∧ Below w.heap.size w w' := by
  have hmk := make41
  have HB := Lib.hid hb
  have HL := Lib.hid hb.1
  clear hb
  go_enter Try.func30, Try.ntmps30
  go_wp2
  clear hmk
  go_loopw [4] (fun s4 wr => ∃ k : Nat, k ≤ m ∧ s4 = .int .i64 k ∧ Blk wr w.heap.size 3 (is (tab (l.take k))) ∧ Below w.heap.size w wr)
    (fun s4 _ => m - (intOf s4).toNat)
  case atStart => exact ⟨0, Nat.zero_le _, rfl, by rw [List.take_zero, tab_nil]; exact Blk.new _ _ _, (Below.refl _ _).alloc (Nat.le_refl _) _⟩
  case round =>
    obtain ⟨k, hk, rfl, hT, hV⟩ := hrel
    by_cases hlt : k < m
    · obtain ⟨b, o, rfl, _, hlb⟩ := HB.out.at_ (by omega)
      have cd := (HB.out.below hV (Nat.le_refl _)).cell k hlt
      have HTk := Lib.hid (show l.take (k + 1) = l.take k ++ [l.getD k 0] by
        rw [List.take_succ_eq_append_getElem (by have := HL.out; omega), List.getD_eq_getElem?_getD, List.getElem?_eq_getElem (by have := HL.out; omega)]; rfl)
      generalize l.getD k 0 = y at *
      have hy := y.toNat_lt
      have y256 : (y.toNat : Int) < 256 := by omega
      have kM : (k : Int) < (m : Int) := by omega
      have ct := (hT.cell y.toNat).trans (is_tab_get _ y)
      have ft := hT.frozen y.toNat
      have HH := Lib.hid (And.intro hT hV)
      have hz : w.heap.size < wr.heap.size := hT.lt
      clear hT hV
      generalize l.take k = q at *
      by_cases hv : (if y ∈ q then gearN y else 0) = 0
      · rw [hv] at ct
        clear hv
        go_upto_region 6 with fail
        go_region_held3 (fun w' => w'.cell? ⟨b, o + k, none⟩ = some (.int .u8 (y.toNat : Int))) (first | go_keep | (exact below_cell hb1 (by go_simp)) | (exact cell_far (by assumption) (by simp; omega)))
          ((go_at_call 33; refine (rgear_any y _).mono ?_; rintro e w1 ⟨rfl, hb1⟩; have hb2 : Below wr.heap.size wr w1 := ⟨hb1.os, hb1.tape, hb1.output, hb1.size, hb1.block⟩; have a1 := HH.out.1.below hb2 HH.out.1.lt; have c1 := a1.cell y.toNat; rw [is_tab_get] at c1; have f1 := a1.frozen y.toNat; have HA := Lib.hid a1; clear a1))
        all_goals
          go_wp2
          refine ⟨⟨k + 1, by omega, by go_num, ?_, ((HH.out.2.trans (hb2.mono HH.out.2.size)).setCell (Nat.le_refl _) _)⟩, by simp [intOf]; omega⟩
          have h1 := HA.out.set_ y.toNat (.int .i64 (gearN y : Nat))
          rw [is_set, tab_snoc, ← HTk.out] at h1
          exact h1
      · have HI : Hid (y ∈ q) := Lib.hid (by
          by_cases h : y ∈ q
          · exact h
          · exact absurd (if_neg h) hv)
        have e0 : (((if y ∈ q then gearN y else 0 : Nat) : Int) == 0) = false := bne_of (by omega)
        clear hv
        generalize (if y ∈ q then gearN y else 0) = v at *
        go_wp2
        exact ⟨⟨k + 1, by omega, by go_num, by rw [HTk.out, tab_same _ _ HI.out]; exact HH.out.1, HH.out.2⟩, by simp [intOf]; omega⟩
    · obtain rfl : k = m := by omega
      rw [List.take_of_length_le (by have := HL.out; omega)] at hT
      have hgT : w.heap.size ≤ w.heap.size := Nat.le_refl _
      obtain ⟨gT, hgE⟩ : ∃ gT, gT = w.heap.size := ⟨_, rfl⟩
      rw [← hgE] at hT
      have HgE := Lib.hid hgE
      have hgT2 : w.heap.size ≤ gT := by omega
      clear hgT
      go_wp2
      rw [← hgE]
      clear hgE hk hlt
      go_loopw [5, 6, 7, 8] (fun s4 s5 s6 s13 wr => ∃ (j : Nat) (A4 : Option Addr) (c4 : Nat), j ≤ k ∧ s13 = .int .i64 j ∧ s5 = .int .i64 ((cutR (l.take j)).mark : Nat) ∧ s6 = .int .i64 ((cutR (l.take j)).n : Nat) ∧ s4 = .slice A4 (cutR (l.take j)).out.length c4 ∧ Own wr (gT + 1) 3 1 A4 (cutR (l.take j)).out.length c4 (is (cutR (l.take j)).out) ∧ Blk wr gT 3 (is (tab l)) ∧ Below w.heap.size w wr)
        (fun _ _ _ s13 _ => k - (intOf s13).toNat)
      case atStart => exact ⟨0, none, 0, Nat.zero_le _, rfl, rfl, rfl, rfl, Own.nil_ _ _ _ _, hT, hV⟩
      case round =>
        clear hT hV
        obtain ⟨j, A4, c4, hk, rfl, rfl, rfl, rfl, ho, hT, hV⟩ := hrel
        have hn := cutR_n (l.take j)
        have hmk := cutR_mark (l.take j)
        have hol := length_cutR (l.take j)
        have hlk : (l.take j).length ≤ j := List.length_take_le _ _
        by_cases hlt : j < k
        · obtain ⟨b, o, rfl, _, hlb⟩ := HB.out.at_ (by omega)
          have cd := (HB.out.below hV (Nat.le_refl _)).cell j hlt
          have HC := Lib.hid (cutR_snoc l j (by have := HL.out; omega))
          have hin : l.getD j 0 ∈ l := by
            rw [List.getD_eq_getElem?_getD, List.getElem?_eq_getElem (by have := HL.out; omega)]
            exact List.getElem_mem _
          have ct := (hT.cell (l.getD j 0).toNat).trans (is_tab_get l (l.getD j 0))
          rw [if_pos hin] at ct
          clear hin
          generalize l.getD j 0 = y at *
          have hy := y.toNat_lt
          have hg := gearN_lt y
          have y256 : (y.toNat : Int) < 256 := by omega
          generalize hs : cutR (l.take j) = s at *
          obtain ⟨out, mk, n⟩ := s
          simp only at *
          clear hs
          have HB' : Hid (cutB ⟨out, mk, n⟩ y = if isCut ((2 * mk + gearN y) % 4294967296) (n + 1) then ⟨out ++ [n + 1], 0, 0⟩ else ⟨out, (2 * mk + gearN y) % 4294967296, n + 1⟩) := rfl
          generalize gearN y = g at *
          have hol2 : out.length ≤ j := Nat.le_trans hol hlk
          have HO := Lib.hid ho
          have HT := Lib.hid (And.intro hT hV)
          have hz : gT < wr.heap.size := hT.lt
          clear ho hol hlk hT hV
          go_upto_region 14 with fail
          rw [mark_i64 mk g]
          have hmk2 : (2 * mk + g) % 4294967296 < 4294967296 := Nat.mod_lt _ (by omega)
          generalize (2 * mk + g) % 4294967296 = mk2 at *
          clear ct cd
          by_cases h1 : n + 1 = 512
          · have e1 : ((n : Int) + 1 == 512) = true := beq_iff_eq.2 (by omega)
            rw [show isCut mk2 (n + 1) = true by simp [isCut, h1], if_pos rfl] at HB'
            clear h1
            go_wp2_with (at_builtin; refine wpList_app rfl (.tmp 65) (.tmp 67) 41 rfl 3 1 Try.underlying41 info3 rfl (by omega) rfl (HO.out.alloc _) rfl (rd_one _ _ rfl) rfl (one_int _ _) (by omega) (by omega) (by simp; omega) ?_; intro A5 c5 w5 ho5 hg5 _)
            have hE := HC.out.trans HB'.out
            rw [show (n : Int) + 1 = ((n + 1 : Nat) : Int) by omega, is_snoc] at ho5
            refine ⟨⟨j + 1, A5, c5, by omega, by go_num, by rw [hE]; rfl, by rw [hE]; rfl, by rw [hE]; simp, by rw [hE]; simpa using ho5, (HT.out.1.alloc _).grown hg5 (own_ne HO.out (Nat.lt_succ_self _)), below_own (HT.out.2.alloc HT.out.2.size _) (HO.out.alloc _) hg5 (by omega) (by have := HT.out.2.size; simp; omega)⟩, by simp [intOf]; omega⟩
          · have e1 : ((n : Int) + 1 == 512) = false := bne_of (by omega)
            by_cases h2 : 64 ≤ n + 1
            · have e2 : decide ((64 : Int) ≤ (n : Int) + 1) = true := decide_eq_true (by omega)
              by_cases h3 : mk2 % 128 = 0
              · have e3 : ((mk2 : Int) % 128 == 0) = true := beq_iff_eq.2 (by omega)
                rw [show isCut mk2 (n + 1) = true by simp [isCut, h2, h3], if_pos rfl] at HB'
                clear h1 h2 h3
                go_wp2_with (at_builtin; refine wpList_app rfl (.tmp 65) (.tmp 67) 41 rfl 3 1 Try.underlying41 info3 rfl (by omega) rfl (HO.out.alloc _) rfl (rd_one _ _ rfl) rfl (one_int _ _) (by omega) (by omega) (by simp; omega) ?_; intro A5 c5 w5 ho5 hg5 _)
                have hE := HC.out.trans HB'.out
                rw [show (n : Int) + 1 = ((n + 1 : Nat) : Int) by omega, is_snoc] at ho5
                refine ⟨⟨j + 1, A5, c5, by omega, by go_num, by rw [hE]; rfl, by rw [hE]; rfl, by rw [hE]; simp, by rw [hE]; simpa using ho5, (HT.out.1.alloc _).grown hg5 (own_ne HO.out (Nat.lt_succ_self _)), below_own (HT.out.2.alloc HT.out.2.size _) (HO.out.alloc _) hg5 (by omega) (by have := HT.out.2.size; simp; omega)⟩, by simp [intOf]; omega⟩
              · have e3 : ((mk2 : Int) % 128 == 0) = false := bne_of (by omega)
                rw [show isCut mk2 (n + 1) = false by simp [isCut, h3]; omega, if_neg (by simp)] at HB'
                clear h1 h2 h3
                go_wp2
                have hE := HC.out.trans HB'.out
                exact ⟨⟨j + 1, A4, c4, by omega, by go_num, by rw [hE], by rw [hE]; go_num, by rw [hE], by rw [hE]; exact HO.out, HT.out.1, HT.out.2⟩, by simp [intOf]; omega⟩
            · have e2 : decide ((64 : Int) ≤ (n : Int) + 1) = false := decide_eq_false (by omega)
              rw [show isCut mk2 (n + 1) = false by simp [isCut]; omega, if_neg (by simp)] at HB'
              clear h1 h2
              go_wp2
              have hE := HC.out.trans HB'.out
              exact ⟨⟨j + 1, A4, c4, by omega, by go_num, by rw [hE], by rw [hE]; go_num, by rw [hE], by rw [hE]; exact HO.out, HT.out.1, HT.out.2⟩, by simp [intOf]; omega⟩
        · obtain rfl : j = k := by omega
          rw [List.take_of_length_le (by have := HL.out; omega)] at ho hn hmk hol hlk
          have hol2 : (cutR l).out.length ≤ j := by have := HL.out; omega
          have hcu : Hid (cuts l = if 0 < (cutR l).n then (cutR l).out ++ [(cutR l).n] else (cutR l).out) := rfl
          rw [List.take_of_length_le (by have := HL.out; omega)]
          clear hol hlk
          generalize cutR l = s at *
          obtain ⟨out, mk, n⟩ := s
          simp only at *
          have HO := Lib.hid ho
          clear ho
          by_cases h0 : 0 < n
          · rw [if_pos h0] at hcu
            have hz : gT < wr.heap.size := hT.lt
            go_wp2_with (at_builtin; refine wpList_app rfl (.tmp 71) (.tmp 73) 41 rfl 3 1 Try.underlying41 info3 rfl (by omega) rfl (HO.out.alloc _) rfl (rd_one _ _ rfl) rfl (one_int _ _) (by omega) (by omega) (by simp; omega) ?_; intro A5 c5 w5 ho5 hg5 _)
            go_ret
            rw [is_snoc] at ho5
            rw [hcu.out]
            exact ⟨A5, c5, by simp, by simpa using ho5.weak (by omega), below_own (hV.alloc hV.size _) (HO.out.alloc _) hg5 (by omega) (by have := hV.size; simp; omega)⟩
          · rw [if_neg h0] at hcu
            go_wp2
            go_ret
            rw [hcu.out]
            exact ⟨A4, c4, rfl, HO.out.weak (by omega), hV⟩
end Go.Proofs.Ytgfmpgflbphpcaa
