/- cut.Cut: the chunks' lengths. -/
import Derived.Test.YtgfmpgflbphpcaaCut1
namespace Go.Proofs.Ytgfmpgflbphpcaa
open Go.RowKit

theorem mark_u32 (mk g : Nat) : ((mk : Int) * 2 % 4294967296 + g) % 4294967296 = (((2 * mk + g) % 4294967296 : Nat) : Int) := by omega
theorem bne_of {a b : Int} (h : ¬ a = b) : (a == b) = false := beq_eq_false_iff_ne.2 h

set_option maxRecDepth 100000 in
set_option maxHeartbeats 2000000 in
theorem cut_any {A : Option Addr} {m c lo : Nat} {l : List UInt8} {w : World} (hb : Bs w lo A m c l) (hm : m ≤ 1099511627776) :
    Calls Try.prog 29 #[.slice A m c] w fun e w' => ∃ A' c', e = .returned (.slice A' (cuts l).length c') ∧ Own w' w.heap.size 3 1 A' (cuts l).length c' (is (cuts l)) ∧ Below w.heap.size w w' := by
  have z64 := zero64
  have HB := Lib.hid hb
  have HL := Lib.hid hb.1
  clear hb
  go_enter Try.func29, Try.ntmps29
  go_upto_region 2 with (first
    | (go_at_call 48; refine (gears_any HB.out).mono ?_; rintro e w1 ⟨rfl, hb1⟩)
    | (((with_reducible refine row_set (o := ⟨none, _, _, _, _, _⟩) ?_ ?_ 64 (.tmp 3) (.tmp 10) ?_ w1.heap.size ?_ (us (tab l)) ?_ 64 (zu 256) ?_ ?_ ?_ ?_ ?_); rfl; rfl; rfl; rfl; rfl; exact Blk.new _ _ _; (rw [size64]; simp [length_us, length_tab]); (simp [length_us, length_tab, zu]); exact us_oneCell _; (intro w9 X9 g9))))
  refine wp_world (fun V => Blk V w1.heap.size 64 (us (tab l)) ∧ Below w.heap.size w V) ⟨X9.out, (hb1.alloc hb1.size _).grown g9 (by have := hb1.size; simp; omega) (by intro k hk; have := hb1.size; simp at hk; omega)⟩ ?_
  have hgT : w.heap.size ≤ w1.heap.size := hb1.size
  clear X9 g9 hb1
  generalize w1.heap.size = gT at *
  rintro V ⟨hT, hV⟩
  go_wp2
  go_loopw [4, 5, 6, 13] (fun s4 s5 s6 s13 wr => ∃ (k : Nat) (A4 : Option Addr) (c4 : Nat), k ≤ m ∧ s13 = .int .i64 k ∧ s5 = .int .u32 ((cutR (l.take k)).mark : Nat) ∧ s6 = .int .i64 ((cutR (l.take k)).n : Nat) ∧ s4 = .slice A4 (cutR (l.take k)).out.length c4 ∧ Own wr (gT + 1) 3 1 A4 (cutR (l.take k)).out.length c4 (is (cutR (l.take k)).out) ∧ Blk wr gT 64 (us (tab l)) ∧ Below w.heap.size w wr)
    (fun _ _ _ s13 _ => m - (intOf s13).toNat)
  case atStart => exact ⟨0, none, 0, Nat.zero_le _, rfl, rfl, rfl, rfl, Own.nil_ _ _ _ _, hT, hV⟩
  case round =>
    clear hT hV
    obtain ⟨k, A4, c4, hk, rfl, rfl, rfl, rfl, ho, hT, hV⟩ := hrel
    have hn := cutR_n (l.take k)
    have hmk := cutR_mark (l.take k)
    have hol := length_cutR (l.take k)
    have hlk : (l.take k).length ≤ k := List.length_take_le _ _
    by_cases hlt : k < m
    · obtain ⟨b, o, rfl, _, hlb⟩ := HB.out.at_ (by omega)
      have cd := (HB.out.below hV (Nat.le_refl _)).cell k hlt
      have HC := Lib.hid (cutR_snoc l k (by have := HL.out; omega))
      have hin : l.getD k 0 ∈ l := by
        rw [List.getD_eq_getElem?_getD, List.getElem?_eq_getElem (by have := HL.out; omega)]
        exact List.getElem_mem _
      have ct := (hT.cell (l.getD k 0).toNat).trans (us_tab_get l (l.getD k 0))
      rw [if_pos hin] at ct
      clear hin
      generalize l.getD k 0 = y at *
      have hy := y.toNat_lt
      have hg := gearN_lt y
      have y256 : (y.toNat : Int) < 256 := by omega
      generalize hs : cutR (l.take k) = s at *
      obtain ⟨out, mk, n⟩ := s
      simp only at *
      clear hs
      have HB' : Hid (cutB ⟨out, mk, n⟩ y = if isCut ((2 * mk + gearN y) % 4294967296) (n + 1) then ⟨out ++ [n + 1], 0, 0⟩ else ⟨out, (2 * mk + gearN y) % 4294967296, n + 1⟩) := rfl
      generalize gearN y = g at *
      have hol2 : out.length ≤ k := Nat.le_trans hol hlk
      have HO := Lib.hid ho
      have HT := Lib.hid (And.intro hT hV)
      have hz : gT < wr.heap.size := hT.lt
      clear ho hol hlk hT hV
      go_upto_region 9 with fail
      rw [mark_u32 mk g]
      have hmk2 : (2 * mk + g) % 4294967296 < 4294967296 := Nat.mod_lt _ (by omega)
      generalize (2 * mk + g) % 4294967296 = mk2 at *
      clear ct cd
      by_cases h1 : n + 1 = 512
      · have e1 : ((n : Int) + 1 == 512) = true := beq_iff_eq.2 (by omega)
        rw [show isCut mk2 (n + 1) = true by simp [isCut, h1], if_pos rfl] at HB'
        clear h1
        go_wp2_with (at_builtin; refine wpList_app rfl (.tmp 36) (.tmp 38) 41 rfl 3 1 Try.underlying41 info3 rfl (by omega) rfl (HO.out.alloc _) rfl (rd_one _ _ rfl) rfl (one_int _ _) (by omega) (by omega) (by simp; omega) ?_; intro A5 c5 w5 ho5 hg5 _)
        have hE := HC.out.trans HB'.out
        rw [show (n : Int) + 1 = ((n + 1 : Nat) : Int) by omega, is_snoc] at ho5
        refine ⟨⟨k + 1, A5, c5, by omega, by go_num, by rw [hE]; rfl, by rw [hE]; rfl, by rw [hE]; simp, by rw [hE]; simpa using ho5, (HT.out.1.alloc _).grown hg5 (own_ne HO.out (Nat.lt_succ_self _)), below_own (HT.out.2.alloc HT.out.2.size _) (HO.out.alloc _) hg5 (by omega) (by have := HT.out.2.size; simp; omega)⟩, by simp [intOf]; omega⟩
      · have e1 : ((n : Int) + 1 == 512) = false := bne_of (by omega)
        by_cases h2 : 64 ≤ n + 1
        · have e2 : decide ((64 : Int) ≤ (n : Int) + 1) = true := decide_eq_true (by omega)
          by_cases h3 : mk2 % 128 = 0
          · have e3 : ((mk2 : Int) % 128 == 0) = true := beq_iff_eq.2 (by omega)
            rw [show isCut mk2 (n + 1) = true by simp [isCut, h2, h3], if_pos rfl] at HB'
            clear h1 h2 h3
            go_wp2_with (at_builtin; refine wpList_app rfl (.tmp 36) (.tmp 38) 41 rfl 3 1 Try.underlying41 info3 rfl (by omega) rfl (HO.out.alloc _) rfl (rd_one _ _ rfl) rfl (one_int _ _) (by omega) (by omega) (by simp; omega) ?_; intro A5 c5 w5 ho5 hg5 _)
            have hE := HC.out.trans HB'.out
            rw [show (n : Int) + 1 = ((n + 1 : Nat) : Int) by omega, is_snoc] at ho5
            refine ⟨⟨k + 1, A5, c5, by omega, by go_num, by rw [hE]; rfl, by rw [hE]; rfl, by rw [hE]; simp, by rw [hE]; simpa using ho5, (HT.out.1.alloc _).grown hg5 (own_ne HO.out (Nat.lt_succ_self _)), below_own (HT.out.2.alloc HT.out.2.size _) (HO.out.alloc _) hg5 (by omega) (by have := HT.out.2.size; simp; omega)⟩, by simp [intOf]; omega⟩
          · have e3 : ((mk2 : Int) % 128 == 0) = false := bne_of (by omega)
            rw [show isCut mk2 (n + 1) = false by simp [isCut, h3]; omega, if_neg (by simp)] at HB'
            clear h1 h2 h3
            go_wp2
            have hE := HC.out.trans HB'.out
            exact ⟨⟨k + 1, A4, c4, by omega, by go_num, by rw [hE], by rw [hE]; go_num, by rw [hE], by rw [hE]; exact HO.out, HT.out.1, HT.out.2⟩, by simp [intOf]; omega⟩
        · have e2 : decide ((64 : Int) ≤ (n : Int) + 1) = false := decide_eq_false (by omega)
          rw [show isCut mk2 (n + 1) = false by simp [isCut]; omega, if_neg (by simp)] at HB'
          clear h1 h2
          go_wp2
          have hE := HC.out.trans HB'.out
          exact ⟨⟨k + 1, A4, c4, by omega, by go_num, by rw [hE], by rw [hE]; go_num, by rw [hE], by rw [hE]; exact HO.out, HT.out.1, HT.out.2⟩, by simp [intOf]; omega⟩
    · obtain rfl : k = m := by omega
      rw [List.take_of_length_le (by have := HL.out; omega)] at ho hn hmk hol hlk
      have hol2 : (cutR l).out.length ≤ k := by have := HL.out; omega
      have hcu : Hid (cuts l = if 0 < (cutR l).n then (cutR l).out ++ [(cutR l).n] else (cutR l).out) := rfl
      rw [List.take_of_length_le (by have := HL.out; omega)]
      clear hol hlk
      generalize cutR l = s at *
      obtain ⟨out, mk, n⟩ := s
      simp only at *
      have HO := Lib.hid ho
      clear ho
      by_cases h0 : 0 < n
      · rw [if_pos h0] at hcu
        have hz : gT < wr.heap.size := hT.lt
        go_wp2_with (at_builtin; refine wpList_app rfl (.tmp 43) (.tmp 45) 41 rfl 3 1 Try.underlying41 info3 rfl (by omega) rfl (HO.out.alloc _) rfl (rd_one _ _ rfl) rfl (one_int _ _) (by omega) (by omega) (by simp; omega) ?_; intro A5 c5 w5 ho5 hg5 _)
        go_ret
        rw [is_snoc] at ho5
        rw [hcu.out]
        exact ⟨A5, c5, by simp, by simpa using ho5.weak (by omega), below_own (hV.alloc hV.size _) (HO.out.alloc _) hg5 (by omega) (by have := hV.size; simp; omega)⟩
      · rw [if_neg h0] at hcu
        go_wp2
        go_ret
        rw [hcu.out]
        exact ⟨A4, c4, rfl, HO.out.weak (by omega), hV⟩
end Go.Proofs.Ytgfmpgflbphpcaa
