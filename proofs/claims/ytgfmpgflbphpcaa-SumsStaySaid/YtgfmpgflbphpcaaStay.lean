/- The statement that what is handed to the sums stays: its walk. -/
import Derived.Test.YtgfmpgflbphpcaaSums
namespace Go.Proofs.Ytgfmpgflbphpcaa
open Go.RowKit

set_option maxRecDepth 100000 in
set_option maxHeartbeats 2000000 in
theorem sumsStay_small {A : Option Addr} {m c lo : Nat} {l : List UInt8} {w : World} (hb : Bs w lo A m c l) (hm : m ≤ 65536) :
    Calls Try.prog 6 #[.slice A m c] w fun e w' => e = .returned (.bool true) ∧ Below w.heap.size w w' := by
  have HB := Lib.hid hb
  clear hb
  have HL := Lib.hid HB.out.1
  go_enter Try.func6, Try.ntmps6
  go_upto_region 6 with (at_builtin; first
    | (refine wpList_app rfl (.tmp 10) (.tmp 11) 22 rfl 5 1 Try.underlying22 info5 rfl (by omega) rfl (Own.nil_ _ w.heap.size 5 1) rfl HB.out.2.2.2 (by simpa using HL.out) (bvs_oneCell _) (by omega) (by omega) (Nat.le_refl _) ?_; intro A1 c1 w1 ho1 hg1 _; rw [Nat.zero_add, List.nil_append] at ho1; rw [Nat.zero_add])
    | (refine wpList_app rfl (.tmp 13) (.tmp 14) 22 rfl 5 1 Try.underlying22 info5 rfl (by omega) rfl (ho1.alloc _) rfl ((Blk.new_at (cs := bvs [1, 2, 3]) rfl).rd0 (Nat.zero_le _)) rfl (bvs_oneCell _) (by omega) (by omega) (by have := hg1.size; simp; omega) ?_; intro A2 c2 w2 ho2 hg2 _; rw [← bvs_append] at ho2))
  have b1 : Below w.heap.size w w1 := below_own (Below.refl _ _) (Own.nil_ _ w.heap.size 5 1) hg1 (Nat.le_refl _) (Nat.le_refl _)
  have b2 := below_own (b1.alloc b1.size (.cells (bvs [1, 2, 3]).toArray 5)) (ho1.alloc _) hg2 (Nat.le_refl _) (by have := b1.size; simp; omega)
  clear hg1 hg2 ho1 b1
  obtain ⟨g2, rfl, hg2, hl2⟩ := ho2.head (by omega)
  have HO := Lib.hid (own_bs ho2)
  have HT := Lib.hid ((own_bs ho2).take m (by omega))
  have HC := Lib.hid ho2.cap
  have hcap := HC.out.1
  have hcap2 := HC.out.2
  clear ho2
  go_wp2_with (first
    | (go_at_call 18; refine (sha_any HT.out (by omega)).mono ?_; rintro e w3 ⟨rfl, hb3⟩)
    | (go_at_call 15; refine (scrc_any (HT.out.below hb3 (Nat.le_refl _))).mono ?_; rintro e w4 ⟨rfl, rfl⟩))
  have b3 := b2.trans (hb3.mono b2.size)
  have HO3 := Lib.hid (HO.out.below hb3 (Nat.le_refl _))
  clear hb3 b2
  go_loopw [4] (fun s4 wr => ∃ k : Nat, k ≤ m ∧ s4 = .int .i64 k ∧ ∃ q, wr = w3.drewN q) (fun s4 _ => m - (intOf s4).toNat)
  case atStart => exact ⟨0, Nat.zero_le _, rfl, 0, rfl⟩
  case round =>
    obtain ⟨k, hk, rfl, q, rfl⟩ := hrel
    by_cases hlt : k < m
    · obtain ⟨b, o, rfl, _, hlb⟩ := HB.out.at_ (by omega)
      have cd := (HB.out.below b3 (Nat.le_refl _)).cell k hlt
      have co := HO3.out.cell k (by omega)
      have HLk := Lib.hid (show (l ++ [1, 2, 3]).getD k 0 = l.getD k 0 by
        rw [List.getD_eq_getElem?_getD, List.getElem?_append_left (by have := HL.out; omega), ← List.getD_eq_getElem?_getD])
      rw [HLk.out, Nat.zero_add] at co
      generalize l.getD k 0 = y at *
      have kM : (k : Int) < (m : Int) := by omega
      have k3 : (k : Int) < (m : Int) + 3 := by omega
      go_wp2
      go_quiet (fail)
      go_wp2
      go_roundw
      case rel => exact ⟨k + 1, by omega, by go_num, _, rfl⟩
      case measure => simp [intOf]; omega
    · have hk2 : k = m := by omega
      have n0 := HO3.out.cell m (by omega)
      have n1 := HO3.out.cell (m + 1) (by omega)
      have n2 := HO3.out.cell (m + 2) (by omega)
      have hget : Hid (∀ j, j < 3 → (l ++ [1, 2, 3]).getD (m + j) 0 = ([1, 2, 3] : List UInt8).getD j 0) := fun j hj => by
        rw [List.getD_eq_getElem?_getD, List.getElem?_append_right (by have := HL.out; omega), show m + j - l.length = j by have := HL.out; omega, ← List.getD_eq_getElem?_getD]
      rw [show m = m + 0 from rfl, hget.out 0 (by omega)] at n0
      rw [hget.out 1 (by omega)] at n1
      rw [hget.out 2 (by omega)] at n2
      simp only [Nat.zero_add, Nat.add_zero] at n0 n1 n2
      clear hget
      go_wp2_with (go_at_call 17; refine (slives_any _).mono ?_; rintro e w5 ⟨rfl, hb5⟩)
      go_ret
      exact ⟨rfl, (below_drewN b3 q).trans (hb5.mono b3.size)⟩

set_option maxRecDepth 100000 in
set_option maxHeartbeats 2000000 in
theorem sumsStay_big {A : Option Addr} {m c lo : Nat} {l : List UInt8} {w : World} (hb : Bs w lo A m c l) (hm : 65536 < m) :
    Calls Try.prog 6 #[.slice A m c] w fun e w' => e = .returned (.bool true) ∧ Below w.heap.size w w' := by
  have hc1 := hb.2.1
  have hc2 := hb.2.2.1
  have HB := Lib.hid (hb.take 65536 (by omega))
  clear hb
  generalize l.take 65536 = l at *
  have HL := Lib.hid HB.out.1
  go_enter Try.func6, Try.ntmps6
  go_upto_region 6 with (at_builtin; first
    | (refine wpList_app rfl (.tmp 10) (.tmp 11) 22 rfl 5 1 Try.underlying22 info5 rfl (by omega) rfl (Own.nil_ _ w.heap.size 5 1) rfl HB.out.2.2.2 (by simpa using HL.out) (bvs_oneCell _) (by omega) (by omega) (Nat.le_refl _) ?_; intro A1 c1 w1 ho1 hg1 _; rw [Nat.zero_add, List.nil_append] at ho1; rw [Nat.zero_add])
    | (refine wpList_app rfl (.tmp 13) (.tmp 14) 22 rfl 5 1 Try.underlying22 info5 rfl (by omega) rfl (ho1.alloc _) rfl ((Blk.new_at (cs := bvs [1, 2, 3]) rfl).rd0 (Nat.zero_le _)) rfl (bvs_oneCell _) (by omega) (by omega) (by have := hg1.size; simp; omega) ?_; intro A2 c2 w2 ho2 hg2 _; rw [← bvs_append] at ho2))
  have b1 : Below w.heap.size w w1 := below_own (Below.refl _ _) (Own.nil_ _ w.heap.size 5 1) hg1 (Nat.le_refl _) (Nat.le_refl _)
  have b2 := below_own (b1.alloc b1.size (.cells (bvs [1, 2, 3]).toArray 5)) (ho1.alloc _) hg2 (Nat.le_refl _) (by have := b1.size; simp; omega)
  clear hg1 hg2 ho1 b1
  obtain ⟨g2, rfl, hg2, hl2⟩ := ho2.head (by omega)
  have HO := Lib.hid (own_bs ho2)
  have HT := Lib.hid ((own_bs ho2).take 65536 (by omega))
  have HC := Lib.hid ho2.cap
  have hcap := HC.out.1
  have hcap2 := HC.out.2
  clear ho2
  go_wp2_with (first
    | (go_at_call 18; refine (sha_any HT.out (by omega)).mono ?_; rintro e w3 ⟨rfl, hb3⟩)
    | (go_at_call 15; refine (scrc_any (HT.out.below hb3 (Nat.le_refl _))).mono ?_; rintro e w4 ⟨rfl, rfl⟩))
  have b3 := b2.trans (hb3.mono b2.size)
  have HO3 := Lib.hid (HO.out.below hb3 (Nat.le_refl _))
  clear hb3 b2
  go_loopw [4] (fun s4 wr => ∃ k : Nat, k ≤ 65536 ∧ s4 = .int .i64 k ∧ ∃ q, wr = w3.drewN q) (fun s4 _ => 65536 - (intOf s4).toNat)
  case atStart => exact ⟨0, Nat.zero_le _, rfl, 0, rfl⟩
  case round =>
    obtain ⟨k, hk, rfl, q, rfl⟩ := hrel
    by_cases hlt : k < 65536
    · obtain ⟨b, o, rfl, _, hlb⟩ := HB.out.at_ (by omega)
      have cd := (HB.out.below b3 (Nat.le_refl _)).cell k hlt
      have co := HO3.out.cell k (by omega)
      have HLk := Lib.hid (show (l ++ [1, 2, 3]).getD k 0 = l.getD k 0 by
        rw [List.getD_eq_getElem?_getD, List.getElem?_append_left (by have := HL.out; omega), ← List.getD_eq_getElem?_getD])
      rw [HLk.out, Nat.zero_add] at co
      generalize l.getD k 0 = y at *
      have kM : (k : Int) < (65536 : Int) := by omega
      have k3 : (k : Int) < (65536 : Int) + 3 := by omega
      go_wp2
      go_quiet (fail)
      go_wp2
      go_roundw
      case rel => exact ⟨k + 1, by omega, by go_num, _, rfl⟩
      case measure => simp [intOf]; omega
    · have hk2 : k = 65536 := by omega
      have n0 := HO3.out.cell 65536 (by omega)
      have n1 := HO3.out.cell (65536 + 1) (by omega)
      have n2 := HO3.out.cell (65536 + 2) (by omega)
      have hget : Hid (∀ j, j < 3 → (l ++ [1, 2, 3]).getD (65536 + j) 0 = ([1, 2, 3] : List UInt8).getD j 0) := fun j hj => by
        rw [List.getD_eq_getElem?_getD, List.getElem?_append_right (by have := HL.out; omega), show 65536 + j - l.length = j by have := HL.out; omega, ← List.getD_eq_getElem?_getD]
      rw [show 65536 = 65536 + 0 from rfl, hget.out 0 (by omega)] at n0
      rw [hget.out 1 (by omega)] at n1
      rw [hget.out 2 (by omega)] at n2
      simp only [Nat.zero_add, Nat.add_zero] at n0 n1 n2
      clear hget
      go_wp2_with (go_at_call 17; refine (slives_any _).mono ?_; rintro e w5 ⟨rfl, hb5⟩)
      go_ret
      exact ⟨rfl, (below_drewN b3 q).trans (hb5.mono b3.size)⟩

theorem sumsStay_any {A : Option Addr} {m c lo : Nat} {l : List UInt8} {w : World} (hb : Bs w lo A m c l) :
    Calls Try.prog 6 #[.slice A m c] w fun e w' => e = .returned (.bool true) ∧ Below w.heap.size w w' := by
  by_cases hm : m ≤ 65536
  · exact sumsStay_small hb hm
  · exact sumsStay_big hb (by omega)
end Go.Proofs.Ytgfmpgflbphpcaa
