/- The statements of layer 5: their own example; each one's walk. -/
import Derived.Test.YtgfmpgflbphpcaaRef2
import Derived.ChangeKeysEq
import Derived.Laws.StructEq
namespace Go.Proofs.Ytgfmpgflbphpcaa
open Go.RowKit

theorem sha_abc : (sha [97, 98, 99]).getD 0 0 = 186 ∧ (sha [97, 98, 99]).getD 1 0 = 120 ∧ (sha [97, 98, 99]).getD 2 0 = 22 ∧ (sha [97, 98, 99]).getD 3 0 = 191 := by decide +kernel
theorem crc_nine : crc [49, 50, 51, 52, 53, 54, 55, 56, 57] = 3808858755 := by decide +kernel

set_option maxRecDepth 100000 in
set_option maxHeartbeats 1000000 in
theorem slives_any (w : World) : Calls Try.prog 17 #[] w fun e w' => e = .returned (.bool true) ∧ Below w.heap.size w w' := by
  have z41 := zero41
  have kc1 := fun w => Lib.run_convert_bytes_const (P := Try.prog) w 22 5 #[.int .u8 97, .int .u8 98, .int .u8 99] 3 3 Try.underlying22 Try.underlying5
  have kc2 := fun w => Lib.run_convert_bytes_const (P := Try.prog) w 22 5 #[.int .u8 49, .int .u8 50, .int .u8 51, .int .u8 52, .int .u8 53, .int .u8 54, .int .u8 55, .int .u8 56, .int .u8 57] 9 9 Try.underlying22 Try.underlying5
  have HA : Hid (∀ fr, Bs (w.alloc (.cells #[.int .u8 97, .int .u8 98, .int .u8 99] 5 fr)) 0 (some ⟨w.heap.size, 0, none⟩) 3 3 [97, 98, 99]) := fun fr => bs_const 5 [97, 98, 99] fr rfl (by omega)
  have HC : Hid (∀ (V : World) fr, Bs (V.alloc (.cells #[.int .u8 49, .int .u8 50, .int .u8 51, .int .u8 52, .int .u8 53, .int .u8 54, .int .u8 55, .int .u8 56, .int .u8 57] 5 fr)) 0 (some ⟨V.heap.size, 0, none⟩) 9 9 [49, 50, 51, 52, 53, 54, 55, 56, 57]) := fun V fr => bs_const 5 [49, 50, 51, 52, 53, 54, 55, 56, 57] fr rfl (by omega)
  go_enter Try.func17, Try.ntmps17
  go_upto_region 2 with (first
    | (go_at_call 18; refine (sha_any (HA.out _) (by omega)).mono ?_; rintro e w1 ⟨rfl, hb1⟩)
    | (((with_reducible refine row_set (o := ⟨none, _, _, _, _, _⟩) ?_ ?_ 26 (.tmp 1) (.tmp 4) ?_ w1.heap.size ?_ (bvs (sha [97, 98, 99])) ?_ 26 (zeros 32) ?_ ?_ ?_ ?_ ?_); rfl; rfl; rfl; rfl; rfl; exact Blk.new _ _ _; (rw [size41]; simp [length_sha]); (simp [length_sha, zeros]); exact bvs_oneCell _; (intro w9 X9 g9))))
  have b1 : Below w.heap.size w w1 := ((Below.refl _ _).alloc (Nat.le_refl _) _).trans (hb1.mono (by simp))
  refine wp_world (fun V => Below w.heap.size w V ∧ Blk V w1.heap.size 26 (bvs (sha [97, 98, 99]))) ⟨(b1.alloc b1.size _).grown g9 (by have := b1.size; simp; omega) (by intro k hk; have := b1.size; simp at hk; omega), X9.out⟩ ?_
  have hz1 := b1.size
  clear hb1 g9 X9 b1 HA kc1 z41
  generalize w1.heap.size = gS at *
  rintro V ⟨hV, hS⟩
  obtain ⟨e0, e1, e2, e3⟩ := sha_abc
  have hl := Lib.hid (length_sha [97, 98, 99])
  have hcs : Hid (∀ W, Blk W gS 26 (bvs (sha [97, 98, 99])) → W.cell? ⟨gS, 0, none⟩ = some (.int .u8 186) ∧ W.cell? ⟨gS, 1, none⟩ = some (.int .u8 120) ∧ W.cell? ⟨gS, 2, none⟩ = some (.int .u8 22) ∧ W.cell? ⟨gS, 3, none⟩ = some (.int .u8 191)) := fun W hW => by
    have hb := hW.bs0 0 32 32 (Nat.zero_le _) (by omega) (by omega) hl.out
    have c0 := hb.cell 0 (by omega)
    have c1 := hb.cell 1 (by omega)
    have c2 := hb.cell 2 (by omega)
    have c3 := hb.cell 3 (by omega)
    rw [e0] at c0
    rw [e1] at c1
    rw [e2] at c2
    rw [e3] at c3
    exact ⟨c0, c1, c2, c3⟩
  clear e0 e1 e2 e3 hl
  obtain ⟨c0, c1, c2, c3⟩ := hcs.out _ (hS.alloc (.cells #[.int .u8 49, .int .u8 50, .int .u8 51, .int .u8 52, .int .u8 53, .int .u8 54, .int .u8 55, .int .u8 56, .int .u8 57] 5 (9, 10)))
  have HS := Lib.hid hS
  clear hS
  go_wp2_with (go_at_call 15; refine (scrc_any (HC.out V _)).mono ?_; rintro e w2 ⟨rfl, rfl⟩)
  go_ret
  exact ⟨rfl, hV.alloc hV.size _⟩

theorem run_part5 (w : World) (l : List UInt8) (i : Nat) (hi : i < l.length) : (part 5 (bvs l).toArray i).run Try.prog w = .ok (bv l[i]) w := by
  have e : (bvs l).toArray[i]? = some (bv l[i]) := by simp [bvs, List.getElem?_eq_getElem hi]
  simp [part, go_sem, isAgg, run_underlying Try.underlying5, e]
theorem run_items_same (w : World) (d : Nat) (l : List UInt8) : ∀ is : List Nat, (∀ i ∈ is, i < l.length) → (Op.eqItems (d + 1) 5 (Try.prog.cellsOf 5) (bvs l).toArray (bvs l).toArray is).run Try.prog w = .ok true w
  | [], _ => by simp [Op.eqItems]
  | i :: is, h => by
    have h1 := run_part5 w l i (h i (by simp))
    have h2 := run_items_same w d l is (fun j hj => h j (by simp [hj]))
    have h3 := run_equalIn_int (P := Try.prog) w d 5 .u8 .u8 (l[i]'(h i (by simp))).toNat (l[i]'(h i (by simp))).toNat Try.underlying5
    have c5 : Try.prog.cellsOf 5 = 1 := by kernel_rfl
    simp only [c5] at h2 ⊢
    simp only [Op.eqItems, Nat.mul_one, Sem.run_bind, h1, Result.andThen_ok, bv, h3]
    simp [h2]
theorem run_eql_same (w : World) (l : List UInt8) (h : l.length = 32) : (binOp .eql 26 (.agg (bvs l).toArray) (.agg (bvs l).toArray)).run Try.prog w = .ok (.bool true) w := by
  obtain ⟨i0, hi0, _, hsz, _⟩ := info_parts info5
  rw [run_eql_struct, show (10000 : Nat) = 9998 + 1 + 1 from rfl, run_equalIn_array w (9998 + 1) _ _ Try.underlying26 hi0, run_items_same w 9998 l (List.range 32) (fun i hi => by rw [h]; simpa using hi)]
  rfl

theorem sumsCrc_small {A : Option Addr} {m c lo : Nat} {l : List UInt8} {w : World} (hb : Bs w lo A m c l) (hm : m ≤ 65536) :
    Calls Try.prog 3 #[.slice A m c] w fun e w' => e = .returned (.bool true) ∧ Below w.heap.size w w' := by
  have HB := Lib.hid hb
  clear hb
  go_enter Try.func3, Try.ntmps3
  go_wp2_with (first
    | (go_at_call 15; refine (scrc_any HB.out).mono ?_; rintro e w2 ⟨rfl, rfl⟩)
    | (go_at_call 16; refine (rcrc_any HB.out).mono ?_; rintro e w2 ⟨rfl, rfl⟩)
    | (go_at_call 17; refine (slives_any _).mono ?_; rintro e w3 ⟨rfl, hb3⟩))
  go_ret
  exact ⟨rfl, hb3⟩
theorem sumsCrc_any {A : Option Addr} {m c lo : Nat} {l : List UInt8} {w : World} (hb : Bs w lo A m c l) :
    Calls Try.prog 3 #[.slice A m c] w fun e w' => e = .returned (.bool true) ∧ Below w.heap.size w w' := by
  by_cases hm : m ≤ 65536
  · exact sumsCrc_small hb hm
  · have HB := Lib.hid (hb.take 65536 (by omega))
    have hc := hb.2.1
    have hc2 := hb.2.2.1
    have hm2 : 65536 < m := by omega
    clear hb hm
    go_enter Try.func3, Try.ntmps3
    go_wp2_with (first
      | (go_at_call 15; refine (scrc_any HB.out).mono ?_; rintro e w2 ⟨rfl, rfl⟩)
      | (go_at_call 16; refine (rcrc_any HB.out).mono ?_; rintro e w2 ⟨rfl, rfl⟩)
      | (go_at_call 17; refine (slives_any _).mono ?_; rintro e w3 ⟨rfl, hb3⟩))
    go_ret
    exact ⟨rfl, hb3⟩

theorem sumsSha_small {A : Option Addr} {m c lo : Nat} {l : List UInt8} {w : World} (hb : Bs w lo A m c l) (hm : m ≤ 65536) :
    Calls Try.prog 4 #[.slice A m c] w fun e w' => e = .returned (.bool true) ∧ Below w.heap.size w w' := by
  have HB := Lib.hid hb
  have eg : Try.prog.eqGuardType Try.prog.depth 26 = false := by kernel_rfl
  have qe := fun w => run_eql_same w (sha l) (length_sha l)
  clear hb
  go_enter Try.func4, Try.ntmps4
  go_wp2_with (first
    | (go_at_call 18; refine (sha_any HB.out (by omega)).mono ?_; rintro e w2 ⟨rfl, hb2⟩)
    | (go_at_call 19; refine (rsha_any (HB.out.below hb2 (Nat.le_refl _)) (by omega)).mono ?_; rintro e w3 ⟨rfl, hb3⟩)
    | (go_at_call 17; refine (slives_any _).mono ?_; rintro e w4 ⟨rfl, hb4⟩))
  go_ret
  exact ⟨rfl, (hb2.trans (hb3.mono hb2.size)).trans (hb4.mono (Nat.le_trans hb2.size hb3.size))⟩
theorem sumsSha_any {A : Option Addr} {m c lo : Nat} {l : List UInt8} {w : World} (hb : Bs w lo A m c l) :
    Calls Try.prog 4 #[.slice A m c] w fun e w' => e = .returned (.bool true) ∧ Below w.heap.size w w' := by
  by_cases hm : m ≤ 65536
  · exact sumsSha_small hb hm
  · have HB := Lib.hid (hb.take 65536 (by omega))
    have hc := hb.2.1
    have hc2 := hb.2.2.1
    have hm2 : 65536 < m := by omega
    have eg : Try.prog.eqGuardType Try.prog.depth 26 = false := by kernel_rfl
    have qe := fun w => run_eql_same w (sha (l.take 65536)) (length_sha _)
    clear hb hm
    generalize l.take 65536 = l at *
    go_enter Try.func4, Try.ntmps4
    go_wp2_with (first
      | (go_at_call 18; refine (sha_any HB.out (by omega)).mono ?_; rintro e w2 ⟨rfl, hb2⟩)
      | (go_at_call 19; refine (rsha_any (HB.out.below hb2 (Nat.le_refl _)) (by omega)).mono ?_; rintro e w3 ⟨rfl, hb3⟩)
      | (go_at_call 17; refine (slives_any _).mono ?_; rintro e w4 ⟨rfl, hb4⟩))
    go_ret
    exact ⟨rfl, (hb2.trans (hb3.mono hb2.size)).trans (hb4.mono (Nat.le_trans hb2.size hb3.size))⟩
end Go.Proofs.Ytgfmpgflbphpcaa
