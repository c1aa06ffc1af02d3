/- Deeds of layer 8: pick, bytes. No condition. -/
import Derived.Test.YtnclebnodkkgnaaDkPow
import Derived.Test.YtnclebnodkkgnaaDkCut
import Derived.Test.YtnclebnodkkgnaaMade
namespace Go.Proofs.Ytnclebnodkkgnaa
open Go.RowKit
set_option linter.unusedSimpArgs false
set_option linter.unusedVariables false

set_option maxRecDepth 4000 in
theorem pick8_any (c : Int) (hc : -9223372036854775808 ≤ c ∧ c ≤ 9223372036854775807) {n : Nat} (hn : 0 < n) (hn2 : n ≤ 9223372036854775807) (w : World) :
    Calls Try.prog 28 #[.int .i64 c, .int .i64 n] w fun e w' => e = .returned (.int .i64 (pickN c n)) ∧ w = w' := by
  by_cases h : c < 0
  · obtain ⟨k, hk⟩ : ∃ k : Nat, c = -(k : Int) - 1 := ⟨(-(c + 1)).toNat, by omega⟩
    have hp : pickN c n = k % n := by unfold pickN; rw [if_pos h]; congr 1; omega
    have HP := Lib.hid hp
    have e1 : IntKind.i64.wrap (c + 1) = -(k : Int) := by rw [IntWalk.i64_in _ (by omega)]; omega
    have e2 : IntKind.i64.wrap (-(-(k : Int))) = (k : Int) := by rw [IntWalk.i64_in _ (by omega)]; omega
    have e2b : wrap64 (k : Int) = (k : Int) := by unfold wrap64; omega
    have e3 : Int.tmod (k : Int) (n : Int) = ((k % n : Nat) : Int) := rfl
    have e4 : ¬ (n : Int) = 0 := by omega
    clear hp hk
    go_enter Try.func28, Try.ntmps28
    go_wp2
    go_ret
    exact ⟨by rw [HP.out]; rfl, rfl⟩
  · obtain ⟨k, rfl⟩ : ∃ k : Nat, c = (k : Int) := ⟨c.toNat, by omega⟩
    have hp : pickN (k : Int) n = k % n := by unfold pickN; rw [if_neg h]; congr 1
    have HP := Lib.hid hp
    have e3 : Int.tmod (k : Int) (n : Int) = ((k % n : Nat) : Int) := rfl
    have e4 : ¬ (n : Int) = 0 := by omega
    clear hp
    go_enter Try.func28, Try.ntmps28
    go_wp2
    go_ret
    exact ⟨by rw [HP.out]; rfl, rfl⟩

def deedN (at_ : Int) (sh : Bool) : Nat := if sh then pickN at_ 300 else 256
def deedB (at_ : Int) (fl la : UInt8) (sh : Bool) : List UInt8 := if deedN at_ sh = 0 then [] else List.replicate (deedN at_ sh - 1) fl ++ [la]
theorem deedN_le (at_ : Int) (sh : Bool) : deedN at_ sh ≤ 300 := by
  unfold deedN
  split
  · have := pickN_lt at_ (n := 300) (by omega); omega
  · omega
theorem deedB_len (at_ : Int) (fl la : UInt8) (sh : Bool) : (deedB at_ fl la sh).length = deedN at_ sh := by
  unfold deedB
  split
  · simp; omega
  · simp; omega
theorem fill_step (N i : Nat) (fl : UInt8) (h : i < N) : (List.replicate i fl ++ List.replicate (N - i) 0).set i fl = List.replicate (i + 1) fl ++ List.replicate (N - (i + 1)) 0 := by
  rw [List.set_append_right _ _ (by simp), List.length_replicate, Nat.sub_self, show N - i = (N - (i + 1)) + 1 by omega, List.replicate_succ, List.set_cons_zero, List.replicate_succ', List.append_assoc]
  rfl
theorem fill_last (N : Nat) (fl la : UInt8) (h : 0 < N) : (List.replicate N fl).set (N - 1) la = List.replicate (N - 1) fl ++ [la] := by
  obtain ⟨m, rfl⟩ : ∃ m, N = m + 1 := ⟨N - 1, by omega⟩
  rw [List.replicate_succ', List.set_append_right _ _ (by simp)]
  simp

set_option maxRecDepth 100000 in
set_option maxHeartbeats 4000000 in
theorem bytes8_any (K at_ : Int) (fl la : UInt8) (sh : Bool) (pA : Option Addr) (pn pc : Nat) (hat : -9223372036854775808 ≤ at_ ∧ at_ ≤ 9223372036854775807) (w : World) :
    Calls Try.prog 29 #[.agg #[.int .i64 K, .int .i64 at_, .int .u8 (fl.toNat : Int), .int .u8 (la.toNat : Int), .bool sh, .slice pA pn pc]] w fun e w' =>
      ∃ g, e = .returned (.slice (some ⟨g, 0, none⟩) (deedN at_ sh) (deedN at_ sh)) ∧ Blk w' g 5 (bvs (deedB at_ fl la sh)) ∧ w.heap.size ≤ g ∧ Below w.heap.size w w' := by
  have P0 := fun W : World => pick8_any at_ hat (n := 300) (by omega) (by omega) W
  push_cast at P0
  have HP := Lib.hid P0
  obtain ⟨N, hN⟩ : ∃ N, N = deedN at_ sh := ⟨_, rfl⟩
  have hNl := deedN_le at_ sh
  rw [← hN] at hNl ⊢
  have HN := Lib.hid hN
  clear P0 hat hN
  have hb1 : Below w.heap.size w (w.alloc (.cells #[.int .i64 K, .int .i64 at_, .int .u8 (fl.toNat : Int), .int .u8 (la.toNat : Int), .bool sh, .slice pA pn pc] 48)) := (Below.refl _ _).alloc (Nat.le_refl _) _
  have hx := Blk.new w 48 [.int .i64 K, .int .i64 at_, .int .u8 (fl.toNat : Int), .int .u8 (la.toNat : Int), .bool sh, .slice pA pn pc]
  have HX := Lib.hid hx
  have HB1 := Lib.hid hb1
  clear hx hb1
  go_enter Try.func29, Try.ntmps29
  go_upto_region 1 with fail
  refine wp_world (fun U => Blk U w.heap.size 48 [.int .i64 K, .int .i64 at_, .int .u8 (fl.toNat : Int), .int .u8 (la.toNat : Int), .bool sh, .slice pA pn pc] ∧ Below w.heap.size w U) ⟨HX.out, HB1.out⟩ ?_
  obtain ⟨gx, hgx⟩ : ∃ gx, gx = w.heap.size := ⟨_, rfl⟩
  rw [← hgx]
  rintro U ⟨hX, hB⟩
  have hc1 := hX.cell 1
  have hc2 := hX.cell 2
  have hc3 := hX.cell 3
  have hc4 := hX.cell 4
  simp only [List.getElem?_cons_zero, List.getElem?_cons_succ] at hc1 hc2 hc3 hc4
  have hgl := hX.lt
  have hB' : Below w.heap.size w U := by rw [hgx] at hB; exact hB
  have HB := Lib.hid hB'
  have HGx := Lib.hid hgx
  have hXm := hX
  clear hB hB' HX HB1 hX
  have HX := Lib.hid hXm
  clear hXm hgx
  go_upto_if 7 with fail
  go_cut [3] (fun s3 wx => s3 = .int .i64 (N : Int) ∧ wx = U)
  case first =>
    cases sh with
    | true =>
      have HN2 : Hid (pickN at_ 300 = N) := Lib.hid (by rw [HN.out]; rfl)
      rw [HN2.out] at HP
      go_wp2_with ((with_reducible refine Calls.mono (HP.out _) ?_); rintro e wa ⟨rfl, rfl⟩)
      go_meet
      exact ⟨rfl, rfl⟩
    | false =>
      have HN2 : Hid (256 = N) := Lib.hid (by rw [HN.out]; rfl)
      go_wp2
      go_meet
      exact ⟨by rw [← HN2.out]; rfl, rfl⟩
  case rest =>
    obtain ⟨rfl, rfl⟩ := hcut
    have hmk := make_by N (by omega) wc
    have hb2 := (Below.refl wc.heap.size wc).alloc (Nat.le_refl _) (.cells (bvs (List.replicate N 0)).toArray 5)
    have hY := Blk.new wc 5 (bvs (List.replicate N 0))
    have HB2 := Lib.hid hb2
    have HY := Lib.hid hY
    obtain ⟨z, hz⟩ : ∃ z, z = List.replicate N (0 : UInt8) := ⟨_, rfl⟩
    rw [← hz] at hmk HB2 HY
    have HZ := Lib.hid hz
    clear hb2 hY hz
    go_upto_region 5 with fail
    refine wp_world (fun V => Blk V wc.heap.size 5 (bvs z) ∧ Below wc.heap.size wc V) ⟨HY.out, HB2.out⟩ ?_
    rintro V ⟨hY, hB2⟩
    obtain ⟨gy, hgy⟩ : ∃ gy, gy = wc.heap.size := ⟨_, rfl⟩
    have hne : gx ≠ gy := by omega
    have hwl : w.heap.size ≤ gy := by have := HB.out.size; omega
    have hX2 := HX.out.below hB2 hgl
    have hB3 := HB.out.trans (hB2.mono HB.out.size)
    rw [← hgy] at hY ⊢
    have HY2 := Lib.hid hY
    have HX2 := Lib.hid hX2
    have HB3 := Lib.hid hB3
    clear hY hB2 hX2 hB3 hmk HB2 HY hc1 hc2 hc3 hc4 hgl HX HB hgy
    go_wp2
    go_loopw [5] (fun s5 wr => ∃ i : Nat, i ≤ N ∧ s5 = .int .i64 i ∧ Blk wr gy 5 (bvs (List.replicate i fl ++ List.replicate (N - i) 0)) ∧ Blk wr gx 48 [.int .i64 K, .int .i64 at_, .int .u8 (fl.toNat : Int), .int .u8 (la.toNat : Int), .bool sh, .slice pA pn pc] ∧ Below w.heap.size w wr) (fun s5 _ => N - (intOf s5).toNat)
    case atStart => exact ⟨0, by omega, rfl, by have := HY2.out; rw [HZ.out] at this; exact this, HX2.out, HB3.out⟩
    case round =>
      clear HY2 HX2 HB3
      obtain ⟨i, hi, rfl, hY, hX, hB⟩ := hrel
      have hc2 := hX.cell 2
      have hc3 := hX.cell 3
      simp only [List.getElem?_cons_zero, List.getElem?_cons_succ] at hc2 hc3
      have hyf := hY.frees
      have HX := Lib.hid hX
      have HB := Lib.hid hB
      by_cases hlt : i < N
      · have hyc : wr.cell? ⟨gy, i, none⟩ = some (bv ((List.replicate i fl ++ List.replicate (N - i) 0).getD i 0)) := by
          rw [hY.cell, bvs, List.getElem?_map, List.getD_eq_getElem?_getD, List.getElem?_eq_getElem (by simp; omega)]; rfl
        have hY2 := hY.set_ i (bv fl)
        rw [bvs_set, fill_step N i fl hlt] at hY2
        have hX2 := HX.out.far (p := ⟨gy, i, none⟩) hne (bv fl)
        have hB2 := HB.out.setCell (show w.heap.size ≤ (⟨gy, i, none⟩ : Addr).block from hwl) (bv fl)
        have HY2 := Lib.hid hY2
        have HX2 := Lib.hid hX2
        have HB2 := Lib.hid hB2
        clear hX hB hY hY2 hX2 hB2
        go_wp2
        go_roundw
        case rel => exact ⟨i + 1, by omega, by norm_cast, HY2.out, HX2.out, HB2.out⟩
        case measure => simp only [intOf]; omega
      · obtain rfl : i = N := by omega
        rw [Nat.sub_self, List.replicate_zero, List.append_nil] at hY
        rcases Nat.eq_zero_or_pos i with h0 | h0
        · have HE : Hid (deedB at_ fl la sh = []) := Lib.hid (by unfold deedB; rw [← HN.out, if_pos h0])
          subst h0
          have HY := Lib.hid hY
          clear hX hB hY hyf
          go_wp2
          go_ret
          exact ⟨gy, rfl, by rw [HE.out]; exact HY.out, hwl, HB.out⟩
        · have HE : Hid (deedB at_ fl la sh = List.replicate (i - 1) fl ++ [la]) := Lib.hid (by unfold deedB; rw [← HN.out, if_neg (by omega)])
          have hY2 := hY.set_ (i - 1) (bv la)
          rw [bvs_set, fill_last i fl la h0] at hY2
          have hyc : wr.cell? ⟨gy, i - 1, none⟩ = some (bv ((List.replicate i fl).getD (i - 1) 0)) := by
            rw [hY.cell, bvs, List.getElem?_map, List.getD_eq_getElem?_getD, List.getElem?_eq_getElem (by simp; omega)]; rfl
          have hB2 := HB.out.setCell (show w.heap.size ≤ (⟨gy, i - 1, none⟩ : Addr).block from hwl) (bv la)
          have hi1 : IntKind.i64.wrap ((i : Int) - 1) = ((i - 1 : Nat) : Int) := by rw [IntWalk.i64_in _ (by omega)]; omega
          have hi2 : (i : Int) - 1 = ((i - 1 : Nat) : Int) := by omega
          have hi3 : i - 1 < i := by omega
          have HY2 := Lib.hid hY2
          have HB2 := Lib.hid hB2
          clear hX hB hY hY2 hB2
          go_wp2
          go_ret
          exact ⟨gy, rfl, by rw [HE.out]; exact HY2.out, hwl, HB2.out⟩
end Go.Proofs.Ytnclebnodkkgnaa
