/- Deeds of layer 8: pick, bytes. No condition. -/
import Derived.Test.YtnclebnodkkgnaaDkPow
import Derived.Test.YtnclebnodkkgnaaDkRots
import Derived.Test.YtnclebnodkkgnaaLibL
import Derived.Test.YtnclebnodkkgnaaFactsD
namespace Go.Proofs.Ytnclebnodkkgnaa
open Go.RowKit
set_option linter.unusedSimpArgs false
set_option linter.unusedVariables false

set_option maxRecDepth 4000 in
theorem pick8_any (c : Int) (hc : -9223372036854775808 ≤ c ∧ c ≤ 9223372036854775807) {n : Nat} (hn : 0 < n) (hn2 : n ≤ 9223372036854775807) (w : World) :
    Calls Try.prog 28 #[.int .i64 c, .int .i64 n] w fun e w' => e = .returned (.int .i64 (pickN c n)) ∧ w = w' := by
  by_cases h : c < 0
  · obtain ⟨k, hk⟩ : ∃ k : Nat, c = -(k : Int) - 1 := ⟨(-(c + 1)).toNat, by omega⟩
    have hp : pickN c n = k % n := by unfold pickN; rw [if_pos h]; congr 1; omega
    have HP := Lib.hid hp
    have e1 : IntKind.i64.wrap (c + 1) = -(k : Int) := by rw [IntWalk.i64_in _ (by omega)]; omega
    have e2 : IntKind.i64.wrap (-(-(k : Int))) = (k : Int) := by rw [IntWalk.i64_in _ (by omega)]; omega
    have e2b : wrap64 (k : Int) = (k : Int) := by unfold wrap64; omega
    have e3 : Int.tmod (k : Int) (n : Int) = ((k % n : Nat) : Int) := rfl
    have e4 : ¬ (n : Int) = 0 := by omega
    clear hp hk
    go_enter Try.func28, Try.ntmps28
    go_wp2
    go_ret
    exact ⟨by rw [HP.out]; rfl, rfl⟩
  · obtain ⟨k, rfl⟩ : ∃ k : Nat, c = (k : Int) := ⟨c.toNat, by omega⟩
    have hp : pickN (k : Int) n = k % n := by unfold pickN; rw [if_neg h]; congr 1
    have HP := Lib.hid hp
    have e3 : Int.tmod (k : Int) (n : Int) = ((k % n : Nat) : Int) := rfl
    have e4 : ¬ (n : Int) = 0 := by omega
    clear hp
    go_enter Try.func28, Try.ntmps28
    go_wp2
    go_ret
    exact ⟨by rw [HP.out]; rfl, rfl⟩

def deedN (at_ : Int) (sh : Bool) : Nat := if sh then pickN at_ 300 else 256
def deedB (at_ : Int) (fl la : UInt8) (sh : Bool) : List UInt8 := if deedN at_ sh = 0 then [] else List.replicate (deedN at_ sh - 1) fl ++ [la]
theorem deedN_le (at_ : Int) (sh : Bool) : deedN at_ sh ≤ 300 := by
  unfold deedN
  split
  · have := pickN_lt at_ (n := 300) (by omega); omega
  · omega
theorem deedB_len (at_ : Int) (fl la : UInt8) (sh : Bool) : (deedB at_ fl la sh).length = deedN at_ sh := by
  unfold deedB
  split
  · simp; omega
  · simp; omega
theorem fill_step (N i : Nat) (fl : UInt8) (h : i < N) : (List.replicate i fl ++ List.replicate (N - i) 0).set i fl = List.replicate (i + 1) fl ++ List.replicate (N - (i + 1)) 0 := by
  rw [List.set_append_right _ _ (by simp), List.length_replicate, Nat.sub_self, show N - i = (N - (i + 1)) + 1 by omega, List.replicate_succ, List.set_cons_zero, List.replicate_succ', List.append_assoc]
  rfl
theorem fill_last (N : Nat) (fl la : UInt8) (h : 0 < N) : (List.replicate N fl).set (N - 1) la = List.replicate (N - 1) fl ++ [la] := by
  obtain ⟨m, rfl⟩ : ∃ m, N = m + 1 := ⟨N - 1, by omega⟩
  rw [List.replicate_succ', List.set_append_right _ _ (by simp)]
  simp

set_option maxRecDepth 100000 in
set_option maxHeartbeats 4000000 in
theorem bytes8_any (K at_ : Int) (fl la : UInt8) (sh : Bool) (pA : Option Addr) (pn pc : Nat) (hat : -9223372036854775808 ≤ at_ ∧ at_ ≤ 9223372036854775807) (w : World) :
    Calls Try.prog 29 #[.agg #[.int .i64 K, .int .i64 at_, .int .u8 (fl.toNat : Int), .int .u8 (la.toNat : Int), .bool sh, .slice pA pn pc]] w fun e w' =>
      ∃ g, e = .returned (.slice (some ⟨g, 0, none⟩) (deedN at_ sh) (deedN at_ sh)) ∧ Blk w' g 5 (bvs (deedB at_ fl la sh)) ∧ w.heap.size ≤ g ∧ Below w.heap.size w w' := by
  have P0 := fun W : World => pick8_any at_ hat (n := 300) (by omega) (by omega) W
  push_cast at P0
  have HP := Lib.hid P0
  obtain ⟨N, hN⟩ : ∃ N, N = deedN at_ sh := ⟨_, rfl⟩
  have hNl := deedN_le at_ sh
  rw [← hN] at hNl ⊢
  have HN := Lib.hid hN
  clear P0 hat hN
  have hb1 : Below w.heap.size w (w.alloc (.cells #[.int .i64 K, .int .i64 at_, .int .u8 (fl.toNat : Int), .int .u8 (la.toNat : Int), .bool sh, .slice pA pn pc] 48)) := (Below.refl _ _).alloc (Nat.le_refl _) _
  have hx := Blk.new w 48 [.int .i64 K, .int .i64 at_, .int .u8 (fl.toNat : Int), .int .u8 (la.toNat : Int), .bool sh, .slice pA pn pc]
  have HX := Lib.hid hx
  have HB1 := Lib.hid hb1
  clear hx hb1
  go_enter Try.func29, Try.ntmps29
  go_upto_region 1 with fail
  refine wp_world (fun U => Blk U w.heap.size 48 [.int .i64 K, .int .i64 at_, .int .u8 (fl.toNat : Int), .int .u8 (la.toNat : Int), .bool sh, .slice pA pn pc] ∧ Below w.heap.size w U) ⟨HX.out, HB1.out⟩ ?_
  obtain ⟨gx, hgx⟩ : ∃ gx, gx = w.heap.size := ⟨_, rfl⟩
  rw [← hgx]
  rintro U ⟨hX, hB⟩
  have hc1 := hX.cell 1
  have hc2 := hX.cell 2
  have hc3 := hX.cell 3
  have hc4 := hX.cell 4
  simp only [List.getElem?_cons_zero, List.getElem?_cons_succ] at hc1 hc2 hc3 hc4
  have hgl := hX.lt
  have hB' : Below w.heap.size w U := by rw [hgx] at hB; exact hB
  have HB := Lib.hid hB'
  have HGx := Lib.hid hgx
  have hXm := hX
  clear hB hB' HX HB1 hX
  have HX := Lib.hid hXm
  clear hXm hgx
  go_upto_if 7 with fail
  go_cut [3] (fun s3 wx => s3 = .int .i64 (N : Int) ∧ wx = U)
  case first =>
    cases sh with
    | true =>
      have HN2 : Hid (pickN at_ 300 = N) := Lib.hid (by rw [HN.out]; rfl)
      rw [HN2.out] at HP
      go_wp2_with ((with_reducible refine Calls.mono (HP.out _) ?_); rintro e wa ⟨rfl, rfl⟩)
      go_meet
      exact ⟨rfl, rfl⟩
    | false =>
      have HN2 : Hid (256 = N) := Lib.hid (by rw [HN.out]; rfl)
      go_wp2
      go_meet
      exact ⟨by rw [← HN2.out]; rfl, rfl⟩
  case rest =>
    obtain ⟨rfl, rfl⟩ := hcut
    have hmk := make_by N (by omega) wc
    have hb2 := (Below.refl wc.heap.size wc).alloc (Nat.le_refl _) (.cells (bvs (List.replicate N 0)).toArray 5)
    have hY := Blk.new wc 5 (bvs (List.replicate N 0))
    have HB2 := Lib.hid hb2
    have HY := Lib.hid hY
    obtain ⟨z, hz⟩ : ∃ z, z = List.replicate N (0 : UInt8) := ⟨_, rfl⟩
    rw [← hz] at hmk HB2 HY
    have HZ := Lib.hid hz
    clear hb2 hY hz
    go_upto_region 5 with fail
    refine wp_world (fun V => Blk V wc.heap.size 5 (bvs z) ∧ Below wc.heap.size wc V) ⟨HY.out, HB2.out⟩ ?_
    rintro V ⟨hY, hB2⟩
    obtain ⟨gy, hgy⟩ : ∃ gy, gy = wc.heap.size := ⟨_, rfl⟩
    have hne : gx ≠ gy := by omega
    have hwl : w.heap.size ≤ gy := by have := HB.out.size; omega
    have hX2 := HX.out.below hB2 hgl
    have hB3 := HB.out.trans (hB2.mono HB.out.size)
    rw [← hgy] at hY ⊢
    have HY2 := Lib.hid hY
    have HX2 := Lib.hid hX2
    have HB3 := Lib.hid hB3
    clear hY hB2 hX2 hB3 hmk HB2 HY hc1 hc2 hc3 hc4 hgl HX HB hgy
    go_wp2
    go_loopw [5] (fun s5 wr => ∃ i : Nat, i ≤ N ∧ s5 = .int .i64 i ∧ Blk wr gy 5 (bvs (List.replicate i fl ++ List.replicate (N - i) 0)) ∧ Blk wr gx 48 [.int .i64 K, .int .i64 at_, .int .u8 (fl.toNat : Int), .int .u8 (la.toNat : Int), .bool sh, .slice pA pn pc] ∧ Below w.heap.size w wr) (fun s5 _ => N - (intOf s5).toNat)
    case atStart => exact ⟨0, by omega, rfl, by have := HY2.out; rw [HZ.out] at this; exact this, HX2.out, HB3.out⟩
    case round =>
      clear HY2 HX2 HB3
      obtain ⟨i, hi, rfl, hY, hX, hB⟩ := hrel
      have hc2 := hX.cell 2
      have hc3 := hX.cell 3
      simp only [List.getElem?_cons_zero, List.getElem?_cons_succ] at hc2 hc3
      have hyf := hY.frees
      have HX := Lib.hid hX
      have HB := Lib.hid hB
      by_cases hlt : i < N
      · have hyc : wr.cell? ⟨gy, i, none⟩ = some (bv ((List.replicate i fl ++ List.replicate (N - i) 0).getD i 0)) := by
          rw [hY.cell, bvs, List.getElem?_map, List.getD_eq_getElem?_getD, List.getElem?_eq_getElem (by simp; omega)]; rfl
        have hY2 := hY.set_ i (bv fl)
        rw [bvs_set, fill_step N i fl hlt] at hY2
        have hX2 := HX.out.far (p := ⟨gy, i, none⟩) hne (bv fl)
        have hB2 := HB.out.setCell (show w.heap.size ≤ (⟨gy, i, none⟩ : Addr).block from hwl) (bv fl)
        have HY2 := Lib.hid hY2
        have HX2 := Lib.hid hX2
        have HB2 := Lib.hid hB2
        clear hX hB hY hY2 hX2 hB2
        go_wp2
        go_roundw
        case rel => exact ⟨i + 1, by omega, by norm_cast, HY2.out, HX2.out, HB2.out⟩
        case measure => simp only [intOf]; omega
      · obtain rfl : i = N := by omega
        rw [Nat.sub_self, List.replicate_zero, List.append_nil] at hY
        rcases Nat.eq_zero_or_pos i with h0 | h0
        · have HE : Hid (deedB at_ fl la sh = []) := Lib.hid (by unfold deedB; rw [← HN.out, if_pos h0])
          subst h0
          have HY := Lib.hid hY
          clear hX hB hY hyf
          go_wp2
          go_ret
          exact ⟨gy, rfl, by rw [HE.out]; exact HY.out, hwl, HB.out⟩
        · have HE : Hid (deedB at_ fl la sh = List.replicate (i - 1) fl ++ [la]) := Lib.hid (by unfold deedB; rw [← HN.out, if_neg (by omega)])
          have hY2 := hY.set_ (i - 1) (bv la)
          rw [bvs_set, fill_last i fl la h0] at hY2
          have hyc : wr.cell? ⟨gy, i - 1, none⟩ = some (bv ((List.replicate i fl).getD (i - 1) 0)) := by
            rw [hY.cell, bvs, List.getElem?_map, List.getD_eq_getElem?_getD, List.getElem?_eq_getElem (by simp; omega)]; rfl
          have hB2 := HB.out.setCell (show w.heap.size ≤ (⟨gy, i - 1, none⟩ : Addr).block from hwl) (bv la)
          have hi1 : IntKind.i64.wrap ((i : Int) - 1) = ((i - 1 : Nat) : Int) := by rw [IntWalk.i64_in _ (by omega)]; omega
          have hi2 : (i : Int) - 1 = ((i - 1 : Nat) : Int) := by omega
          have hi3 : i - 1 < i := by omega
          have HY2 := Lib.hid hY2
          have HB2 := Lib.hid hB2
          clear hX hB hY hY2 hB2
          go_wp2
          go_ret
          exact ⟨gy, rfl, by rw [HE.out]; exact HY2.out, hwl, HB2.out⟩
end Go.Proofs.Ytnclebnodkkgnaa
namespace Go.Proofs.Ytnclebnodkkgnaa
open Go.RowKit
set_option linter.unusedSimpArgs false
set_option linter.unusedVariables false

theorem write_new {s : Dsk} (h : s.cut = false) (k : Nat) (x : List UInt8) : writeD s k x = writeS s k x := by
  unfold writeD doneOk doneS
  rw [h]
  rfl
theorem flush_new {s : Dsk} (h : s.cut = false) : flushD s = clearD { s with lies := fun k => if k < s.n then hasD s k else s.lies k } := by
  have h1 : doneOk s = true := by unfold doneOk; rw [h]; rfl
  have h2 : doneS s = s := by unfold doneS; rw [h]; rfl
  unfold flushD
  rw [h1, h2]
  rfl
theorem build_deed (k : Int) (w : World) : (Instr.build 48 #[(2, .int .u8 k)]).run Try.prog w = .ok (.agg #[.int .i64 0, .int .i64 0, .int .u8 k, .int .u8 0, .bool false, .slice none 0 0]) w := run_build w 48 _ _ (by kernel_rfl)
def dB (fl : UInt8) : List UInt8 := deedB 0 fl 0 false
theorem dB_len (fl : UInt8) : (dB fl).length = 256 := deedB_len 0 fl 0 false
theorem byt_new (fl : UInt8) {k : Int} (hk : (fl.toNat : Int) = k) (w : World) :
    Calls Try.prog 29 #[.agg #[.int .i64 0, .int .i64 0, .int .u8 k, .int .u8 0, .bool false, .slice none 0 0]] w fun e w' =>
      ∃ g, e = .returned (.slice (some ⟨g, 0, none⟩) 256 256) ∧ Blk w' g 5 (bvs (dB fl)) ∧ w.heap.size ≤ g ∧ Below w.heap.size w w' := by
  subst hk
  exact bytes8_any 0 0 fl 0 false none 0 0 (by omega) w
theorem dB_get (fl : UInt8) : (bvs (dB fl))[0]? = some (bv fl) := by
  unfold dB deedB
  rw [if_neg (by decide)]
  rfl
theorem lives_has (a b : List UInt8) : hasD (powerD (writeD (flushD (writeD (newD 9) 3 a)) 3 b) []) 3 = a := by
  obtain ⟨x, hx⟩ : ∃ x, x = writeD (flushD (writeD (newD 9) 3 a)) 3 b := ⟨_, rfl⟩
  have h1 := power_all x []
  have hn : x.n = 9 := by rw [hx]; rfl
  have h2 := (h1.2.2 3 (by rw [hn]; omega)).1
  rw [← hx, hasD_flat h2, power_nil, hx]
  rfl
set_option maxRecDepth 100000 in
set_option maxHeartbeats 4000000 in
theorem lives8_any (w : World) : Calls Try.prog 33 #[] w fun e w' => e = .returned (.bool true) ∧ Below w.heap.size w w' := by
  have D0 := dnew_ok 9 (by omega) w
  push_cast at D0
  have D := Lib.hid D0
  clear D0
  go_enter Try.func33, Try.ntmps33
  go_upto_region 2 with ((with_reducible refine Calls.mono D.out ?_); rintro e w1 ⟨d, rfl, hd, hb⟩)
  have S := Lib.hid (dsize_any hd)
  have B := Lib.hid (byt_new 7 (k := 7) rfl w1)
  have HD := Lib.hid hd
  have HB := Lib.hid hb
  clear hd hb D
  have hbld := build_deed
  have hS9 : (newD 9).n = 9 := rfl
  rw [hS9] at S
  go_upto_region 4 with ((with_reducible refine Calls.mono S.out ?_); rintro e wa ⟨rfl, rfl⟩)
  go_upto_region 5 with (first
    | ((with_reducible refine Calls.mono B.out ?_); rintro e w2 ⟨g2, rfl, hx2, hg2, hb2⟩; have hd2 := HD.out.below hb2 (Nat.le_refl _); have W2 := dwrite_ok hd2 (k := 3) (by decide) (by show 0 < _; omega) (hx2.bs0 0 256 256 (Nat.zero_le _) (Nat.le_refl _) (by omega) (dB_len 7)) (fun e => by have := (HD.out.foot_base g2 e).2; omega); push_cast at W2)
    | ((with_reducible refine Calls.mono W2 ?_); rintro e w3 ⟨rfl, d3, hd3, hg3, hk3, hf3⟩))
  have hB3 : Below w.heap.size w w3 := (HB.out.trans (hb2.mono HB.out.size)).trans (Ch.bel ⟨hd3, hg3, hk3, hf3⟩ hd2)
  have HB3 := Lib.hid hB3
  have F0 := dflush_any hd3
  rw [hg3] at F0
  have F := Lib.hid F0
  have HD3 := Lib.hid hd3
  have HG3 := Lib.hid hg3
  clear W2 hd2 hx2 hg2 hb2 hd3 hk3 hf3 hB3 F0 B S HD HB hg3
  go_upto_region 6 with ((with_reducible refine Calls.mono F.out ?_); rintro e w4 ⟨rfl, d4, hd4, hg4, hk4, hf4⟩)
  have hB4 := HB3.out.trans (Ch.bel ⟨hd4, hg4.trans HG3.out.symm, hk4, hf4⟩ HD3.out)
  have B := Lib.hid (byt_new 8 (k := 8) rfl w4)
  have hgd4 : d4.g = d.g := hg4
  have HG4 := Lib.hid hgd4
  have HD4 := Lib.hid hd4
  have HB4 := Lib.hid hB4
  clear hd4 hg4 hk4 hf4 F HD3 HG3 HB3 hB4 hgd4
  obtain ⟨s4, hs4⟩ : ∃ s4, s4 = flushD (writeD (newD 9) 3 (dB 7)) := ⟨_, rfl⟩
  rw [← hs4] at HD4
  have h4n : s4.n = 9 ∧ (s4.vers 3).length = 0 := by rw [hs4]; exact ⟨rfl, rfl⟩
  have HS4 := Lib.hid hs4
  clear hs4
  go_upto_region 7 with (first
    | ((with_reducible refine Calls.mono B.out ?_); rintro e w5 ⟨g5, rfl, hx5, hg5, hb5⟩; have hd5 := HD4.out.below hb5 (Nat.le_refl _); have W5 := dwrite_ok hd5 (k := 3) (by omega) (by omega) (hx5.bs0 0 256 256 (Nat.zero_le _) (Nat.le_refl _) (by omega) (dB_len 8)) (fun e => by have := (HD4.out.foot_base g5 e).2; omega); rw [HG4.out] at W5; push_cast at W5)
    | ((with_reducible refine Calls.mono W5 ?_); rintro e w6 ⟨rfl, d6, hd6, hg6, hk6, hf6⟩))
  have hB6 : Below w.heap.size w w6 := (HB4.out.trans (hb5.mono HB4.out.size)).trans (Ch.bel ⟨hd6, hg6.trans HG4.out.symm, hk6, hf6⟩ hd5)
  have hw6 : (writeD s4 3 (dB 8)).n = 9 ∧ ∀ k, ((writeD s4 3 (dB 8)).vers k).length ≤ 1 := by
    rw [HS4.out]
    refine ⟨rfl, fun k => ?_⟩
    rw [write_new (by rfl)]
    show (if k = 3 then _ else _ : List (List UInt8)).length ≤ 1
    split
    · exact Nat.le_refl _
    · exact Nat.zero_le _
  have P0 := dpower_any hd6 (fun k hk => by have := hw6.2 k; omega) (lo := 0) (m := 0) (c := 0) (A := none) (ps := []) (by exact Rd.nil_) rfl (by omega) (fun h => absurd h (by omega))
  rw [hg6] at P0
  have P := Lib.hid P0
  have HB6 := Lib.hid hB6
  have HD6 := Lib.hid hd6
  have HG6 : Hid (d6.g = d.g) := Lib.hid hg6
  clear W5 hd5 hx5 hg5 hb5 hd6 hg6 hk6 hf6 hB6 P0 B HD4 HB4 h4n HG4
  go_upto_region 8 with ((with_reducible refine Calls.mono P.out ?_); rintro e w7 ⟨rfl, d7, hc7⟩)
  have R0 := dread_ok hc7.dk (k := 3) (by rw [(power_all _ _).1, hw6.1]; omega)
  rw [HS4.out, lives_has, hc7.g, HG6.out] at R0
  push_cast at R0
  have R := Lib.hid R0
  have HB7 := Lib.hid (HB6.out.trans (hc7.bel HD6.out))
  clear R0 hc7 P hw6 HS4 HD6 HG6 HB6
  go_upto_region 9 with ((with_reducible refine Calls.mono R.out ?_); rintro e w8 ⟨g8, rfl, hx8, hg8, hb8⟩)
  have hc8 : w8.cell? ⟨g8, 0, none⟩ = some (.int .u8 7) := (hx8.cell 0).trans (dB_get 7)
  have HB8 := Lib.hid (HB7.out.trans (hb8.mono HB7.out.size))
  clear hx8 hg8 hb8 R HB7
  go_wp2
  go_ret
  exact ⟨rfl, HB8.out⟩
end Go.Proofs.Ytnclebnodkkgnaa
namespace Go.Proofs.Ytnclebnodkkgnaa
open Go.RowKit
set_option linter.unusedSimpArgs false
set_option linter.unusedVariables false

structure CutI (s : Dsk) (N0 nn i : Nat) (ll : Nat → List UInt8) : Prop where
  n_ : s.n = 12
  cut_ : s.cut = true
  left_ : (s.left = (nn : Int) ∨ nn = 0) ∧ -(i : Int) ≤ s.left ∧ s.left ≤ (nn : Int)
  nn_ : nn ≤ 20
  lies_ : ∀ k, s.lies k = List.replicate 256 0
  has_ : ∀ k, hasD s k = if ll k = [] then List.replicate 256 0 else ll k
  cnt : ∀ k, (s.vers k).length + nn ≤ N0
  len : ∀ k, ll k = [] ∨ (ll k).length = 256

theorem cutI_new {N0 : Nat} (h : N0 ≤ 20) : CutI (cutD (newD 12) N0) N0 N0 0 (fun _ => []) :=
  ⟨rfl, rfl, ⟨.inl rfl, by show -((0 : Nat) : Int) ≤ (N0 : Int); omega, by show (N0 : Int) ≤ N0; omega⟩, h, fun _ => rfl, fun _ => rfl, fun _ => by show 0 + N0 ≤ N0; omega, fun _ => .inl rfl⟩
theorem CutI.idle {s : Dsk} {N0 nn i : Nat} {ll : Nat → List UInt8} (h : CutI s N0 nn i ll) : CutI s N0 nn (i + 1) ll :=
  ⟨h.n_, h.cut_, ⟨h.left_.1, by have := h.left_.2.1; omega, h.left_.2.2⟩, h.nn_, h.lies_, h.has_, h.cnt, h.len⟩
theorem CutI.ok {s : Dsk} {N0 nn i : Nat} {ll : Nat → List UInt8} (h : CutI s N0 nn i ll) (hn : 0 < nn) : doneOk s = true ∧ s.left = (nn : Int) ∧ wrap64 (s.left - 1) = (nn : Int) - 1 := by
  have hl : s.left = (nn : Int) := by rcases h.left_.1 with e | e; exact e; omega
  have := h.nn_
  have hw : wrap64 (s.left - 1) = (nn : Int) - 1 := by rw [hl]; unfold wrap64; omega
  refine ⟨?_, hl, hw⟩
  unfold doneOk
  rw [hw, decide_eq_true (by omega), Bool.or_true]
theorem CutI.put {s : Dsk} {N0 nn i k : Nat} {ll : Nat → List UInt8} {x : List UInt8} (h : CutI s N0 nn i ll) (hn : 0 < nn) (hx : x.length = 256) :
    CutI (writeD s k x) N0 (nn - 1) (i + 1) (fun j => if j = k then x else ll j) := by
  obtain ⟨h1, h2, h3⟩ := h.ok hn
  have hd : doneS s = { s with left := wrap64 (s.left - 1) } := by unfold doneS; rw [h.cut_]; rfl
  have hw : writeD s k x = writeS { s with left := wrap64 (s.left - 1) } k x := by unfold writeD; rw [h1, hd]; rfl
  rw [hw, h3]
  refine ⟨h.n_, h.cut_, ⟨.inl ?_, ?_, ?_⟩, ?_, h.lies_, fun j => ?_, fun j => ?_, fun j => ?_⟩
  · show (nn : Int) - 1 = ((nn - 1 : Nat) : Int); omega
  · show -((i + 1 : Nat) : Int) ≤ (nn : Int) - 1; omega
  · show (nn : Int) - 1 ≤ ((nn - 1 : Nat) : Int); omega
  · have := h.nn_; omega
  · by_cases e : j = k
    · subst e
      have hx0 : x ≠ [] := by intro e; rw [e] at hx; cases hx
      show hasD _ j = if (if j = j then x else ll j) = [] then _ else (if j = j then x else ll j)
      rw [if_pos rfl, if_neg hx0]
      unfold hasD writeS
      simp
    · show hasD _ j = if (if j = k then x else ll j) = [] then _ else (if j = k then x else ll j)
      rw [if_neg e, ← h.has_ j]
      unfold hasD writeS
      show ((if j = k then _ else s.vers j : List (List UInt8)).getLast?).getD (s.lies j) = _
      rw [if_neg e]
  · show (if j = k then s.vers k ++ [x] else s.vers j : List (List UInt8)).length + (nn - 1) ≤ N0
    have := h.cnt j
    have := h.cnt k
    by_cases e : j = k
    · rw [if_pos e, List.length_append]; simp; omega
    · rw [if_neg e]; omega
  · show (if j = k then x else ll j) = [] ∨ (if j = k then x else ll j).length = 256
    by_cases e : j = k
    · rw [if_pos e]; exact .inr hx
    · rw [if_neg e]; exact h.len j
theorem CutI.lost {s : Dsk} {N0 i k : Nat} {ll : Nat → List UInt8} {x : List UInt8} (h : CutI s N0 0 i ll) (hi : i ≤ 4611686018427387904) :
    CutI (writeD s k x) N0 0 (i + 1) ll := by
  have hl := h.left_
  have hw : wrap64 (s.left - 1) = s.left - 1 := by unfold wrap64; omega
  have h1 : doneOk s = false := by
    unfold doneOk
    rw [h.cut_, hw, decide_eq_false (by omega)]
    rfl
  have hd : doneS s = { s with left := wrap64 (s.left - 1) } := by unfold doneS; rw [h.cut_]; rfl
  have hwr : writeD s k x = { s with left := wrap64 (s.left - 1) } := by unfold writeD; rw [h1, hd]; rfl
  rw [hwr, hw]
  exact ⟨h.n_, h.cut_, ⟨.inr rfl, by show -((i + 1 : Nat) : Int) ≤ s.left - 1; omega, by show s.left - 1 ≤ ((0 : Nat) : Int); omega⟩, h.nn_, h.lies_, h.has_, h.cnt, h.len⟩
/-- the end: the power goes, a write behind it is there -/
theorem CutI.gone {s : Dsk} {N0 nn i : Nat} {ll : Nat → List UInt8} (h : CutI s N0 nn i ll) : hasD (powerD s []) 3 = z256 := by
  have h2 := ((power_all s []).2.2 3 (by rw [h.n_]; omega)).1
  rw [hasD_flat h2, power_nil, h.lies_]
  rfl
theorem CutI.again {s : Dsk} {N0 nn i : Nat} {ll : Nat → List UInt8} (h : CutI s N0 nn i ll) (x : List UInt8) : hasD (writeD (powerD s []) 3 x) 3 = x := by
  rw [write_new (power_all s []).2.1]
  unfold hasD writeS
  simp

/-- the law's list of what was written -/
structure LastI (w : World) (d : Dw) (g : Nat) (vs : List Value) (ll : Nat → List UInt8) : Prop where
  blk : Blk w g 56 vs
  len : vs.length = 12
  off : ¬ d.foot g
  at_ : ∀ k, k < 12 → ∃ A m c, vs[k]? = some (.slice A m c) ∧ Bs w 0 A m c (ll k) ∧ (0 < m → ∀ b, ablk A = some b → ¬ d.foot b ∧ b ≠ g ∧ b < w.heap.size)
section
variable {w w' : World} {base : Nat} {d d' : Dw} {s' : Dsk} {g : Nat} {vs : List Value} {ll : Nat → List UInt8}
theorem LastI.below (h : LastI w d g vs ll) (hb : Below w.heap.size w w') : LastI w' d g vs ll :=
  ⟨h.blk.below hb h.blk.lt, h.len, h.off, fun k hk => by
    obtain ⟨A, m, c, h1, h2, h3⟩ := h.at_ k hk
    exact ⟨A, m, c, h1, h2.below hb (Nat.le_refl _), fun hm b hb' => ⟨(h3 hm b hb').1, (h3 hm b hb').2.1, Nat.lt_of_lt_of_le (h3 hm b hb').2.2 hb.size⟩⟩⟩
theorem LastI.ch (h : LastI w d g vs ll) (c : Ch w w' base d d' s') : LastI w' d' g vs ll :=
  ⟨c.K.blk h.blk h.off, h.len, c.away h.off h.blk.lt, fun k hk => by
    obtain ⟨A, m, c', h1, h2, h3⟩ := h.at_ k hk
    exact ⟨A, m, c', h1, h2.kept c.K (fun hm b hb => (h3 hm b hb).1), fun hm b hb' => ⟨c.away (h3 hm b hb').1 (h3 hm b hb').2.2, (h3 hm b hb').2.1, Nat.lt_of_lt_of_le (h3 hm b hb').2.2 c.K.size⟩⟩⟩
theorem LastI.set_ (h : LastI w d g vs ll) {k b n c : Nat} (hk : k < 12) {x : List UInt8} (hx : Bs w 0 (some ⟨b, 0, none⟩) n c x) (hb : ¬ d.foot b) (hg : b ≠ g) (hl : b < w.heap.size) :
    LastI (w.setCell ⟨g, k, none⟩ (.slice (some ⟨b, 0, none⟩) n c)) d g (vs.set k (.slice (some ⟨b, 0, none⟩) n c)) (fun j => if j = k then x else ll j) := by
  have K : Kept (fun y => y = g) w (w.setCell ⟨g, k, none⟩ (.slice (some ⟨b, 0, none⟩) n c)) := ⟨rfl, rfl, rfl, by simp, fun y _ hn => Below.heap_setCell w _ _ y hn⟩
  refine ⟨h.blk.set_ k _, by rw [List.length_set]; exact h.len, h.off, fun j hj => ?_⟩
  by_cases e : j = k
  · subst e
    refine ⟨_, n, c, by rw [List.getElem?_set_self (by rw [h.len]; exact hj)], ?_, fun _ b' e => ?_⟩
    · rw [if_pos rfl]
      exact hx.kept K (fun _ b' e => by injection e with e; rw [← e]; exact hg)
    · injection e with e
      subst e
      exact ⟨hb, hg, Nat.lt_of_lt_of_le hl K.size⟩
  · obtain ⟨A, m, c', h1, h2, h3⟩ := h.at_ j hj
    refine ⟨A, m, c', by rw [List.getElem?_set_ne (Ne.symm e)]; exact h1, ?_, fun hm b' e => ⟨(h3 hm b' e).1, (h3 hm b' e).2.1, Nat.lt_of_lt_of_le (h3 hm b' e).2.2 K.size⟩⟩
    rw [if_neg e]
    exact h2.kept K (fun hm b' e => (h3 hm b' e).2.1)
end
end Go.Proofs.Ytnclebnodkkgnaa
