/- kistlaw08.lives. No condition. -/
import Derived.Test.YtnclebnodkkgnaaDkLw
namespace Go.Proofs.Ytnclebnodkkgnaa
open Go.RowKit
set_option linter.unusedSimpArgs false
set_option linter.unusedVariables false

theorem write_new {s : Dsk} (h : s.cut = false) (k : Nat) (x : List UInt8) : writeD s k x = writeS s k x := by
  unfold writeD doneOk doneS
  rw [h]
  rfl
theorem flush_new {s : Dsk} (h : s.cut = false) : flushD s = clearD { s with lies := fun k => if k < s.n then hasD s k else s.lies k } := by
  have h1 : doneOk s = true := by unfold doneOk; rw [h]; rfl
  have h2 : doneS s = s := by unfold doneS; rw [h]; rfl
  unfold flushD
  rw [h1, h2]
  rfl
theorem build_deed (k : Int) (w : World) : (Instr.build 48 #[(2, .int .u8 k)]).run Try.prog w = .ok (.agg #[.int .i64 0, .int .i64 0, .int .u8 k, .int .u8 0, .bool false, .slice none 0 0]) w := run_build w 48 _ _ (by kernel_rfl)
def dB (fl : UInt8) : List UInt8 := deedB 0 fl 0 false
theorem dB_len (fl : UInt8) : (dB fl).length = 256 := deedB_len 0 fl 0 false
theorem byt_new (fl : UInt8) {k : Int} (hk : (fl.toNat : Int) = k) (w : World) :
    Calls Try.prog 29 #[.agg #[.int .i64 0, .int .i64 0, .int .u8 k, .int .u8 0, .bool false, .slice none 0 0]] w fun e w' =>
      ∃ g, e = .returned (.slice (some ⟨g, 0, none⟩) 256 256) ∧ Blk w' g 5 (bvs (dB fl)) ∧ w.heap.size ≤ g ∧ Below w.heap.size w w' := by
  subst hk
  exact bytes8_any 0 0 fl 0 false none 0 0 (by omega) w
theorem dB_get (fl : UInt8) : (bvs (dB fl))[0]? = some (bv fl) := by
  unfold dB deedB
  rw [if_neg (by decide)]
  rfl
theorem lives_has (a b : List UInt8) : hasD (powerD (writeD (flushD (writeD (newD 9) 3 a)) 3 b) []) 3 = a := by
  obtain ⟨x, hx⟩ : ∃ x, x = writeD (flushD (writeD (newD 9) 3 a)) 3 b := ⟨_, rfl⟩
  have h1 := power_all x []
  have hn : x.n = 9 := by rw [hx]; rfl
  have h2 := (h1.2.2 3 (by rw [hn]; omega)).1
  rw [← hx, hasD_flat h2, power_nil, hx]
  rfl
set_option maxRecDepth 100000 in
set_option maxHeartbeats 4000000 in
theorem lives8_any (w : World) : Calls Try.prog 33 #[] w fun e w' => e = .returned (.bool true) ∧ Below w.heap.size w w' := by
  have D0 := dnew_ok 9 (by omega) w
  push_cast at D0
  have D := Lib.hid D0
  clear D0
  go_enter Try.func33, Try.ntmps33
  go_upto_region 2 with ((with_reducible refine Calls.mono D.out ?_); rintro e w1 ⟨d, rfl, hd, hb⟩)
  have S := Lib.hid (dsize_any hd)
  have B := Lib.hid (byt_new 7 (k := 7) rfl w1)
  have HD := Lib.hid hd
  have HB := Lib.hid hb
  clear hd hb D
  have hbld := build_deed
  have hS9 : (newD 9).n = 9 := rfl
  rw [hS9] at S
  go_upto_region 4 with ((with_reducible refine Calls.mono S.out ?_); rintro e wa ⟨rfl, rfl⟩)
  go_upto_region 5 with (first
    | ((with_reducible refine Calls.mono B.out ?_); rintro e w2 ⟨g2, rfl, hx2, hg2, hb2⟩; have hd2 := HD.out.below hb2 (Nat.le_refl _); have W2 := dwrite_ok hd2 (k := 3) (by decide) (by show 0 < _; omega) (hx2.bs0 0 256 256 (Nat.zero_le _) (Nat.le_refl _) (by omega) (dB_len 7)) (fun e => by have := (HD.out.foot_base g2 e).2; omega); push_cast at W2)
    | ((with_reducible refine Calls.mono W2 ?_); rintro e w3 ⟨rfl, d3, hd3, hg3, hk3, hf3⟩))
  have hB3 : Below w.heap.size w w3 := (HB.out.trans (hb2.mono HB.out.size)).trans (Ch.bel ⟨hd3, hg3, hk3, hf3⟩ hd2)
  have HB3 := Lib.hid hB3
  have F0 := dflush_any hd3
  rw [hg3] at F0
  have F := Lib.hid F0
  have HD3 := Lib.hid hd3
  have HG3 := Lib.hid hg3
  clear W2 hd2 hx2 hg2 hb2 hd3 hk3 hf3 hB3 F0 B S HD HB hg3
  go_upto_region 6 with ((with_reducible refine Calls.mono F.out ?_); rintro e w4 ⟨rfl, d4, hd4, hg4, hk4, hf4⟩)
  have hB4 := HB3.out.trans (Ch.bel ⟨hd4, hg4.trans HG3.out.symm, hk4, hf4⟩ HD3.out)
  have B := Lib.hid (byt_new 8 (k := 8) rfl w4)
  have hgd4 : d4.g = d.g := hg4
  have HG4 := Lib.hid hgd4
  have HD4 := Lib.hid hd4
  have HB4 := Lib.hid hB4
  clear hd4 hg4 hk4 hf4 F HD3 HG3 HB3 hB4 hgd4
  obtain ⟨s4, hs4⟩ : ∃ s4, s4 = flushD (writeD (newD 9) 3 (dB 7)) := ⟨_, rfl⟩
  rw [← hs4] at HD4
  have h4n : s4.n = 9 ∧ (s4.vers 3).length = 0 := by rw [hs4]; exact ⟨rfl, rfl⟩
  have HS4 := Lib.hid hs4
  clear hs4
  go_upto_region 7 with (first
    | ((with_reducible refine Calls.mono B.out ?_); rintro e w5 ⟨g5, rfl, hx5, hg5, hb5⟩; have hd5 := HD4.out.below hb5 (Nat.le_refl _); have W5 := dwrite_ok hd5 (k := 3) (by omega) (by omega) (hx5.bs0 0 256 256 (Nat.zero_le _) (Nat.le_refl _) (by omega) (dB_len 8)) (fun e => by have := (HD4.out.foot_base g5 e).2; omega); rw [HG4.out] at W5; push_cast at W5)
    | ((with_reducible refine Calls.mono W5 ?_); rintro e w6 ⟨rfl, d6, hd6, hg6, hk6, hf6⟩))
  have hB6 : Below w.heap.size w w6 := (HB4.out.trans (hb5.mono HB4.out.size)).trans (Ch.bel ⟨hd6, hg6.trans HG4.out.symm, hk6, hf6⟩ hd5)
  have hw6 : (writeD s4 3 (dB 8)).n = 9 ∧ ∀ k, ((writeD s4 3 (dB 8)).vers k).length ≤ 1 := by
    rw [HS4.out]
    refine ⟨rfl, fun k => ?_⟩
    rw [write_new (by rfl)]
    show (if k = 3 then _ else _ : List (List UInt8)).length ≤ 1
    split
    · exact Nat.le_refl _
    · exact Nat.zero_le _
  have P0 := dpower_any hd6 (fun k hk => by have := hw6.2 k; omega) (lo := 0) (m := 0) (c := 0) (A := none) (ps := []) (by exact Rd.nil_) rfl (by omega) (fun h => absurd h (by omega))
  rw [hg6] at P0
  have P := Lib.hid P0
  have HB6 := Lib.hid hB6
  have HD6 := Lib.hid hd6
  have HG6 : Hid (d6.g = d.g) := Lib.hid hg6
  clear W5 hd5 hx5 hg5 hb5 hd6 hg6 hk6 hf6 hB6 P0 B HD4 HB4 h4n HG4
  go_upto_region 8 with ((with_reducible refine Calls.mono P.out ?_); rintro e w7 ⟨rfl, d7, hc7⟩)
  have R0 := dread_ok hc7.dk (k := 3) (by rw [(power_all _ _).1, hw6.1]; omega)
  rw [HS4.out, lives_has, hc7.g, HG6.out] at R0
  push_cast at R0
  have R := Lib.hid R0
  have HB7 := Lib.hid (HB6.out.trans (hc7.bel HD6.out))
  clear R0 hc7 P hw6 HS4 HD6 HG6 HB6
  go_upto_region 9 with ((with_reducible refine Calls.mono R.out ?_); rintro e w8 ⟨g8, rfl, hx8, hg8, hb8⟩)
  have hc8 : w8.cell? ⟨g8, 0, none⟩ = some (.int .u8 7) := (hx8.cell 0).trans (dB_get 7)
  have HB8 := Lib.hid (HB7.out.trans (hb8.mono HB7.out.size))
  clear hx8 hg8 hb8 R HB7
  go_wp2
  go_ret
  exact ⟨rfl, HB8.out⟩
end Go.Proofs.Ytnclebnodkkgnaa
