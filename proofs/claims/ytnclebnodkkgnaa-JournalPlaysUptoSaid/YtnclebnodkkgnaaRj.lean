/- kistref11.New: the document's journal begins; and what is refused. No condition. -/
import Derived.Test.YtnclebnodkkgnaaJrM
import Derived.Test.YtnclebnodkkgnaaRfWrites
import Derived.Test.YtnclebnodkkgnaaJrPc
import Derived.Test.YtnclebnodkkgnaaJrOpen
import Derived.Test.YtnclebnodkkgnaaRfRead
import Derived.Test.YtnclebnodkkgnaaJrP
namespace Go.Proofs.Ytnclebnodkkgnaa
open Go.RowKit Go.Maps
set_option linter.unusedSimpArgs false
set_option linter.unusedVariables false

def rjc (g : Nat) (G used many : Nat) : List Value := [.pointer (some ⟨g, 0, none⟩), .int .i64 G, .int .i64 used, .int .i64 many]
theorem build_rj (g : Nat) (G : Nat) (w : World) : (Instr.build 82 #[(0, .pointer (some ⟨g, 0, none⟩)), (1, .int .i64 G)]).run Try.prog w = .ok (.agg #[.pointer (some ⟨g, 0, none⟩), .int .i64 G, .int .i64 0, .int .i64 0]) w := run_build w 82 _ _ (by kernel_rfl)
theorem rhas_len {w : World} {base : Nat} {r : Rw} {s : Dsk} (h : Rk w base r s) {k : Nat} (hk : k < s.n) : (hasD s k).length = 256 := by
  obtain ⟨h1, h2⟩ := h.len k hk
  unfold hasD
  cases e : (s.vers k).getLast? with
  | none => exact h1
  | some x => exact h2 x (List.mem_of_getLast? e)
section
variable {w : World} {base : Nat} {r : Rw} {t : Dsk} {d : Dw} {s : Dsk}
theorem rjnew_ok (h : Rk w base r t) (hn : 50 ≤ t.n) {G : Nat} (hG : 1 ≤ G ∧ G ≤ 4294967295) :
    Calls Try.prog 43 #[.pointer (some ⟨r.g, 0, none⟩), .int .i64 G] w fun e w' => e = .returned (.tuple #[.pointer (some ⟨w.heap.size, 0, none⟩), .int .i64 0]) ∧ Blk w' w.heap.size 82 (rjc r.g G 0 0) ∧ Below w.heap.size w w' := by
  have bc := h.blk.cells
  have hb := build_rj r.g G
  have HN := Lib.hid (Blk.new w 82 (rjc r.g G 0 0))
  have HB := Lib.hid ((Below.refl w.heap.size w).alloc (Nat.le_refl _) (.cells (rjc r.g G 0 0).toArray 82))
  have h1 : ¬ (t.n : Int) < 50 := by omega
  have h2 : ¬ (G : Int) < 1 := by omega
  have h3 : ¬ (4294967295 : Int) < (G : Int) := by omega
  clear h
  go_enter Try.func43, Try.ntmps43
  go_wp2
  go_ret2
  exact ⟨rfl, HN.out, HB.out⟩
theorem rjnew_bad (h : Rk w base r t) (hn : 50 ≤ t.n) {G : Int} (hG : G < 1 ∨ 4294967295 < G) :
    Calls Try.prog 43 #[.pointer (some ⟨r.g, 0, none⟩), .int .i64 G] w fun e w' => e = .returned (.tuple #[.pointer none, .int .i64 1]) ∧ w' = w := by
  have bc := h.blk.cells
  have h1 : ¬ (t.n : Int) < 50 := by omega
  clear h
  by_cases h2 : G < 1
  · go_enter Try.func43, Try.ntmps43
    go_wp2
    go_ret2
    exact ⟨rfl, rfl⟩
  · have h3 : (4294967295 : Int) < G := by omega
    go_enter Try.func43, Try.ntmps43
    go_wp2
    go_ret2
    exact ⟨rfl, rfl⟩
theorem may_bad (h : Dk w base d s) (hn : 50 ≤ s.n) {G : Int} (hG : G < 1 ∨ 4294967295 < G) :
    Calls Try.prog 50 #[.pointer (some ⟨d.g, 0, none⟩), .int .i64 G] w fun e w' => e = .returned (.bool false) ∧ w' = w := by
  have bc := h.blk.cells
  have h1 : (50 : Int) ≤ (s.n : Int) := by omega
  have C := Lib.hid (dsize_any h)
  clear h
  by_cases h2 : G < 1
  · have h3 : ¬ 1 ≤ G := by omega
    go_enter Try.func50, Try.ntmps50
    go_wp2_with ((with_reducible refine Calls.mono C.out ?_); rintro e w1 ⟨rfl, rfl⟩)
    go_ret
    exact ⟨rfl, rfl⟩
  · have h3 : 1 ≤ G := by omega
    have h4 : decide (G ≤ 4294967295) = false := decide_eq_false (by omega)
    go_enter Try.func50, Try.ntmps50
    go_wp2_with ((with_reducible refine Calls.mono C.out ?_); rintro e w1 ⟨rfl, rfl⟩)
    go_ret
    exact ⟨rfl, rfl⟩
theorem jnew_bad (h : Dk w base d s) (hn : 50 ≤ s.n) {G : Int} (hG : G < 1 ∨ 4294967295 < G) :
    Calls Try.prog 15 #[.pointer (some ⟨d.g, 0, none⟩), .int .i64 G] w fun e w' => e = .returned (.tuple #[.pointer none, .int .i64 1]) ∧ w' = w := by
  have C := Lib.hid (may_bad h hn hG)
  clear h
  go_enter Try.func15, Try.ntmps15
  go_wp2_with ((with_reducible refine Calls.mono C.out ?_); rintro e w1 ⟨rfl, rfl⟩)
  go_ret2
  exact ⟨rfl, rfl⟩
end
end Go.Proofs.Ytnclebnodkkgnaa
namespace Go.Proofs.Ytnclebnodkkgnaa
open Go.RowKit
set_option linter.unusedSimpArgs false
set_option linter.unusedVariables false

theorem badB_in {M p k i : Nat} (h1 : 1 ≤ M) (h2 : p + M ≤ 48) (hi : i < M) : badB M p k i = (decide (232 < k) || ((decide (i + 1 < M) && !decide (k = 232)) || (decide (0 < i) && decide (k = 0)))) := by
  unfold badB
  rw [decide_eq_false (show ¬ M < 1 by omega), decide_eq_false (show ¬ 48 < p + M by omega), Bool.false_or, Bool.false_or]
  by_cases a : 232 < k
  · rw [decide_eq_true a, Bool.true_or, Bool.true_or]
  · rw [decide_eq_false a, Bool.false_or, Bool.false_or]
    by_cases b : i + 1 = M
    · rw [decide_eq_true b, decide_eq_false (show ¬ i + 1 < M by omega)]
      simp
    · rw [decide_eq_false b, decide_eq_true (show i + 1 < M by omega)]
      by_cases c : k = 232
      · subst c; simp
      · simp [c]

set_option maxRecDepth 100000 in
set_option maxHeartbeats 8000000 in
theorem rrecord_any {w : World} {base : Nat} {r : Rw} {t : Dsk} (h : Rk w base r t) (hs : 50 ≤ t.n) {G N p : Nat} (hG : G ≤ 4294967295) (hN : N ≤ 4294967295) (hp : p < 48) :
    Calls Try.prog 65 #[.pointer (some ⟨r.g, 0, none⟩), .int .i64 p, .int .i64 G, .int .i64 N] w fun e w' =>
      ∃ A n c m b, e = .returned (.tuple #[.slice A n c, .int .i64 (m : Nat)]) ∧ Own w' w.heap.size 5 1 A n c (bvs b) ∧ ((m = 0 ∧ recAt (secs t) G p N = none) ∨ (1 ≤ m ∧ p + m ≤ 48 ∧ recAt (secs t) G p N = some (b, m))) ∧ Below w.heap.size w w' := by
  have R0 := rread_ok h (k := 2 + p) (by omega)
  rw [show hasD t (2 + p) = secs t p from rfl] at R0
  have hl0 : (secs t p).length = 256 := by
    have := h.len (2 + p) (by omega)
    exact rhas_len h (by omega)
  push_cast at R0
  have R := Lib.hid R0
  obtain ⟨M, hM⟩ : ∃ M, M = recM (secs t) p := ⟨_, rfl⟩
  have hM8 : M < 256 := by rw [hM]; exact UInt8.toNat_lt _
  have HM := Lib.hid hM
  have HL0 := Lib.hid hl0
  have HR := Lib.hid h
  clear R0 hl0 hM h
  go_enter Try.func65, Try.ntmps65
  go_upto_region 2 with ((with_reducible refine Calls.mono R.out ?_); rintro e w1 ⟨A1, c1, rfl, ho1, hb1⟩)
  obtain ⟨g1, rfl, -, -⟩ := ho1.head (by omega)
  have hc2 : w1.cell? ⟨g1, 2, none⟩ = some (.int .u8 (M : Int)) := by
    obtain ⟨g, e1, -, -, e2, -⟩ := ho1.cell (k := 2) (by rw [length_bvs, HL0.out]; omega)
    injection e1 with e1
    injection e1 with e1
    subst e1
    rw [e2, bvs_get, HM.out]
    simp [recM, List.getD_eq_getElem?_getD, List.getElem?_eq_getElem (show 2 < (secs t p).length by rw [HL0.out]; omega)]
  have HB1 := Lib.hid hb1
  clear ho1 hb1 R
  by_cases hM1 : M < 1
  · have hno : recAt (secs t) G p N = none := by unfold recAt; rw [← HM.out, if_pos (.inl hM1)]
    have HNo := Lib.hid hno
    clear hno
    go_wp2
    go_ret2
    exact ⟨none, 0, 0, 0, rfl, [], Own.nil_ _ _ _ _, .inl ⟨rfl, HNo.out⟩, HB1.out⟩
  by_cases hM2 : 48 < p + M
  · have hno : recAt (secs t) G p N = none := by unfold recAt; rw [← HM.out, if_pos (.inr hM2)]
    have HNo := Lib.hid hno
    clear hno
    go_wp2
    go_ret2
    exact ⟨none, 0, 0, 0, [], rfl, Own.nil_ _ _ _ _, .inl ⟨rfl, HNo.out⟩, HB1.out⟩
  obtain ⟨X, hX⟩ : ∃ X, X = recAll (secs t) G p N := ⟨_, rfl⟩
  have HX := Lib.hid hX
  clear hX
  go_wp2
  go_loopw [13, 14, 15, 16, 17, 18] (fun s13 s14 _ _ _ _ wr => ∃ (A : Option Addr) (n c : Nat) (acc : List UInt8) (i : Nat), s13 = .slice A n c ∧ s14 = .int .i64 i ∧ i ≤ M ∧ n ≤ 232 * i ∧
      Own wr w.heap.size 5 1 A n c (bvs acc) ∧ Below w.heap.size w wr ∧ recGo (secs t) G p N M (M - i) i acc = X) (fun _ s14 _ _ _ _ _ => M - (intOf s14).toNat)
  case atStart => exact ⟨none, 0, 0, [], 0, rfl, rfl, by omega, by omega, Own.nil_ _ _ _ _, HB1.out, by rw [HX.out, HM.out]; rfl⟩
  case round =>
    clear HB1 hc2
    obtain ⟨A, n, c, acc, i, rfl, rfl, hi, hn, hO, hB, hgo⟩ := hrel
    have HO := Lib.hid hO
    have HB := Lib.hid hB
    have HGo := Lib.hid hgo
    clear hO hB hgo
    by_cases hlt : i < M
    · have hr := HR.out.below HB.out (Nat.le_refl _)
      have R0 := rread_ok hr (k := 2 + p + i) (by omega)
      have hS0 : hasD t (2 + p + i) = secs t (p + i) := by unfold secs; rw [Nat.add_assoc]
      have hl1 := rhas_len hr (k := 2 + p + i) (by omega)
      rw [hS0] at R0 hl1
      obtain ⟨S, hS⟩ : ∃ S, S = secs t (p + i) := ⟨_, rfl⟩
      rw [← hS] at R0 hl1
      push_cast at R0
      have R := Lib.hid R0
      have HSS := Lib.hid hS
      have HL1 := Lib.hid hl1
      obtain ⟨k, hk⟩ : ∃ k, k = pcK S := ⟨_, rfl⟩
      have hk8 : k < 256 := by rw [hk]; exact UInt8.toNat_lt _
      have HKK := Lib.hid hk
      clear R0 hS0 hl1 hS hk hr
      go_upto_region 10 with ((with_reducible refine Calls.mono R.out ?_); rintro e w4 ⟨A4, c4, rfl, ho4, hb4⟩)
      obtain ⟨g, rfl, -, -⟩ := ho4.head (by omega)
      have hc3 : w4.cell? ⟨g, 3, none⟩ = some (.int .u8 (k : Int)) := by
        obtain ⟨g', e1, -, -, e2, -⟩ := ho4.cell (k := 3) (by rw [length_bvs, HL1.out]; omega)
        injection e1 with e1
        injection e1 with e1
        subst e1
        rw [e2, bvs_get, HKK.out]
        simp [pcK, List.getD_eq_getElem?_getD, List.getElem?_eq_getElem (show 3 < S.length by rw [HL1.out]; omega)]
      have hca4 := ho4.cap
      have HO4 := Lib.hid ho4
      have HB4 := Lib.hid hb4
      clear ho4 hb4 R
      go_upto_region 11 with fail
      obtain ⟨B, hBB⟩ : ∃ B, B = badB M p k i := ⟨_, rfl⟩
      have HBB := Lib.hid hBB
      have hBv := hBB
      rw [badB_in (by omega) (by omega) hlt] at hBv
      have HBv := Lib.hid hBv
      clear hBB hBv
      have hMi : (M : Int) - 1 = ((M - 1 : Nat) : Int) := by omega
      have hMw : IntKind.i64.wrap ((M : Int) - 1) = ((M - 1 : Nat) : Int) := by rw [IntWalk.i64_in _ (by omega)]; exact hMi
      go_cut [75] (fun s75 wx => s75 = .bool B ∧ w4 = wx)
      case first =>
        have hBv := HBv.out
        by_cases a1 : 232 < k
        · have r : B = true := by rw [hBv]; simp [a1]
          clear hBv
          go_wp2
          go_meet
          exact ⟨by first | (rw [r]; done) | (rw [r]; simp; omega), rfl⟩
        by_cases a2 : i < M - 1
        · by_cases a3 : k = 232
          · have r : B = false := by rw [hBv, decide_eq_false a1, decide_eq_true (show i + 1 < M by omega), decide_eq_true a3, decide_eq_false (show ¬ k = 0 by omega), Bool.and_false]; rfl
            have e6 : ((k : Int) != 232) = false := by simp; omega
            have e7 : ((k : Int) == 0) = false := by simp; omega
            have A3 := Lib.hid a3
            clear hBv a3
            by_cases a4 : 0 < i
            · go_wp2
              go_meet
              exact ⟨by first | (rw [r]; done) | (rw [r]; simp; omega), rfl⟩
            · go_wp2
              go_meet
              exact ⟨by first | (rw [r]; done) | (rw [r]; simp; omega), rfl⟩
          · have r : B = true := by rw [hBv, decide_eq_true (show i + 1 < M by omega), decide_eq_false a3]; simp
            have e6 : ((k : Int) != 232) = true := by simp; omega
            have A3 := Lib.hid a3
            clear hBv a3
            go_wp2
            go_meet
            exact ⟨by first | (rw [r]; done) | (rw [r]; simp; omega), rfl⟩
        · by_cases a4 : 0 < i
          · by_cases a5 : k = 0
            · have r : B = true := by rw [hBv, decide_eq_true a4, decide_eq_true a5]; simp
              have e7 : ((k : Int) == 0) = true := by simp; omega
              have A5 := Lib.hid a5
              clear hBv a5
              go_wp2
              go_meet
              exact ⟨by first | (rw [r]; done) | (rw [r]; simp; omega), rfl⟩
            · have r : B = false := by rw [hBv, decide_eq_false a1, decide_eq_false (show ¬ i + 1 < M by omega), decide_eq_false a5]; simp
              have e7 : ((k : Int) == 0) = false := by simp; omega
              have A5 := Lib.hid a5
              clear hBv a5
              go_wp2
              go_meet
              exact ⟨by first | (rw [r]; done) | (rw [r]; simp; omega), rfl⟩
          · have r : B = false := by rw [hBv, decide_eq_false a1, decide_eq_false (show ¬ i + 1 < M by omega), decide_eq_false a4]; simp
            clear hBv
            go_wp2
            go_meet
            exact ⟨by first | (rw [r]; done) | (rw [r]; simp; omega), rfl⟩
      case rest =>
        obtain ⟨rfl, rfl⟩ := hcut
        have HW4 := Lib.hid (HB.out.trans (HB4.out.mono HB.out.size))
        clear hMi hMw HBv
        cases hB : B with
        | true =>
          rw [hB] at HBB
          have hb := HBB.out.symm
          rw [HKK.out, HSS.out] at hb
          have hno : recAt (secs t) G p N = none := by
            have := recGo_bad (sec := secs t) (G := G) (p := p) (N := N) (acc := acc) hlt hb
            rw [HGo.out] at this
            exact recAt_none (by rw [← HX.out, this])
          have HNo := Lib.hid hno
          clear hno hb
          go_wp2
          (try rw [Exit.noGoto_ret])
          go_ret2
          exact ⟨none, 0, 0, 0, [], rfl, Own.nil_ _ _ _ _, .inl ⟨rfl, HNo.out⟩, HW4.out⟩
        | false =>
          rw [hB] at HBB
          obtain ⟨m1, m2, m3⟩ := badB_ok HBB.out.symm
          have hsl : ∀ w : World, (Instr.slice 33 (.slice (some ⟨g, 0, none⟩) 256 c4) (some (.int .i64 12)) (some (.int .i64 (12 + (k : Int)))) none).run Try.prog w = .ok (.slice (some ⟨g, 12, none⟩) k (c4 - 12)) w := fun w => by
            have h := run_part (w := w) (A := some ⟨g, 0, none⟩) (m := 256) (c := c4) 12 (12 + k) (by omega) (by omega)
            push_cast at h
            rw [show 12 + k - 12 = k by omega, show partA (some ⟨g, 0, none⟩) c4 12 = some ⟨g, 12, none⟩ from if_neg (by omega)] at h
            exact h
          have hda : Bs w4 0 (some ⟨g, 12, none⟩) k (c4 - 12) (pcD S) := by
            have h := (((own_bs HO4.out).weak (Nat.zero_le _)).cut 12 (12 + k) (by omega) (by omega))
            rw [Nat.zero_add, show 12 + k - 12 = k by omega] at h
            rw [pcD, ← HKK.out]
            exact h
          obtain ⟨P, hP⟩ : ∃ P, P = pieceB G N i M (pcD S) := ⟨_, rfl⟩
          have C2a := rpiece_any G N i M hda m3 hG hN (by omega) (by omega)
          rw [← hP] at C2a
          have C2 := Lib.hid C2a
          have HP := Lib.hid hP
          have HDA := Lib.hid hda
          have HBS : Hid (Bs w4 0 (some ⟨g, 0, none⟩) 256 c4 S) := Lib.hid ((own_bs HO4.out).weak (Nat.zero_le _))
          clear C2a hP hda hc3
          go_upto_region 14 with (first
            | ((with_reducible refine Calls.mono C2.out ?_); rintro e w5 ⟨A5, c5, rfl, ho5, hb5⟩; have C3 := Lib.hid (same_any (HBS.out.below hb5 (Nat.le_refl _)) (own_bs ho5)); have HB5 := Lib.hid hb5; clear ho5 hb5)
            | ((with_reducible refine Calls.mono C3.out ?_); rintro e w6 ⟨rfl, q6, hw6⟩))
          subst hw6
          have HW5 := Lib.hid (below_drewN (HW4.out.trans (HB5.out.mono HW4.out.size)) q6)
          have HO5 := Lib.hid ((HO.out.below (HB4.out.trans (HB5.out.mono HB4.out.size)) (Nat.le_refl _)).drewN q6)
          have HDA5 := Lib.hid ((HDA.out.below HB5.out (Nat.le_refl _)).drewN q6)
          have hz5 := HW5.out.size
          clear C2 C3
          by_cases hSP : S = P
          · rw [decide_eq_true hSP]
            have HSP := Lib.hid hSP
            clear hSP
            go_upto_region 8 with (at_builtin; refine wpList_app rfl (.tmp 89) (.tmp 93) 33 rfl 5 1 Try.underlying33 info5 rfl (by omega) rfl HO5.out rfl HDA5.out.2.2.2 (by simpa using HDA5.out.1) (bvs_oneCell _) (by omega) (by omega) hz5 ?_; intro A9 c9 w9 ho9 hg9 _)
            rw [← bvs_append] at ho9
            have hW9 : Below w.heap.size w w9 := below_own HW5.out HO5.out hg9 (Nat.le_refl _) hz5
            have hr9 : recGo (secs t) G p N M (M - (i + 1)) (i + 1) (acc ++ pcD S) = X := by
              have hb := HBB.out.symm
              rw [HKK.out, HSS.out] at hb
              have he : secs t (p + i) = pieceB G N i M (pcD (secs t (p + i))) := by rw [← HSS.out, ← HP.out]; exact HSP.out
              have := recGo_eq (acc := acc) hlt hb he
              rw [← HSS.out, HGo.out] at this
              exact this.symm
            have HO9 := Lib.hid ho9
            have HW9 := Lib.hid hW9
            have HR9 := Lib.hid hr9
            clear ho9 hW9 hr9 hg9 hz5
            go_wp2
            go_roundw
            case rel => exact ⟨A9, n + k, c9, acc ++ pcD S, i + 1, rfl, by norm_cast, by omega, by omega, HO9.out, HW9.out, HR9.out⟩
            case measure => simp only [intOf]; omega
          · have hno : recAt (secs t) G p N = none := by
              have hb : ¬ secs t (p + i) = pieceB G N i M (pcD (secs t (p + i))) := by rw [← HSS.out, ← HP.out]; exact hSP
              have := recGo_ne (acc := acc) hlt hb
              rw [HGo.out] at this
              exact recAt_none (by rw [← HX.out, this])
            have HNo := Lib.hid hno
            rw [decide_eq_false hSP]
            clear hno hSP
            go_wp2
            (try rw [Exit.noGoto_ret])
            go_ret2
            exact ⟨none, 0, 0, 0, [], rfl, Own.nil_ _ _ _ _, .inl ⟨rfl, HNo.out⟩, HW5.out⟩
    · obtain rfl : i = M := by omega
      have hsome : recAt (secs t) G p N = some (acc, i) := by
        have h := HGo.out
        rw [Nat.sub_self] at h
        have := recAt_some (sec := secs t) (G := G) (p := p) (N := N) (b := acc) (by rw [← HM.out]; omega) (by rw [← HM.out]; omega) (by rw [← HX.out, ← h]; rfl)
        rw [this, HM.out]
      have HSo := Lib.hid hsome
      clear hsome
      go_wp2
      (try rw [Exit.noGoto_ret])
      go_ret2
      exact ⟨A, n, c, i, acc, rfl, HO.out, .inr ⟨by omega, by omega, HSo.out⟩, HB.out⟩
end Go.Proofs.Ytnclebnodkkgnaa
namespace Go.Proofs.Ytnclebnodkkgnaa
open Go.RowKit
set_option linter.unusedSimpArgs false
set_option linter.unusedVariables false

set_option maxRecDepth 100000 in
set_option maxHeartbeats 8000000 in
theorem ropen_ok {w : World} {base : Nat} {r : Rw} {t : Dsk} (h : Rk w base r t) (hs : 50 ≤ t.n) {G : Nat} (hG : 1 ≤ G ∧ G ≤ 4294967295) :
    Calls Try.prog 49 #[.pointer (some ⟨r.g, 0, none⟩), .int .i64 G] w fun e w' =>
      ∃ A n c vs, e = .returned (.tuple #[.slice A n c, .int .i64 0]) ∧ Own w' w.heap.size 33 1 A n c vs ∧ SlO w' w.heap.size vs (openS (secs t) G) ∧ Below w.heap.size w w' := by
  have bc := h.blk.cells
  have h1 : ¬ (t.n : Int) < 50 := by omega
  have h2 : ¬ (G : Int) < 1 := by omega
  have h3 : ¬ (4294967295 : Int) < (G : Int) := by omega
  have HR := Lib.hid h
  have HG := Lib.hid hG
  clear h hG
  go_enter Try.func49, Try.ntmps49
  go_wp2
  go_loopw [6, 7, 8, 9] (fun s6 s7 _ _ wr => ∃ (A : Option Addr) (n c : Nat) (vs : List Value) (ls : List (List UInt8)) (p f : Nat), s6 = .slice A n c ∧ s7 = .int .i64 p ∧ ls.length = n ∧ n ≤ p ∧ p ≤ 48 ∧ 48 ≤ p + f ∧
      Own wr w.heap.size 33 1 A n c vs ∧ SlO wr w.heap.size vs ls ∧ Below w.heap.size w wr ∧ openGo (secs t) G f p ls = openS (secs t) G) (fun _ s7 _ _ _ => 48 - (intOf s7).toNat)
  case atStart => exact ⟨none, 0, 0, [], [], 0, 48, rfl, rfl, rfl, by omega, by omega, by omega, Own.nil_ _ _ _ _, All2.nil, Below.refl _ _, rfl⟩
  case round =>
    clear bc h1 h2 h3
    obtain ⟨A, n, c, vs, ls, p, f, rfl, rfl, hn, hnp, hp48, hpf, hO, hS, hB, hgo⟩ := hrel
    have HN := Lib.hid hn
    have HO := Lib.hid hO
    have HS := Lib.hid hS
    have HB := Lib.hid hB
    have HGo := Lib.hid hgo
    clear hn hO hS hB hgo
    by_cases hp : p < 48
    · have hpI : (p : Int) < 48 := by omega
      have C0 := rrecord_any (HR.out.below HB.out (Nat.le_refl _)) hs (G := G) (N := n + 1) (p := p) HG.out.2 (by omega) hp
      push_cast at C0
      have C := Lib.hid C0
      clear C0
      go_upto_region 7 with ((with_reducible refine Calls.mono C.out ?_); rintro e w4 ⟨A4, n4, c4, m, b, rfl, ho4, hcase, hb4⟩)
      have HB4 := Lib.hid (HB.out.trans (hb4.mono HB.out.size))
      have HO5 := Lib.hid (HO.out.below hb4 (Nat.le_refl _))
      have HS5 := Lib.hid (HS.out.below hb4 (Nat.le_refl _))
      have hbs := HB.out.size
      have HO4 := Lib.hid (ho4.weak hbs)
      clear ho4 hb4 C HB HO HS hbs
      rcases hcase with ⟨rfl, hno⟩ | ⟨hm1, hm2, hso⟩
      · have hls : openS (secs t) G = ls := by rw [← HGo.out]; exact openGo_stop hp (by rw [HN.out]; exact hno)
        have HLS := Lib.hid hls
        clear hls hno
        go_wp2
        (try rw [Exit.noGoto_ret])
        go_ret2
        exact ⟨A, n, c, vs, rfl, HO5.out, by rw [HLS.out]; exact HS5.out, HB4.out⟩
      · have hm0 : ((m : Int) == 0) = false := beq_eq_false_iff_ne.2 (by omega)
        have hm00 : ¬ (m : Int) = 0 := by omega
        have hgo2 : ∃ f', 48 ≤ p + m + f' ∧ openGo (secs t) G f' (p + m) (ls ++ [b]) = openS (secs t) G := by
          cases f with
          | zero => omega
          | succ f' => exact ⟨f', by omega, by rw [← HGo.out, openGo_next hp (by rw [HN.out]; exact hso)]⟩
        obtain ⟨f', hf', hgo'⟩ := hgo2
        have HGo2 := Lib.hid hgo'
        have hzw := HB4.out.size
        have HSA : Hid (SlO w4 w.heap.size (vs ++ [.slice A4 n4 c4]) (ls ++ [b])) := Lib.hid (all2_append (SlO.one HO4.out) HS5.out)
        clear hso hgo'
        go_upto_region 9 with (at_builtin; refine wpList_app rfl (.tmp 38) (.tmp 40) 22 rfl 33 1 Try.underlying22 info33 rfl (by omega) rfl (HO5.out.alloc _) rfl (rd_one (.slice A4 n4 c4) 33 rfl) rfl (by intro u hu; rw [List.mem_singleton] at hu; rw [hu]; rfl) (by omega) (by omega) (by simp; omega) ?_; intro A9 c9 w9 ho9 hg9 _)
        have hS9 := (HSA.out.below ((Below.refl _ _).alloc (Nat.le_refl _) (.cells #[.slice A4 n4 c4] 33)) (Nat.le_refl _)).keep (HO5.out.alloc _) (by decide) hg9
        have hB9 := below_own (HB4.out.alloc hzw (.cells #[.slice A4 n4 c4] 33)) (HO5.out.alloc _) hg9 (Nat.le_refl _) (by simp; omega)
        have HO9 := Lib.hid ho9
        have HS9 := Lib.hid hS9
        have HB9 := Lib.hid hB9
        clear ho9 hS9 hB9 hg9
        go_wp2
        go_roundw
        case rel => exact ⟨A9, n + 1, c9, _, ls ++ [b], p + m, f', rfl, by norm_cast, by rw [List.length_append, HN.out]; rfl, by omega, hm2, hf', HO9.out, HS9.out, HB9.out, HGo2.out⟩
        case measure => simp only [intOf]; omega
    · have hend : openS (secs t) G = ls := by rw [← HGo.out]; exact openGo_end (by omega)
      have HE := Lib.hid hend
      have hpI : ¬ (p : Int) < 48 := by omega
      clear hend
      go_wp2
      (try rw [Exit.noGoto_ret])
      go_ret2
      first | exact ⟨A, n, c, vs, rfl, HO.out, by rw [HE.out]; exact HS.out, HB.out⟩ | exact ⟨A, n, c, rfl, vs, HO.out, by rw [HE.out]; exact HS.out, HB.out⟩
end Go.Proofs.Ytnclebnodkkgnaa
namespace Go.Proofs.Ytnclebnodkkgnaa
open Go.RowKit Go.Maps
set_option linter.unusedSimpArgs false
set_option linter.unusedVariables false

def rlaidTo (s : Dsk) (G N m p : Nat) (l : List UInt8) : Nat → Dsk
  | 0 => s
  | i + 1 => rwriteD (rlaidTo s G N m p l i) (p + i) (pieceB G N i m (pcAt l i))
theorem rwriteD_n (s : Dsk) (k : Nat) (x : List UInt8) : (rwriteD s k x).n = s.n := by unfold rwriteD rdec writeS; split <;> rfl
theorem rlaidTo_n (s : Dsk) (G N m p : Nat) (l : List UInt8) (i : Nat) : (rlaidTo s G N m p l i).n = s.n := by
  induction i with
  | zero => rfl
  | succ i ih => rw [rlaidTo, rwriteD_n, ih]
theorem rwriteD_far (s : Dsk) {k j : Nat} (h : j ≠ k) (x : List UInt8) : (rwriteD s k x).vers j = s.vers j := by
  unfold rwriteD
  split
  · show (if j = k then _ else _) = _
    rw [if_neg h]
    rfl
  · rfl
theorem rlaidTo_far (s : Dsk) (G N m p : Nat) (l : List UInt8) (i : Nat) {k : Nat} (h : k < p ∨ p + i ≤ k) : (rlaidTo s G N m p l i).vers k = s.vers k := by
  induction i with
  | zero => rfl
  | succ i ih => rw [rlaidTo, rwriteD_far _ (by omega), ih (by omega)]
theorem run_to {w : World} {A : Option Addr} {m c : Nat} (j : Nat) (hj : j ≤ c) :
    (Instr.slice 33 (.slice A m c) none (some (.int .i64 (j : Int))) none).run Try.prog w = .ok (.slice (partA A c 0) j c) w := by
  have he : Try.prog.elem 33 = 5 := by simp only [Program.elem, Try.underlying33]
  have ht : Try.prog.underlying 33 = some (.slice (Try.prog.elem 33)) := by rw [he]; exact Try.underlying33
  have h := run_slice_h (P := Try.prog) (w := w) 33 A m c ht .i64 j (by omega) (by omega)
  rw [h]
  obtain ⟨i5, hi, hz, hsz, hby⟩ := info_parts info5
  rw [he]
  have e : (sizeOf 5).run Try.prog w = .ok 1 w := by rw [run_sized hi, hsz]
  rw [e]
  simp only [Result.andThen, sliced, Int.toNat_natCast]
  rfl
theorem run_from {w : World} {A : Option Addr} {m c : Nat} (i : Nat) (hi : i ≤ m) :
    (Instr.slice 33 (.slice A m c) (some (.int .i64 (i : Int))) none none).run Try.prog w = .ok (.slice (partA A c i) (m - i) (c - i)) w := by
  have he : Try.prog.elem 33 = 5 := by simp only [Program.elem, Try.underlying33]
  have ht : Try.prog.underlying 33 = some (.slice (Try.prog.elem 33)) := by rw [he]; exact Try.underlying33
  have h := run_slice_l (P := Try.prog) (w := w) 33 A m c ht .i64 i (by omega) (by omega)
  rw [h]
  obtain ⟨i5, hi, hz, hsz, hby⟩ := info_parts info5
  rw [he]
  have e : (sizeOf 5).run Try.prog w = .ok 1 w := by rw [run_sized hi, hsz]
  rw [e]
  simp only [Result.andThen, sliced, Int.toNat_natCast]
  rfl
/-- a block of another type lies outside the document's disk -/
theorem Rk.offB {w : World} {base g : Nat} {r : Rw} {s : Dsk} {t : TypeId} {cs : List Value} (h : Rk w base r s) (hg : Blk w g t cs) (h1 : t ≠ 70) (h2 : t ≠ 102) (h3 : t ≠ 33) : ¬ r.foot s.n g := by
  rintro (x | x | ⟨k, hk, x⟩)
  · subst x
    have e := h.blk
    unfold Blk at e hg
    rw [e] at hg
    simp only [Option.some.injEq, Obj.cells.injEq] at hg
    exact h1 hg.2.1.symm
  · exact blk_own_ne hg h.row h2 x
  · exact blk_own_ne hg (h.vers k hk).1 h3 x
theorem Dk.offB {w : World} {base g : Nat} {d : Dw} {s : Dsk} {t : TypeId} {cs : List Value} (h : Dk w base d s) (hg : Blk w g t cs) (h1 : t ≠ 87) (h2 : t ≠ 93) : ¬ d.foot g := by
  rintro (x | x | x | ⟨k, x⟩)
  · subst x
    have e := h.blk
    unfold Blk at e hg
    rw [e] at hg
    simp only [Option.some.injEq, Obj.cells.injEq] at hg
    exact h1 hg.2.1.symm
  · subst x
    obtain ⟨cs', e⟩ := h.lty
    unfold Blk at hg
    rw [e] at hg
    simp only [Option.some.injEq, Obj.cells.injEq] at hg
    exact h2 hg.2.1.symm
  · subst x
    obtain ⟨D, ⟨es, clock, e, _⟩, _⟩ := h.map
    unfold Blk at hg
    rw [e] at hg
    simp at hg
  · by_cases hj : k < s.n
    · exact blk_own_ne hg (h.vers k hj) h2 x
    · rw [h.out k (by omega)] at x; cases x
/-- a piece of a record's data -/
def PcE (w : World) (A0 : Option Addr) (n0 : Nat) (v : Value) (x : List UInt8) : Prop := ∃ A n c, v = .slice A n c ∧ Bs w 0 A n c x ∧ ablk A = ablk A0 ∧ (0 < n → 0 < n0)
theorem pcs_end {n i : Nat} (h1 : 0 < i → 232 * i < n) (h2 : n - 232 * i ≤ 232) : pcsN n = i + 1 := by unfold pcsN; omega
theorem pcAt_to (l : List UInt8) (i : Nat) : (l.drop (232 * i)).take 232 = pcAt l i := rfl
theorem pcAt_last {l : List UInt8} {n i : Nat} (hl : l.length = n) (h : n - 232 * i ≤ 232) : l.drop (232 * i) = pcAt l i := by
  unfold pcAt
  rw [List.take_of_length_le (by rw [List.length_drop]; omega)]
/-- what a record's writing does -/
structure Rap (w w' : World) (base q : Nat) (r r' : Rw) (n : Nat) (s' : Dsk) (G used many : Nat) : Prop where
  rk : Rk w' base r' s'
  n_ : s'.n = n
  g : r'.g = r.g
  qb : Blk w' q 82 (rjc r.g G used many)
  K : Kept (fun b => r.foot n b ∨ b = q) w w'
  foot : ∀ b, r'.foot n b → r.foot n b ∨ w.heap.size ≤ b

set_option maxRecDepth 100000 in
set_option maxHeartbeats 8000000 in
theorem rappend_any {w : World} {base q : Nat} {r : Rw} {t : Dsk} {G used many : Nat} (h : Rk w base r t) (hq : Blk w q 82 (rjc r.g G used many)) (hs : 50 ≤ t.n) (hG : 1 ≤ G ∧ G ≤ 4294967295) (hu : used ≤ 48) (hN : many + 1 ≤ 4294967295)
    (hv : ∀ k, k < t.n → (t.vers k).length < 549755813887) {A : Option Addr} {n c : Nat} {l : List UInt8} (hd : Bs w 0 A n c l) (hA : 0 < n → ∀ b, ablk A = some b → ¬ r.foot t.n b ∧ b ≠ q) (hn : n ≤ 140737488351232) :
    Calls Try.prog 44 #[.pointer (some ⟨q, 0, none⟩), .slice A n c] w fun e w' =>
      (used + pcsN n ≤ 48 → e = .returned (.int .i64 0) ∧ ∃ r', Rap w w' base q r r' t.n (rlaidTo t G (many + 1) (pcsN n) (2 + used) l (pcsN n)) G (used + pcsN n) (many + 1)) ∧
      (48 < used + pcsN n → e = .returned (.int .i64 11) ∧ Below w.heap.size w w') := by
  have hlen := hd.1
  have HR := Lib.hid h
  have HQ := Lib.hid hq
  have HV := Lib.hid hv
  have HD := Lib.hid hd
  have HA := Lib.hid hA
  have HLen := Lib.hid hlen
  have hcap := hd.2.2.1
  have hcap1 := hd.2.1
  obtain ⟨m, hm⟩ : ∃ m, m = pcsN n := ⟨_, rfl⟩
  rw [← hm]
  have HM0 := Lib.hid hm
  clear h hq hv hd hA hlen hm
  go_enter Try.func44, Try.ntmps44
  go_wp2
  go_loopw [5, 6] (fun s5 s6 wr => ∃ (i : Nat) (P : Option Addr) (pc : Nat) (vs : List Value) (RA : Option Addr) (R RC : Nat), s5 = .slice P i pc ∧ s6 = .slice RA R RC ∧ R = n - 232 * i ∧ 232 * i ≤ n ∧ (0 < i → 232 * i < n) ∧ Bs w 0 RA R RC (l.drop (232 * i)) ∧ ablk RA = ablk A ∧
      Own wr w.heap.size 33 1 P i pc vs ∧ All2 (PcE w A n) vs ((List.range i).map (pcAt l)) ∧ Below w.heap.size w wr) (fun _ s6 _ => slen s6)
  case atStart => exact ⟨0, none, 0, [], A, n, c, rfl, rfl, by omega, by omega, fun h => absurd h (by omega), by rw [Nat.mul_zero, List.drop_zero]; exact HD.out, rfl, Own.nil_ _ _ _ _, .nil, Below.refl _ _⟩
  case round =>
    obtain ⟨i, P, pc, vs, RA, R, RC, rfl, rfl, hR, hi1, hi2, hRb, hRA, hO, hE, hB⟩ := hrel
    have hRc := hRb.2.1
    have hRc2 := hRb.2.2.1
    have HRR := Lib.hid hR
    have HRb := Lib.hid hRb
    have HRA := Lib.hid hRA
    have HO := Lib.hid hO
    have HE := Lib.hid hE
    have HB := Lib.hid hB
    have hbig : (i + 1) * 24 ≤ 140737488355328 := by omega
    have hz := hB.size
    clear hR hRb hRA hO hE hB
    by_cases hlt : 232 < R
    · have hto : ∀ W : World, (Instr.slice 33 (.slice RA R RC) none (some (.int .i64 232)) none).run Try.prog W = .ok (.slice (partA RA RC 0) 232 RC) W := fun W => run_to (w := W) (A := RA) (m := R) (c := RC) 232 (by omega)
      obtain ⟨R2, hR2⟩ : ∃ R2, R2 = R - 232 := ⟨_, rfl⟩
      obtain ⟨RC2, hRC2⟩ : ∃ RC2, RC2 = RC - 232 := ⟨_, rfl⟩
      have hfr : ∀ W : World, (Instr.slice 33 (.slice RA R RC) (some (.int .i64 232)) none none).run Try.prog W = .ok (.slice (partA RA RC 232) R2 RC2) W := fun W => by
        rw [hR2, hRC2]
        exact run_from (w := W) (A := RA) (m := R) (c := RC) 232 (by omega)
      have p1 := HRb.out.part 0 232 (by omega) (by omega)
      have p2 := HRb.out.part 232 R (by omega) (Nat.le_refl _)
      rw [List.drop_zero, Nat.sub_zero, Nat.sub_zero, pcAt_to] at p1
      rw [List.drop_drop, List.take_of_length_le (by rw [List.length_drop, HLen.out, HRR.out]; omega), ← hR2, ← hRC2, show 232 * i + 232 = 232 * (i + 1) by omega] at p2
      have HP1 : Hid (PcE w A n (.slice (partA RA RC 0) 232 RC) (pcAt l i)) := Lib.hid ⟨_, _, _, rfl, p1, (ablk_part _ _ _).trans HRA.out, fun _ => (by have := HRR.out; omega)⟩
      have HP2 := Lib.hid p2
      have HR2 := Lib.hid hR2
      have HRC2 := Lib.hid hRC2
      have hR2n : R2 < R := by omega
      clear p1 p2 hR2 hRC2
      go_upto_region 5 with (at_builtin; refine wpList_app rfl (.tmp 12) (.tmp 15) 22 rfl 33 1 Try.underlying22 info33r rfl (by omega) rfl (HO.out.alloc _) rfl (rd_one (.slice (partA RA RC 0) 232 RC) 33 rfl) rfl (by intro u hu; rw [List.mem_singleton] at hu; rw [hu]; rfl) (by omega) (by omega) (by simp; omega) ?_; intro A9 c9 w9 ho9 hg9 _)
      have hB9 := below_own (HB.out.alloc hz (.cells #[.slice (partA RA RC 0) 232 RC] 33)) (HO.out.alloc _) hg9 (Nat.le_refl _) (by simp; omega)
      have HO9 := Lib.hid ho9
      have HB9 := Lib.hid hB9
      have HE9 : Hid (All2 (PcE w A n) (vs ++ [.slice (partA RA RC 0) 232 RC]) ((List.range (i + 1)).map (pcAt l))) := Lib.hid (by
        rw [List.range_succ, List.map_append]
        exact all2_append (.cons HP1.out .nil) HE.out)
      clear ho9 hB9 hg9 hto
      go_wp2
      go_roundw
      case rel => exact ⟨i + 1, A9, c9, _, _, R2, RC2, by norm_cast, rfl, by have := HRR.out; have := HR2.out; omega, by have := HRR.out; omega, fun _ => by have := HRR.out; omega, HP2.out, (ablk_part _ _ _).trans HRA.out, HO9.out, HE9.out, HB9.out⟩
      case measure => simp only [slen]; omega
    · have hm : m = i + 1 := by rw [HM0.out]; exact pcs_end hi2 (by have := HRR.out; omega)
      have HP1 : Hid (PcE w A n (.slice RA R RC) (pcAt l i)) := Lib.hid ⟨_, _, _, rfl, by rw [← pcAt_last HLen.out (by have := HRR.out; omega)]; exact HRb.out, HRA.out, fun _ => (by have := HRR.out; omega)⟩
      have HE9 : Hid (All2 (PcE w A n) (vs ++ [.slice RA R RC]) ((List.range m).map (pcAt l))) := Lib.hid (by
        rw [hm, List.range_succ, List.map_append]
        exact all2_append (.cons HP1.out .nil) HE.out)
      have HM := Lib.hid hm
      have hm1 : 1 ≤ m := by omega
      have bq0 := HQ.out.below HB.out HQ.out.lt
      go_upto_region 7 with (at_builtin; refine wpList_app rfl (.tmp 19) (.tmp 21) 22 rfl 33 1 Try.underlying22 info33r rfl (by omega) rfl (HO.out.alloc _) rfl (rd_one (.slice RA R RC) 33 rfl) rfl (by intro u hu; rw [List.mem_singleton] at hu; rw [hu]; rfl) (by omega) (by omega) (by simp; omega) ?_; intro A9 c9 w9 ho9 hg9 _)
      have hB9 := below_own (HB.out.alloc hz (.cells #[.slice RA R RC] 33)) (HO.out.alloc _) hg9 (Nat.le_refl _) (by simp; omega)
      have hQ9 := HQ.out.below hB9 HQ.out.lt
      have bq := hQ9.cells
      have bf := hQ9.frees
      simp only [rjc] at bq
      rw [← hm] at ho9
      rw [← hm]
      have HO9 := Lib.hid ho9
      have HB9 := Lib.hid hB9
      have HQ9 := Lib.hid hQ9
      have hwu : IntKind.i64.wrap (48 - (used : Int)) = ((48 - used : Nat) : Int) := by rw [IntWalk.i64_in _ (by omega)]; omega
      clear ho9 hB9 hQ9 hg9 bq0 hm HO HE hz
      by_cases hp : used + m ≤ 48
      · have hgt : ¬ ((48 - used : Nat) : Int) < (m : Int) := by omega
        have hgt2 : ¬ (48 : Int) - (used : Int) < (m : Int) := by omega
        go_upto_region 10 with fail
        obtain ⟨N, hN1⟩ : ∃ N, N = many + 1 := ⟨_, rfl⟩
        obtain ⟨vs9, hvs9⟩ : ∃ v, v = vs ++ [Value.slice RA R RC] := ⟨_, rfl⟩
        rw [← hvs9] at HO9 HE9
        have hNI : (many : Int) + 1 = (N : Int) := by omega
        rw [hNI]
        have hqw := HQ.out.lt
        have K1 : Kept (fun b => b = q) w (w9.setCell ⟨q, 3, none⟩ (.int .i64 N)) := (Kept.of_below (F := fun b => b = q) HB9.out (Nat.le_refl _)).trans (F' := fun b => b = q) ⟨rfl, rfl, rfl, by simp, fun y _ hn => Below.heap_setCell w9 _ _ y hn⟩ (fun _ _ e => e)
        have hqf := HR.out.offB HQ.out (by decide) (by decide) (by decide)
        have hRU := HR.out.kept K1 (fun b hb e => hqf (e ▸ hb)) (fun A n c l b ho hb e => blk_own_ne HQ.out ho (by decide) (e ▸ hb))
        have hQU : Blk (w9.setCell ⟨q, 3, none⟩ (.int .i64 N)) q 82 (rjc r.g G used N) := HQ9.out.set_ 3 _
        have hOU : Own (w9.setCell ⟨q, 3, none⟩ (.int .i64 N)) w.heap.size 33 1 A9 m c9 vs9 := HO9.out.far (p := ⟨q, 3, none⟩) hqw _
        have hEU : All2 (PcE (w9.setCell ⟨q, 3, none⟩ (.int .i64 N)) A n) vs9 ((List.range m).map (pcAt l)) :=
          all2_imp (fun v x ⟨A1, n1, c1, e1, e2, e3, e4⟩ => ⟨A1, n1, c1, e1, e2.kept K1 (fun hn b hb => (HA.out (e4 hn) b (e3 ▸ hb)).2), e3, e4⟩) HE9.out
        obtain ⟨gp, hgp, -, -⟩ := hOU.head (by omega)
        subst hgp
        have HF := Lib.hid (show (∀ b, r.foot t.n b → b < w.heap.size) ∧ base ≤ w.heap.size ∧ ¬ r.foot t.n q from ⟨fun b hb => (HR.out.foot_base b hb).2, by have := HR.out.foot_base r.g (.inl rfl); omega, hqf⟩)
        have HRU := Lib.hid hRU
        have HQU := Lib.hid hQU
        have HOU := Lib.hid hOU
        have HEU := Lib.hid hEU
        have HKU := Lib.hid K1
        clear K1 hqf hRU hQU hOU hEU HO9 HE9 HQ9 HB9 HRb HP1 bq bf hvs9 hqw HRA
        refine wp_world (fun U => Rk U base r t ∧ Blk U q 82 (rjc r.g G used N) ∧ Own U w.heap.size 33 1 (some ⟨gp, 0, none⟩) m c9 vs9 ∧ All2 (PcE U A n) vs9 ((List.range m).map (pcAt l)) ∧ Kept (fun b => b = q) w U) ⟨HRU.out, HQU.out, HOU.out, HEU.out, HKU.out⟩ ?_
        clear HRU HQU HOU HEU HKU
        rintro U ⟨hRU, hQU, hOU, hEU, hKU⟩
        have HRU := Lib.hid hRU
        have HQU := Lib.hid hQU
        have HOU := Lib.hid hOU
        have HEU := Lib.hid hEU
        have HKU := Lib.hid hKU
        obtain ⟨gr, hgr⟩ : ∃ gr, gr = r.g := ⟨_, rfl⟩
        have HGr := Lib.hid hgr
        have HN1 := Lib.hid hN1
        have hN2 : N ≤ 4294967295 := by omega
        clear hRU hQU hOU hEU hKU hgr hN1 hNI hN HQ HR HD
        go_wp2
        go_loopw [7] (fun s7 wr => ∃ (i : Nat) (r' : Rw), i ≤ m ∧ s7 = .int .i64 i ∧ Rch U wr base r r' t.n (rlaidTo t G N m (2 + used) l i)) (fun s7 _ => m - (intOf s7).toNat)
        case atStart => exact ⟨0, r, by omega, rfl, Rch.init HRU.out⟩
        case round =>
          rename World => wr
          obtain ⟨k, r', hk, rfl, hch⟩ := hrel
          have HCh := Lib.hid hch
          have hQr := hch.K.blk HQU.out HF.out.2.2
          have hQr2 := hQr
          unfold rjc at hQr2
          rw [← HGr.out] at hQr2
          have HQr := Lib.hid hQr
          clear hch hQr
          by_cases hlt2 : k < m
          · have hkI : (k : Int) < (m : Int) := by omega
            have hOr := own_kept HOU.out HCh.out.K (fun b hb x => by have h1 := (HOU.out.blk hb).1; have h2 := HF.out.1 b x; omega)
            have hEr := all2_imp (fun v x ⟨A1, n1, c1, e1, e2, e3, e4⟩ => (⟨A1, n1, c1, e1, e2.kept HCh.out.K (fun hn b hb => (HA.out (e4 hn) b (e3 ▸ hb)).1), e3, e4⟩ : PcE wr A n v x)) HEU.out
            obtain ⟨gp2, e1, -, hgl, hcp, -⟩ := hOr.cell (k := k) (by rw [hOr.len1]; exact hlt2)
            injection e1 with e1
            injection e1 with e1
            subst e1
            have hel := all2_get hEr (k := k) (by rw [hOr.len1]; exact hlt2) (by simp; exact hlt2)
            rw [List.getElem_map, List.getElem_range] at hel
            obtain ⟨Ai, ni, ci, e1, e2, -, -⟩ := hel
            rw [e1] at hcp
            have hpl : (pcAt l k).length ≤ 232 := by unfold pcAt; rw [List.length_take]; omega
            have hni : ni ≤ 232 := by rw [← e2.1]; exact hpl
            have C0 := rpiece_any G N k m (w := wr.drew) (e2.drew) hni (by omega) hN2 (by omega) (by omega)
            obtain ⟨pb, hpb⟩ : ∃ pb, pb = pieceB G N k m (pcAt l k) := ⟨_, rfl⟩
            have hpbl : pb.length = 256 := by rw [hpb]; exact length_pieceB _ _ _ _ _ (by omega)
            rw [← hpb] at C0
            have C := Lib.hid C0
            have HPb := Lib.hid hpb
            have HPl := Lib.hid hpbl
            have hql := HQr.out.lt
            have hS0 : ∀ W : World, Blk W q 82 (rjc r.g G used N) → W.cell? ⟨gp, k, none⟩ = some (.slice Ai ni ci) → (W.cell? ⟨q, 0, none⟩ = some (.pointer (some ⟨gr, 0, none⟩)) ∧ W.cell? ⟨q, 1, none⟩ = some (.int .i64 G) ∧ W.cell? ⟨q, 2, none⟩ = some (.int .i64 used) ∧ W.cell? ⟨q, 3, none⟩ = some (.int .i64 N) ∧ W.cell? ⟨gp, k, none⟩ = some (.slice Ai ni ci)) := fun W h1 h2 => by
              have h := h1
              unfold rjc at h
              rw [← HGr.out] at h
              exact ⟨h.cell 0, h.cell 1, h.cell 2, h.cell 3, h2⟩
            have HS0 := Lib.hid hS0
            have HCp := Lib.hid hcp
            have HQd : Hid (Blk wr.drew q 82 (rjc r.g G used N)) := HQr
            have HCd : Hid (wr.drew.cell? ⟨gp, k, none⟩ = some (.slice Ai ni ci)) := HCp
            have hw1 : IntKind.i64.wrap (2 + (used : Int)) = 2 + (used : Int) := IntWalk.i64_in _ (by omega)
            have hw2 : IntKind.i64.wrap (2 + (used : Int) + (k : Int)) = 2 + (used : Int) + (k : Int) := IntWalk.i64_in _ (by omega)
            clear C0 hpb hpbl hS0 hcp e1 e2 hOr hEr hpl hQr2
            go_upto_region 13 with fail
            refine wp_region_last (S := fun w' => w'.cell? ⟨q, 0, none⟩ = some (.pointer (some ⟨gr, 0, none⟩)) ∧ w'.cell? ⟨q, 1, none⟩ = some (.int .i64 G) ∧ w'.cell? ⟨q, 2, none⟩ = some (.int .i64 used) ∧ w'.cell? ⟨q, 3, none⟩ = some (.int .i64 N) ∧ w'.cell? ⟨gp, k, none⟩ = some (.slice Ai ni ci)) 27 (by kernel_rfl) rfl (by kernel_rfl) ?_ ?_
            · exact HS0.out _ HQd.out HCd.out
            intro hHeld
            simp only [List.take_succ_cons, List.take_zero]
            refine wpAnyH_take (i := 0) (v := ?_) (by simp only [List.getElem?_toArray, List.getElem?_cons_succ, List.getElem?_cons_zero]; rfl) (by kernel_rfl) (by kernel_rfl) (by kernel_rfl) (fun _ _ _ h => h) (Or.inl ⟨by rfl, ?_⟩) hHeld ?_
            rotate_left
            · intro wz hSw; (try dsimp only at hSw); go_simp; try with_reducible rfl
            (try simp only [Act.put, List.setIfInBounds_toArray, List.set_cons_zero, List.set_cons_succ])
            refine wpAnyH_take (i := 1) (v := ?_) (by simp only [List.getElem?_toArray, List.getElem?_cons_succ, List.getElem?_cons_zero]; rfl) (by kernel_rfl) (by kernel_rfl) (by kernel_rfl) (fun _ _ _ h => h) (Or.inl ⟨by rfl, ?_⟩) hHeld ?_
            rotate_left
            · intro wz hSw; (try dsimp only at hSw); go_simp; try with_reducible rfl
            (try simp only [Act.put, List.setIfInBounds_toArray, List.set_cons_zero, List.set_cons_succ])
            refine wpAnyH_take (i := 2) (v := ?_) (by simp only [List.getElem?_toArray, List.getElem?_cons_succ, List.getElem?_cons_zero]; rfl) (by kernel_rfl) (by kernel_rfl) (by kernel_rfl) (fun _ _ _ h => h) (Or.inl ⟨by rfl, ?_⟩) hHeld ?_
            rotate_left
            · intro wz hSw; (try dsimp only at hSw); go_simp; try with_reducible rfl
            (try simp only [Act.put, List.setIfInBounds_toArray, List.set_cons_zero, List.set_cons_succ])
            refine wpAnyH_take (i := 3) (v := ?_) (by simp only [List.getElem?_toArray, List.getElem?_cons_succ, List.getElem?_cons_zero]; rfl) (by kernel_rfl) (by kernel_rfl) (by kernel_rfl) (fun _ _ _ h => h) (Or.inl ⟨by rfl, ?_⟩) hHeld ?_
            rotate_left
            · intro wz hSw; (try dsimp only at hSw); go_simp; try with_reducible rfl
            (try simp only [Act.put, List.setIfInBounds_toArray, List.set_cons_zero, List.set_cons_succ])
            refine wpAnyH_take (i := 4) (v := ?_) (by simp only [List.getElem?_toArray, List.getElem?_cons_succ, List.getElem?_cons_zero]; rfl) (by kernel_rfl) (by kernel_rfl) (by kernel_rfl) (fun _ _ _ h => h) (Or.inl ⟨by rfl, ?_⟩) hHeld ?_
            rotate_left
            · intro wz hSw; (try dsimp only at hSw); go_simp; try with_reducible rfl
            (try simp only [Act.put, List.setIfInBounds_toArray, List.set_cons_zero, List.set_cons_succ])
            refine wpAnyH_take (i := 5) (v := ?_) (by simp only [List.getElem?_toArray, List.getElem?_cons_succ, List.getElem?_cons_zero]; rfl) (by kernel_rfl) (by kernel_rfl) (by kernel_rfl) (fun _ _ _ h => h) (Or.inl ⟨by rfl, ?_⟩) hHeld ?_
            rotate_left
            · intro wz hSw; (try dsimp only at hSw); go_simp; try with_reducible rfl
            (try simp only [Act.put, List.setIfInBounds_toArray, List.set_cons_zero, List.set_cons_succ])
            refine wpAnyH_take (i := 6) (v := ?_) (by simp only [List.getElem?_toArray, List.getElem?_cons_succ, List.getElem?_cons_zero]; rfl) (by kernel_rfl) (by kernel_rfl) (by kernel_rfl) (fun _ _ _ h => h) (Or.inl ⟨by rfl, ?_⟩) hHeld ?_
            rotate_left
            · intro wz hSw; (try dsimp only at hSw); go_simp; try with_reducible rfl
            (try simp only [Act.put, List.setIfInBounds_toArray, List.set_cons_zero, List.set_cons_succ])
            refine wpAnyH_take (i := 7) (v := ?_) (by simp only [List.getElem?_toArray, List.getElem?_cons_succ, List.getElem?_cons_zero]; rfl) (by kernel_rfl) (by kernel_rfl) (by kernel_rfl) (fun _ _ _ h => h) (Or.inl ⟨by rfl, ?_⟩) hHeld ?_
            rotate_left
            · intro wz hSw; (try dsimp only at hSw); go_simp; try with_reducible rfl
            (try simp only [Act.put, List.setIfInBounds_toArray, List.set_cons_zero, List.set_cons_succ])
            refine wpAnyH_take (i := 8) (v := ?_) (by simp only [List.getElem?_toArray, List.getElem?_cons_succ, List.getElem?_cons_zero]; rfl) (by kernel_rfl) (by kernel_rfl) (by kernel_rfl) (fun _ _ _ h => h) (Or.inl ⟨by rfl, ?_⟩) hHeld ?_
            rotate_left
            · intro wz hSw; (try dsimp only at hSw); go_simp; try with_reducible rfl
            (try simp only [Act.put, List.setIfInBounds_toArray, List.set_cons_zero, List.set_cons_succ])
            refine wpAnyH_take (i := 9) (v := ?_) (by simp only [List.getElem?_toArray, List.getElem?_cons_succ, List.getElem?_cons_zero]; rfl) (by kernel_rfl) (by kernel_rfl) (by kernel_rfl) (fun _ _ _ h => h) (Or.inl ⟨by rfl, ?_⟩) hHeld ?_
            rotate_left
            · intro wz hSw; (try dsimp only at hSw); go_simp; try with_reducible rfl
            (try simp only [Act.put, List.setIfInBounds_toArray, List.set_cons_zero, List.set_cons_succ])
            refine wpAnyH_take (i := 10) (v := ?_) (by simp only [List.getElem?_toArray, List.getElem?_cons_succ, List.getElem?_cons_zero]; rfl) (by kernel_rfl) (by kernel_rfl) (by kernel_rfl) (fun _ _ _ h => h) (Or.inl ⟨by rfl, ?_⟩) hHeld ?_
            rotate_left
            · intro wz hSw; (try dsimp only at hSw); go_simp; try with_reducible rfl
            (try simp only [Act.put, List.setIfInBounds_toArray, List.set_cons_zero, List.set_cons_succ])
            refine wpAnyH_take (i := 11) (v := ?_) (by simp only [List.getElem?_toArray, List.getElem?_cons_succ, List.getElem?_cons_zero]; rfl) (by kernel_rfl) (by kernel_rfl) (by kernel_rfl) (fun _ _ _ h => h) (Or.inl ⟨by rfl, ?_⟩) hHeld ?_
            rotate_left
            · intro wz hSw; (try dsimp only at hSw); go_simp; try with_reducible rfl
            (try simp only [Act.put, List.setIfInBounds_toArray, List.set_cons_zero, List.set_cons_succ])
            refine wpAnyH_take (i := 12) (v := ?_) (by simp only [List.getElem?_toArray, List.getElem?_cons_succ, List.getElem?_cons_zero]; rfl) (by kernel_rfl) (by kernel_rfl) (by kernel_rfl) (fun _ _ _ h => h) (Or.inl ⟨by rfl, ?_⟩) hHeld ?_
            rotate_left
            · intro wz hSw; (try dsimp only at hSw); go_simp; try with_reducible rfl
            (try simp only [Act.put, List.setIfInBounds_toArray, List.set_cons_zero, List.set_cons_succ])
            refine wpAnyH_take (i := 13) (v := ?_) (by simp only [List.getElem?_toArray, List.getElem?_cons_succ, List.getElem?_cons_zero]; rfl) (by kernel_rfl) (by kernel_rfl) (by kernel_rfl) (fun _ _ _ h => h) (Or.inl ⟨by rfl, ?_⟩) hHeld ?_
            rotate_left
            · intro wz hSw; (try dsimp only at hSw); go_simp; try with_reducible rfl
            (try simp only [Act.put, List.setIfInBounds_toArray, List.set_cons_zero, List.set_cons_succ])
            refine wpAnyH_take (i := 14) (v := ?_) (by simp only [List.getElem?_toArray, List.getElem?_cons_succ, List.getElem?_cons_zero]; rfl) (by kernel_rfl) (by kernel_rfl) (by kernel_rfl) (fun _ _ _ h => h) (Or.inl ⟨by rfl, ?_⟩) hHeld ?_
            rotate_left
            · intro wz hSw; (try dsimp only at hSw); go_simp; try with_reducible rfl
            (try simp only [Act.put, List.setIfInBounds_toArray, List.set_cons_zero, List.set_cons_succ])
            refine wpAnyH_take (i := 15) (v := ?_) (by simp only [List.getElem?_toArray, List.getElem?_cons_succ, List.getElem?_cons_zero]; rfl) (by kernel_rfl) (by kernel_rfl) (by kernel_rfl) (fun _ _ _ h => h) (Or.inl ⟨by rfl, ?_⟩) hHeld ?_
            rotate_left
            · intro wz hSw; (try dsimp only at hSw); go_simp; try with_reducible rfl
            (try simp only [Act.put, List.setIfInBounds_toArray, List.set_cons_zero, List.set_cons_succ])
            refine wpAnyH_take (i := 16) (v := ?_) (by simp only [List.getElem?_toArray, List.getElem?_cons_succ, List.getElem?_cons_zero]; rfl) (by kernel_rfl) (by kernel_rfl) (by kernel_rfl) (fun _ _ _ h => h) (Or.inl ⟨by rfl, ?_⟩) hHeld ?_
            rotate_left
            · intro wz hSw; (try dsimp only at hSw); go_simp; try with_reducible rfl
            (try simp only [Act.put, List.setIfInBounds_toArray, List.set_cons_zero, List.set_cons_succ])
            refine wpAnyH_take (i := 17) (v := ?_) (by simp only [List.getElem?_toArray, List.getElem?_cons_succ, List.getElem?_cons_zero]; rfl) (by kernel_rfl) (by kernel_rfl) (by kernel_rfl) (fun _ _ _ h => h) (Or.inl ⟨by rfl, ?_⟩) hHeld ?_
            rotate_left
            · intro wz hSw; (try dsimp only at hSw); go_simp; try with_reducible rfl
            (try simp only [Act.put, List.setIfInBounds_toArray, List.set_cons_zero, List.set_cons_succ])
            refine wpAnyH_take (i := 18) (v := ?_) (by simp only [List.getElem?_toArray, List.getElem?_cons_succ, List.getElem?_cons_zero]; rfl) (by kernel_rfl) (by kernel_rfl) (by kernel_rfl) (fun _ _ _ h => h) (Or.inl ⟨by rfl, ?_⟩) hHeld ?_
            rotate_left
            · intro wz hSw; (try dsimp only at hSw); go_simp; try with_reducible rfl
            (try simp only [Act.put, List.setIfInBounds_toArray, List.set_cons_zero, List.set_cons_succ])
            refine wpAnyH_take (i := 19) (v := ?_) (by simp only [List.getElem?_toArray, List.getElem?_cons_succ, List.getElem?_cons_zero]; rfl) (by kernel_rfl) (by kernel_rfl) (by kernel_rfl) (fun _ _ _ h => h) (Or.inl ⟨by rfl, ?_⟩) hHeld ?_
            rotate_left
            · intro wz hSw; (try dsimp only at hSw); go_simp; try with_reducible rfl
            (try simp only [Act.put, List.setIfInBounds_toArray, List.set_cons_zero, List.set_cons_succ])
            refine wpAnyH_take (i := 20) (v := ?_) (by simp only [List.getElem?_toArray, List.getElem?_cons_succ, List.getElem?_cons_zero]; rfl) (by kernel_rfl) (by kernel_rfl) (by kernel_rfl) (fun _ _ _ h => h) (Or.inl ⟨by rfl, ?_⟩) hHeld ?_
            rotate_left
            · intro wz hSw; (try dsimp only at hSw); go_simp; try with_reducible rfl
            (try simp only [Act.put, List.setIfInBounds_toArray, List.set_cons_zero, List.set_cons_succ])
            refine wpAnyH_take (i := 21) (v := ?_) (by simp only [List.getElem?_toArray, List.getElem?_cons_succ, List.getElem?_cons_zero]; rfl) (by kernel_rfl) (by kernel_rfl) (by kernel_rfl) (fun _ _ _ h => h) (Or.inl ⟨by rfl, ?_⟩) hHeld ?_
            rotate_left
            · intro wz hSw; (try dsimp only at hSw); go_simp; try with_reducible rfl
            (try simp only [Act.put, List.setIfInBounds_toArray, List.set_cons_zero, List.set_cons_succ])
            refine wpAnyH_take (i := 22) (v := ?_) (by simp only [List.getElem?_toArray, List.getElem?_cons_succ, List.getElem?_cons_zero]; rfl) (by kernel_rfl) (by kernel_rfl) (by kernel_rfl) (fun _ _ _ h => h) (Or.inl ⟨by rfl, ?_⟩) hHeld ?_
            rotate_left
            · intro wz hSw; (try dsimp only at hSw); go_simp; try with_reducible rfl
            (try simp only [Act.put, List.setIfInBounds_toArray, List.set_cons_zero, List.set_cons_succ])
            refine wpAnyH_take (i := 23) (v := ?_) (by simp only [List.getElem?_toArray, List.getElem?_cons_succ, List.getElem?_cons_zero]; rfl) (by kernel_rfl) (by kernel_rfl) (by kernel_rfl) (fun _ _ _ h => h) (Or.inl ⟨by rfl, ?_⟩) hHeld ?_
            rotate_left
            · intro wz hSw; (try dsimp only at hSw); go_simp; try with_reducible rfl
            (try simp only [Act.put, List.setIfInBounds_toArray, List.set_cons_zero, List.set_cons_succ])
            refine wpAnyH_take (i := 24) (v := ?_) (by simp only [List.getElem?_toArray, List.getElem?_cons_succ, List.getElem?_cons_zero]; rfl) (by kernel_rfl) (by kernel_rfl) (by kernel_rfl) (fun _ _ _ h => h) (Or.inl ⟨by rfl, ?_⟩) hHeld ?_
            rotate_left
            · intro wz hSw; (try dsimp only at hSw); go_simp; try with_reducible rfl
            (try simp only [Act.put, List.setIfInBounds_toArray, List.set_cons_zero, List.set_cons_succ])
            refine wpAnyH_take (i := 25) (v := ?_) (by simp only [List.getElem?_toArray, List.getElem?_cons_succ, List.getElem?_cons_zero]; rfl) (by kernel_rfl) (by kernel_rfl) (by kernel_rfl) (fun _ _ _ h => h) (Or.inl ⟨by rfl, ?_⟩) hHeld ?_
            rotate_left
            · intro wz hSw; (try dsimp only at hSw); go_simp; try with_reducible rfl
            (try simp only [Act.put, List.setIfInBounds_toArray, List.set_cons_zero, List.set_cons_succ])
            refine wpAnyH_ready (rs := [26]) (by kernel_rfl) (by simp) ?_
            refine AllReadyH.cons (by simp only [List.getElem?_toArray, List.getElem?_cons_succ, List.getElem?_cons_zero]; rfl) (fun KK hK => ?_) AllReadyH.nil
            go_simp; ((with_reducible refine Calls.mono C.out ?_); rintro e w5 ⟨A5, c5, rfl, ho5, hb5⟩); go_wp2_with fail
            refine hK.out _ _ ?_ (fun hHeld => ?_)
            · exact HS0.out _ (HQd.out.below hb5 hql) ((hb5.cell (p := ⟨gp, k, none⟩) hgl).trans HCd.out)
            clear hK KK
            (try simp only [Act.put, List.setIfInBounds_toArray, List.set_cons_zero, List.set_cons_succ])
            have hR5 := (HCh.out.rk.below (below_drewN (Below.refl wr.heap.size wr) 1) (Nat.le_refl _)).below hb5 (Nat.le_refl _)
            have hbd : Below wr.heap.size wr w5 := (below_drewN (Below.refl wr.heap.size wr) 1).trans hb5
            have W0 := rwrite_ok hR5 (k := 2 + used + k) (by rw [rlaidTo_n]; omega) (by rw [rlaidTo_far _ _ _ _ _ _ _ (.inr (Nat.le_refl _))]; have := HV.out (2 + used + k) (by omega); omega) (own_bs ho5) (fun b hb x => by
              have h1 := (ho5.blk hb).1
              have h2 := (HCh.out.rk.foot_base b x).2
              exact absurd h1 (by show ¬ wr.heap.size ≤ b; omega))
            rw [HCh.out.g, ← HGr.out] at W0
            push_cast at W0
            have W := Lib.hid W0
            have HB5 := Lib.hid hbd
            clear W0 hR5 hbd hb5 ho5 hHeld HQd HCd C HCp
            refine wpAnyH_done (by kernel_rfl) ?_ _
            simp only [lastQ]
            go_wp2_with ((with_reducible refine Calls.mono W.out ?_); rintro e w6 ⟨rfl, r6, hc6⟩)
            rw [rlaidTo_n] at hc6
            have h7 := HCh.out.trans (hc6.pre HB5.out (Nat.le_refl _))
            rw [HPb.out] at h7
            have H7 : Hid (Rch U w6 base r r6 t.n (rlaidTo t G N m (2 + used) l (k + 1))) := Lib.hid h7
            clear h7 hc6 W HB5
            go_roundw
            case rel => exact ⟨k + 1, r6, by omega, by norm_cast, H7.out⟩
            case measure => simp only [intOf]; omega
          · obtain rfl : k = m := by omega
            clear hlt2
            have bq := hQr2.cells
            have bf := hQr2.frees
            have hw1 : IntKind.i64.wrap ((used : Int) + (k : Int)) = ((used + k : Nat) : Int) := by rw [IntWalk.i64_in _ (by omega)]; omega
            have K2 : Kept (fun b => b = q) wr (wr.setCell ⟨q, 2, none⟩ (.int .i64 ((used + k : Nat) : Int))) := ⟨rfl, rfl, rfl, by simp, fun y _ hn => Below.heap_setCell wr _ _ y hn⟩
            have hR2 := HCh.out.rk.kept K2 (fun b hb e => (HCh.out.rk.offB HQr.out (by decide) (by decide) (by decide)) (e ▸ hb)) (fun A n c l b ho hb e => blk_own_ne HQr.out ho (by decide) (e ▸ hb))
            have hQ2 : Blk (wr.setCell ⟨q, 2, none⟩ (.int .i64 ((used + k : Nat) : Int))) q 82 (rjc r.g G (used + k) N) := HQr.out.set_ 2 _
            have hU := HKU.out.size
            have hfin : Rap w (wr.setCell ⟨q, 2, none⟩ (.int .i64 ((used + k : Nat) : Int))) base q r r' t.n (rlaidTo t G N k (2 + used) l k) G (used + k) N :=
              ⟨hR2, HCh.out.n_, HCh.out.g, hQ2, ((HKU.out.mono (F' := fun b => r.foot t.n b ∨ b = q) (fun _ _ e => .inr e)).trans (F' := r.foot t.n) HCh.out.K (fun _ _ e => .inl e)).trans K2 (fun _ _ e => .inr e), fun b hb => by
                rcases HCh.out.foot b hb with y | y
                · exact .inl y
                · exact .inr (by omega)⟩
            push_cast at hfin
            have HFin := Lib.hid hfin
            clear K2 hR2 hQ2 hfin hU hQr2
            go_wp2
            go_ret
            refine ⟨fun _ => ⟨rfl, r', ?_⟩, fun h => absurd h (by omega)⟩
            have := HFin.out
            rw [HN1.out] at this
            exact this
      · have hgt : ((48 - used : Nat) : Int) < (m : Int) := by omega
        have hgt2 : (48 : Int) - (used : Int) < (m : Int) := by omega
        go_wp2
        go_ret
        exact ⟨fun h => absurd h (by omega), fun _ => ⟨rfl, HB9.out⟩⟩
end Go.Proofs.Ytnclebnodkkgnaa
