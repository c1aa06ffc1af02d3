/- What lies in a journal is told: journal.Open. No condition. -/
import Derived.Test.YtnclebnodkkgnaaJrA
import Derived.Test.YtnclebnodkkgnaaJrS
import Derived.Test.YtnclebnodkkgnaaLibEq
namespace Go.Proofs.Ytnclebnodkkgnaa
open Go.RowKit
set_option linter.unusedSimpArgs false
set_option linter.unusedVariables false

def secs (s : Dsk) (k : Nat) : List UInt8 := hasD s (2 + k)
theorem info33 : (Try.prog.info? 33).map (fun i => (i.zero, i.size, i.bytes)) = some (some (.slice none 0 0), 1, 24) := by kernel_rfl

set_option maxRecDepth 100000 in
set_option maxHeartbeats 8000000 in
theorem open_ok {w : World} {base : Nat} {d : Dw} {s : Dsk} (h : Dk w base d s) (hs : 50 ≤ s.n) {G : Nat} (hG : 1 ≤ G ∧ G ≤ 4294967295) :
    Calls Try.prog 22 #[.pointer (some ⟨d.g, 0, none⟩), .int .i64 G] w fun e w' =>
      ∃ A n c vs, e = .returned (.tuple #[.slice A n c, .int .i64 0]) ∧ Own w' w.heap.size 33 1 A n c vs ∧ SlO w' w.heap.size vs (openS (secs s) G) ∧ Below w.heap.size w w' := by
  have C0 := Lib.hid (may_ok h hs hG)
  have HD := Lib.hid h
  have HG := Lib.hid hG
  clear h hG
  go_enter Try.func22, Try.ntmps22
  go_wp2
  go_step3
  go_wp2_with (((with_reducible refine Calls.mono C0.out ?_); rintro e w1 ⟨rfl, rfl⟩))
  go_step3
  clear C0
  go_wp2
  go_loopw [6, 7, 8, 9, 10, 11, 12, 13, 14] (fun s6 s7 _ _ _ _ _ _ _ wr => ∃ (A : Option Addr) (n c : Nat) (vs : List Value) (ls : List (List UInt8)) (p f : Nat), s6 = .slice A n c ∧ s7 = .int .i64 p ∧ ls.length = n ∧ n ≤ p ∧ p ≤ 48 ∧ 48 ≤ p + f ∧
      Own wr w1.heap.size 33 1 A n c vs ∧ SlO wr w1.heap.size vs ls ∧ Below w1.heap.size w1 wr ∧ openGo (secs s) G f p ls = openS (secs s) G) (fun _ s7 _ _ _ _ _ _ _ _ => 48 - (intOf s7).toNat)
  case atStart => exact ⟨none, 0, 0, [], [], 0, 48, rfl, rfl, rfl, by omega, by omega, by omega, Own.nil_ _ _ _ _, All2.nil, Below.refl _ _, rfl⟩
  case round =>
    obtain ⟨A, n, c, vs, ls, p, f, rfl, rfl, hn, hnp, hp48, hpf, hO, hS, hB, hgo⟩ := hrel
    have HN := Lib.hid hn
    have HO := Lib.hid hO
    have HS := Lib.hid hS
    have HB := Lib.hid hB
    have HGo := Lib.hid hgo
    clear hn hO hS hB hgo
    by_cases hp : p < 48
    · obtain ⟨W0, rfl⟩ : ∃ W0, W0 = wr := ⟨_, rfl⟩
      obtain ⟨X, hX⟩ : ∃ X, X = recAll (secs s) G p (ls.length + 1) := ⟨_, rfl⟩
      obtain ⟨M, hM⟩ : ∃ M, M = recM (secs s) p := ⟨_, rfl⟩
      have HX := Lib.hid hX
      have HM := Lib.hid hM
      have hM8 : M < 256 := by rw [hM]; exact UInt8.toNat_lt _
      obtain ⟨N, hN⟩ : ∃ N, N = n + 1 := ⟨_, rfl⟩
      have HNN := Lib.hid hN
      clear hX hM hN
      go_wp2
      rw [show decide ((p : Int) < 48) = true from decide_eq_true (by omega)]
      go_loopw [8, 9, 10, 11, 12, 13, 14] (fun s8 s9 s10 _ _ _ _ wq => ∃ (A8 : Option Addr) (n8 c8 : Nat) (acc : List UInt8) (i mv : Nat), s8 = .slice A8 n8 c8 ∧ s10 = .int .i64 i ∧ s9 = .int .i64 mv ∧
          ((i = 0 ∧ mv = 1 ∧ acc = []) ∨ (1 ≤ i ∧ mv = M ∧ 1 ≤ M ∧ p + M ≤ 48 ∧ i ≤ M)) ∧ n8 ≤ 232 * i ∧
          Own wq W0.heap.size 5 1 A8 n8 c8 (bvs acc) ∧ Below W0.heap.size W0 wq ∧ recGo (secs s) G p N M (M - i) i acc = X) (fun _ _ s10 _ _ _ _ _ => 256 - (intOf s10).toNat)
      case atStart => exact ⟨none, 0, 0, [], 0, 1, rfl, rfl, rfl, .inl ⟨rfl, rfl, rfl⟩, by omega, Own.nil_ _ _ _ _, Below.refl _ _, by rw [HX.out, HN.out, ← HNN.out, HM.out]; rfl⟩
      case round =>
        obtain ⟨A8, n8, c8, acc, i, mv, rfl, rfl, rfl, hcase, hn8, hO8, hB8, hrg⟩ := hrel
        have HO8 := Lib.hid hO8
        have HB8 := Lib.hid hB8
        have HR := Lib.hid hrg
        have HBW : Hid (Below w1.heap.size w1 W0) := HB
        have hd := (HD.out.below HBW.out (Nat.le_refl _)).below HB8.out (Nat.le_refl _)
        have HDq := Lib.hid hd
        clear hO8 hB8 hrg hd
        have hi : i ≤ 255 := by omega
        by_cases hlt : i < mv
        · have hpi : p + i < 48 := by omega
          have C1a := dread_ok HDq.out (k := 2 + p + i) (by omega)
          have hS0 : hasD s (2 + p + i) = secs s (p + i) := by unfold secs; rw [Nat.add_assoc]
          have hl0 := hasD_len HDq.out (k := 2 + p + i) (by omega)
          rw [hS0] at C1a hl0
          obtain ⟨S, hS⟩ : ∃ S, S = secs s (p + i) := ⟨_, rfl⟩
          rw [← hS] at C1a hl0
          push_cast at C1a
          have C1 := Lib.hid C1a
          have HSS := Lib.hid hS
          have HL0 := Lib.hid hl0
          have HC := Lib.hid hcase
          obtain ⟨k, hk⟩ : ∃ k, k = pcK S := ⟨_, rfl⟩
          have hk8 : k < 256 := by rw [hk]; exact UInt8.toNat_lt _
          have HKK := Lib.hid hk
          clear C1a hS0 hl0 hS hcase hk
          go_upto_if 40 with ((with_reducible refine Calls.mono C1.out ?_); rintro e w4 ⟨g, rfl, hb4, hg4, hB4⟩)
          have hc3 : w4.cell? ⟨g, 3, none⟩ = some (.int .u8 (k : Int)) := by
            rw [hb4.cell, HKK.out]
            simp only [bvs, List.getElem?_map]
            rw [List.getElem?_eq_getElem (by rw [HL0.out]; omega)]
            simp [bv, pcK, List.getD_eq_getElem?_getD, List.getElem?_eq_getElem (show 3 < S.length by rw [HL0.out]; omega)]
          have HB4 := Lib.hid hb4
          have HBB4 := Lib.hid hB4
          clear hb4 hB4 C1
          go_cut [9] (fun s9 wx => s9 = .int .i64 M ∧ w4 = wx)
          case first =>
            rcases HC.out with ⟨h0, h1, h2⟩ | ⟨h0, h1, h2⟩
            · have hc2 : w4.cell? ⟨g, 2, none⟩ = some (.int .u8 (M : Int)) := by
                have e : S = secs s p := by rw [HSS.out, h0, Nat.add_zero]
                have e2 : M = (S.getD 2 0).toNat := by rw [HM.out, recM, e]
                rw [HB4.out.cell, e2]
                simp only [bvs, List.getElem?_map]
                rw [List.getElem?_eq_getElem (by rw [HL0.out]; omega)]
                simp [bv, List.getD_eq_getElem?_getD, List.getElem?_eq_getElem (show 2 < S.length by rw [HL0.out]; omega)]
              go_wp2
              go_meet
              exact ⟨rfl, rfl⟩
            · have hne : ¬ i = 0 := by omega
              go_wp2
              go_meet
              exact ⟨by rw [h1], rfl⟩
          case rest =>
            obtain ⟨rfl, rfl⟩ := hcut
            go_upto_region 16 with fail
            obtain ⟨L, hL⟩ : ∃ L, L = decide (i + 1 = M) := ⟨_, rfl⟩
            have HL := Lib.hid hL
            clear hL
            go_cut [14] (fun s14 wx => s14 = .bool L ∧ w4 = wx)
            case first =>
              by_cases hl : i + 1 = M
              · have e1 : ((i : Int) == (M : Int) - 1) = true := beq_iff_eq.2 (by omega)
                go_wp2
                go_meet
                exact ⟨by rw [HL.out, decide_eq_true hl], rfl⟩
              · have e1 : ((i : Int) == (M : Int) - 1) = false := beq_eq_false_iff_ne.2 (by omega)
                go_wp2
                go_meet
                exact ⟨by rw [HL.out, decide_eq_false hl], rfl⟩
            case rest =>
              obtain ⟨rfl, rfl⟩ := hcut
              go_upto_region 17 with fail
              obtain ⟨B, hBB⟩ : ∃ B, B = badB M p k i := ⟨_, rfl⟩
              have HBB := Lib.hid hBB
              clear hBB
              go_cut [83] (fun s83 wx => s83 = .bool B ∧ w4 = wx)
              case first =>
                have hLv := HL.out
                have hBv := HBB.out
                unfold badB at hBv
                by_cases a1 : M < 1
                · have r : B = true := by rw [hBv]; simp [a1]
                  clear hLv hBv
                  go_wp2
                  go_meet
                  exact ⟨by first | (rw [r]; done) | (rw [r]; simp; omega), rfl⟩
                by_cases a2 : 48 < p + M
                · have r : B = true := by rw [hBv]; simp [a2]
                  clear hLv hBv
                  go_wp2
                  go_meet
                  exact ⟨by first | (rw [r]; done) | (rw [r]; simp; omega), rfl⟩
                by_cases a3 : 232 < k
                · have r : B = true := by rw [hBv]; simp [a3]
                  clear hLv hBv
                  go_wp2
                  go_meet
                  exact ⟨by first | (rw [r]; done) | (rw [r]; simp; omega), rfl⟩
                by_cases a4 : i + 1 = M
                · obtain rfl : L = true := by rw [hLv]; exact decide_eq_true a4
                  by_cases a5 : 0 < i
                  · by_cases a6 : k = 0
                    · have r : B = true := by rw [hBv]; simp [a4, a5, a6]
                      have e6 : ((k : Int) == 0) = true := beq_iff_eq.2 (by omega)
                      have A6 := Lib.hid a6
                      clear hLv hBv a6
                      go_wp2
                      go_meet
                      exact ⟨by first | (rw [r]; done) | (rw [r]; simp; omega), rfl⟩
                    · have r : B = false := by rw [hBv]; simp [a1, a2, a3, a4, a6]
                      clear hLv hBv
                      go_wp2
                      go_meet
                      exact ⟨by first | (rw [r]; done) | (rw [r]; simp; omega), rfl⟩
                  · have r : B = false := by rw [hBv]; simp [a1, a2, a3, a4, a5]
                    clear hLv hBv
                    go_wp2
                    go_meet
                    exact ⟨by first | (rw [r]; done) | (rw [r]; simp; omega), rfl⟩
                · obtain rfl : L = false := by rw [hLv]; exact decide_eq_false a4
                  by_cases a5 : k = 232
                  · have r : B = false := by rw [hBv, decide_eq_false a1, decide_eq_false a2, decide_eq_false a3, decide_eq_false a4, decide_eq_true a5]; rfl
                    have e6 : ((k : Int) != 232) = false := by simp; omega
                    have A5 := Lib.hid a5
                    clear hLv hBv a5
                    go_wp2
                    go_meet
                    exact ⟨by first | (rw [r]; done) | (rw [r]; simp; omega), rfl⟩
                  · have r : B = true := by rw [hBv]; simp [a4, a5]
                    clear hLv hBv
                    go_wp2
                    go_meet
                    exact ⟨by first | (rw [r]; done) | (rw [r]; simp; omega), rfl⟩
              case rest =>
                obtain ⟨rfl, rfl⟩ := hcut
                have hW4 : Below W0.heap.size W0 w4 := HB8.out.trans (HBB4.out.mono HB8.out.size)
                have HW4 := Lib.hid hW4
                have hBQ := Lib.hid HBB4.out
                clear hW4
                cases hB : B with
                | true =>
                  rw [hB] at HBB
                  have hnone : recAt (secs s) G p (ls.length + 1) = none := by
                    have hb := HBB.out.symm
                    rw [HKK.out, HSS.out] at hb
                    rcases HC.out with ⟨h0, h1, h2⟩ | ⟨h0, h1, h2, h3, h4⟩
                    · subst h0
                      rw [HM.out] at hb
                      exact recAt_bad hb
                    · have hi2 : i < M := by omega
                      have := recGo_bad (sec := secs s) (G := G) (p := p) (N := N) (acc := acc) hi2 hb
                      rw [HR.out] at this
                      exact recAt_none (by rw [← HX.out, this])
                  have hls : openS (secs s) G = ls := by rw [← HGo.out]; exact openGo_stop hp hnone
                  have HLS := Lib.hid hls
                  clear hls hnone
                  go_wp2
                  (try rw [Exit.noGoto_ret])
                  go_ret2
                  exact ⟨A, n, c, vs, rfl, HO.out.below HW4.out (Nat.le_refl _), by rw [HLS.out]; exact HS.out.below HW4.out (Nat.le_refl _), HB.out.trans (HW4.out.mono HB.out.size)⟩
                | false =>
                  rw [hB] at HBB
                  obtain ⟨m1, m2, m3⟩ := badB_ok HBB.out.symm
                  have hiM : i < M := by rcases HC.out with ⟨h0, _⟩ | ⟨h0, h1, _⟩ <;> omega
                  have hsl : ∀ w : World, (Instr.slice 33 (.slice (some ⟨g, 0, none⟩) 256 256) (some (.int .i64 12)) (some (.int .i64 (12 + (k : Int)))) none).run Try.prog w = .ok (.slice (some ⟨g, 12, none⟩) k 244) w := fun w => by
                    have h := run_part (w := w) (A := some ⟨g, 0, none⟩) (m := 256) (c := 256) 12 (12 + k) (by omega) (by omega)
                    push_cast at h
                    rw [show 12 + k - 12 = k by omega, show partA (some ⟨g, 0, none⟩) 256 12 = some ⟨g, 12, none⟩ from rfl] at h
                    exact h
                  have hda : Bs w4 0 (some ⟨g, 12, none⟩) k 244 (pcD S) := by
                    have h := HB4.out.bs 0 12 k 244 (Nat.zero_le _) (by omega) (by omega) (by rw [HL0.out]; omega)
                    rw [pcD, ← HKK.out]
                    exact h
                  obtain ⟨P, hP⟩ : ∃ P, P = pieceB G N i M (pcD S) := ⟨_, rfl⟩
                  have C2a := piece_any G N i M hda m3 HG.out.2 (by rw [HNN.out]; omega) (by omega) (by omega)
                  rw [← hP, HNN.out] at C2a
                  push_cast at C2a
                  have C2 := Lib.hid C2a
                  have HP := Lib.hid hP
                  have HDA := Lib.hid hda
                  have HBS : Hid (Bs w4 0 (some ⟨g, 0, none⟩) 256 256 S) := Lib.hid (HB4.out.bs0 0 256 256 (Nat.zero_le _) (by omega) (by omega) HL0.out)
                  clear C2a hP hda hc3
                  by_cases hSP : S = P
                  · have HSP := Lib.hid hSP
                    clear hSP
                    go_upto_region 19 with (first
                      | ((with_reducible refine Calls.mono C2.out ?_); rintro e w5 ⟨A5, c5, rfl, ho5, hb5⟩; have C3 := Lib.hid (equal_b (HBS.out.below hb5 (Nat.le_refl _)) (own_bs ho5) (decide_eq_true HSP.out)); have HB5 := Lib.hid hb5; clear ho5 hb5)
                      | ((with_reducible refine Calls.mono C3.out ?_); rintro e w6 ⟨rfl, hw6⟩))
                    subst hw6
                    have hW5 : Below W0.heap.size W0 w5 := HW4.out.trans (HB5.out.mono HW4.out.size)
                    have HO5 := Lib.hid (HO8.out.below (hBQ.out.trans (HB5.out.mono hBQ.out.size)) (Nat.le_refl _))
                    have HDA5 := Lib.hid (HDA.out.below HB5.out (Nat.le_refl _))
                    have HW5 := Lib.hid hW5
                    have hz5 := hW5.size
                    clear hW5
                    go_upto_region 10 with (at_builtin; refine wpList_app rfl (.tmp 98) (.tmp 102) 33 rfl 5 1 Try.underlying33 info5 rfl (by omega) rfl HO5.out rfl HDA5.out.2.2.2 (by simpa using HDA5.out.1) (bvs_oneCell _) (by omega) (by omega) hz5 ?_; intro A9 c9 w9 ho9 hg9 _)
                    rw [← bvs_append] at ho9
                    have hW9 : Below W0.heap.size W0 w9 := below_own HW5.out HO5.out hg9 (Nat.le_refl _) hz5
                    have hr9 : recGo (secs s) G p N M (M - (i + 1)) (i + 1) (acc ++ pcD S) = X := by
                      have hb := HBB.out.symm
                      rw [HKK.out, HSS.out] at hb
                      have he : secs s (p + i) = pieceB G N i M (pcD (secs s (p + i))) := by rw [← HSS.out, ← HP.out]; exact HSP.out
                      have := recGo_eq (acc := acc) hiM hb he
                      rw [← HSS.out, HR.out] at this
                      exact this.symm
                    have HO9 := Lib.hid ho9
                    have HW9 := Lib.hid hW9
                    have HR9 := Lib.hid hr9
                    clear ho9 hW9 hr9 hg9 hz5
                    go_wp2
                    go_roundw
                    case rel => exact ⟨A9, n8 + k, c9, acc ++ pcD S, i + 1, M, rfl, by norm_cast, rfl, .inr ⟨by omega, rfl, m1, m2, by omega⟩, by omega, HO9.out, HW9.out, HR9.out⟩
                    case measure => simp only [intOf]; omega
                  · have hnone : recAt (secs s) G p (ls.length + 1) = none := by
                      have hb : ¬ secs s (p + i) = pieceB G N i M (pcD (secs s (p + i))) := by rw [← HSS.out, ← HP.out]; exact hSP
                      have := recGo_ne (acc := acc) hiM hb
                      rw [HR.out] at this
                      exact recAt_none (by rw [← HX.out, this])
                    have hls : openS (secs s) G = ls := by rw [← HGo.out]; exact openGo_stop hp hnone
                    have HLS := Lib.hid hls
                    have HSP := Lib.hid hSP
                    clear hls hnone hSP
                    go_wp2_with (first
                      | ((with_reducible refine Calls.mono C2.out ?_); rintro e w5 ⟨A5, c5, rfl, ho5, hb5⟩; have C3 := Lib.hid (equal_b (HBS.out.below hb5 (Nat.le_refl _)) (own_bs ho5) (decide_eq_false HSP.out)); have HB5 := Lib.hid hb5; clear ho5 hb5)
                      | ((with_reducible refine Calls.mono C3.out ?_); rintro e w6 ⟨rfl, hw6⟩; subst hw6))
                    (try rw [Exit.noGoto_ret])
                    go_ret2
                    have HW5 := HW4.out.trans (HB5.out.mono HW4.out.size)
                    exact ⟨A, n, c, vs, rfl, HO.out.below HW5 (Nat.le_refl _), by rw [HLS.out]; exact HS.out.below HW5 (Nat.le_refl _), HB.out.trans (HW5.mono HB.out.size)⟩
        · obtain ⟨h1, rfl, m1, m2, m3⟩ : 1 ≤ i ∧ mv = M ∧ 1 ≤ M ∧ p + M ≤ 48 ∧ i ≤ M := by
            rcases hcase with ⟨h0, h1, h2⟩ | h0
            · omega
            · exact h0
          obtain rfl : i = mv := by omega
          have hsome : recAt (secs s) G p (ls.length + 1) = some (acc, i) := by
            have h := HR.out
            rw [Nat.sub_self] at h
            have := recAt_some (sec := secs s) (G := G) (p := p) (N := ls.length + 1) (b := acc) (by rw [← HM.out]; omega) (by rw [← HM.out]; omega) (by rw [← HX.out, ← h]; rfl)
            rw [this, HM.out]
          have hgo2 : ∃ f', 48 ≤ p + i + f' ∧ openGo (secs s) G f' (p + i) (ls ++ [acc]) = openS (secs s) G := by
            cases f with
            | zero => omega
            | succ f' => exact ⟨f', by omega, by rw [← HGo.out, openGo_next hp hsome]⟩
          obtain ⟨f', hf', hgo'⟩ := hgo2
          have HGo2 := Lib.hid hgo'
          have HOW := Lib.hid (HO.out.below HB8.out (Nat.le_refl _))
          have HSW := Lib.hid (HS.out.below HB8.out (Nat.le_refl _))
          have HBW2 := Lib.hid (HB.out.trans (HB8.out.mono HB.out.size))
          have hzw := HBW2.out.size
          have hS1 : SlO wr w1.heap.size [.slice A8 n8 c8] [acc] := SlO.one (HO8.out.weak HBW.out.size)
          have HSA : Hid (SlO wr w1.heap.size (vs ++ [.slice A8 n8 c8]) (ls ++ [acc])) := Lib.hid (all2_append hS1 HSW.out)
          have hln := HN.out
          clear hcase hsome hgo' hS1
          have HLN := Lib.hid hln
          clear hln
          go_upto_region 21 with (at_builtin; refine wpList_app rfl (.tmp 104) (.tmp 106) 22 rfl 33 1 Try.underlying22 info33 rfl (by omega) rfl (HOW.out.alloc _) rfl (rd_one (.slice A8 n8 c8) 33 rfl) rfl (by intro u hu; rw [List.mem_singleton] at hu; rw [hu]; rfl) (by omega) (by omega) (by simp; omega) ?_; intro A9 c9 w9 ho9 hg9 _)
          have hS9 := (HSA.out.below ((Below.refl _ _).alloc (Nat.le_refl _) (.cells #[.slice A8 n8 c8] 33)) (Nat.le_refl _)).keep (HOW.out.alloc _) (by decide) hg9
          have hB9 := below_own (HBW2.out.alloc hzw (.cells #[.slice A8 n8 c8] 33)) (HOW.out.alloc _) hg9 (Nat.le_refl _) (by simp; omega)
          have HO9 := Lib.hid ho9
          have HS9 := Lib.hid hS9
          have HB9 := Lib.hid hB9
          clear ho9 hS9 hB9 hg9
          go_wp2
          go_roundw
          case rel => exact ⟨A9, n + 1, c9, _, ls ++ [acc], p + i, f', rfl, by norm_cast, by rw [List.length_append, HLN.out]; rfl, by omega, m2, hf', HO9.out, HS9.out, HB9.out, HGo2.out⟩
          case measure => simp only [intOf]; omega
    · have hend : openS (secs s) G = ls := by rw [← HGo.out]; exact openGo_end (by omega)
      have HE := Lib.hid hend
      clear hend
      go_wp2
      (try rw [Exit.noGoto_ret])
      go_ret2
      exact ⟨A, n, c, vs, rfl, HO.out, by rw [HE.out]; exact HS.out, HB.out⟩
end Go.Proofs.Ytnclebnodkkgnaa
