/- kistref10.Put writes a superblock as the plain function does, or refuses it. -/
import Derived.Test.YtdbhagnnpjcpmaaSupMays
import Derived.Test.YtdbhagnnpjcpmaaSupPut
namespace Go.Proofs.Ytdbhagnnpjcpmaa
open Go.RowKit

theorem rmay_b {s : Sup} {t : Bool} (ht : decide (supOk s) = t) {A : Option Addr} {n c lo : Nat} {w : World} (hr : Vr w lo A n c s.vs) :
    Calls Try.prog 50 #[.agg #[.int .i64 s.gen, .int .i64 s.sec, .int .i64 s.next, .slice A n c]] w fun e w' => e = .returned (.bool t) ∧ Below w.heap.size w w' := ht ▸ rmay_any s hr

set_option maxHeartbeats 1000000 in
theorem rsput_no (s : Sup) {A : Option Addr} {n c lo : Nat} {w : World} (hr : Vr w lo A n c s.vs) (h : ¬ supOk s) :
    Calls Try.prog 15 #[.agg #[.int .i64 s.gen, .int .i64 s.sec, .int .i64 s.next, .slice A n c]] w fun e w' => e = .returned (.tuple #[.slice none 0 0, .int .i64 1]) ∧ Below w.heap.size w w' := by
  have HM := Lib.hid (rmay_b (decide_eq_false h) (hr.below (B := w.heap.size) ((Below.refl w.heap.size w).alloc (Nat.le_refl _) (.cells #[.int .i64 s.gen, .int .i64 s.sec, .int .i64 s.next, .slice A n c] 32)) (Nat.le_refl _)))
  clear h hr
  go_enter Try.func15, Try.ntmps15
  go_wp2_with ((with_reducible refine HM.out.mono ?_); rintro e w1 ⟨rfl, hb1⟩)
  go_ret2
  exact ⟨rfl, ((Below.refl _ _).alloc (Nat.le_refl _) _).trans (hb1.mono (by simp))⟩

theorem leB_one (n : Nat) : leB n 1 = [UInt8.ofNat n] := rfl

set_option maxRecDepth 100000 in
set_option maxHeartbeats 4000000 in
theorem rsput_ok (G S N : Nat) (vs : List Ver) {A : Option Addr} {n c lo : Nat} {w : World} (hr : Vr w lo A n c vs) (hok : supOk ⟨G, S, N, vs⟩) :
    Calls Try.prog 15 #[.agg #[.int .i64 G, .int .i64 S, .int .i64 N, .slice A n c]] w fun e w' =>
      ∃ A' c', e = .returned (.tuple #[.slice A' 256 c', .int .i64 0]) ∧ Own w' w.heap.size 5 1 A' 256 c' (bvs (putS ⟨G, S, N, vs⟩)) ∧ Below w.heap.size w w' := by
  have HM := Lib.hid (rmay_b (s := ⟨G, S, N, vs⟩) (decide_eq_true hok) (hr.below (B := w.heap.size) ((Below.refl w.heap.size w).alloc (Nat.le_refl _) (.cells #[.int .i64 G, .int .i64 S, .int .i64 N, .slice A n c] 32)) (Nat.le_refl _)))
  have hn : n ≤ 8 := by have := hok.1.2.2.2.2.2.2; simp only at this; rw [hr.1] at this; exact this
  have HL := Lib.hid hr.1
  have HR := Lib.hid hr
  have HOK := Lib.hid hok
  have HGN : Hid (G ≤ 4294967295 ∧ S ≤ 4096 ∧ N ≤ 4294967295) := by
    obtain ⟨h1, h2, h3, h4, h5, h6, h7⟩ := hok.1
    simp only at h2 h4 h6
    show _ ∧ _
    omega
  have hc1 := hr.2.1
  have hc2 := hr.2.2.1
  clear hr hok
  go_enter Try.func15, Try.ntmps15
  go_upto_region 4 with ((with_reducible refine HM.out.mono ?_); rintro e w1 ⟨rfl, hb1⟩)
  refine wp_world (fun V => Blk V w.heap.size 32 [.int .i64 G, .int .i64 S, .int .i64 N, .slice A n c] ∧ Below w.heap.size w V) ⟨(Blk.new w 32 [.int .i64 G, .int .i64 S, .int .i64 N, .slice A n c]).below hb1 (by simp), ((Below.refl _ _).alloc (Nat.le_refl _) _).trans (hb1.mono (by simp))⟩ ?_
  clear hb1 HM
  rintro V ⟨hB, hV⟩
  have HB := Lib.hid hB
  have k0 := hB.cell 0
  simp only [List.getElem?_cons_zero] at k0
  have hzV := hB.lt
  clear hB
  have kc := Lib.run_convert_bytes_const (P := Try.prog) V 39 5 #[.int .u8 75, .int .u8 73, .int .u8 83, .int .u8 84] 4 4 Try.underlying39 Try.underlying5
  have N1 := Lib.hid (rnumber_any G 4 (ap_kist0 V) (by simp) (by omega) (by omega) (by omega) (by have := HGN.out; omega))
  go_upto_region 6 with ((with_reducible refine Calls.mono N1.out ?_); rintro e w3 ⟨A3, c3, rfl, ho3, hg3, hf3⟩)
  have B3 := (HB.out.alloc (.cells #[.int .u8 75, .int .u8 73, .int .u8 83, .int .u8 84] 5 (4, 5))).grown hg3 (by simp; omega)
  have b3 : Below w.heap.size w w3 := (hV.alloc hV.size _).grown hg3 (by simp; omega) (by simp; omega)
  have hz3 : V.heap.size ≤ w3.heap.size := by have := hg3.size; simp at this; omega
  clear hg3 kc k0 HB hV N1
  generalize V.heap.size = base at *
  have k1 := B3.cell 1
  simp only [List.getElem?_cons_zero, List.getElem?_cons_succ] at k1
  have N2 := Lib.hid (rnumber_any S 2 (.inl ho3) hz3 (by omega) (by omega) (by omega) (by have := HGN.out; omega))
  have n3 : some w.heap.size ≠ ablk A3 := own_ne ho3 hzV
  go_upto_region 7 with ((with_reducible refine Calls.mono N2.out ?_); rintro e w4 ⟨A4, c4, rfl, ho4, hg4, hf4⟩)
  have B4 := B3.grown hg4 n3
  have b4 : Below w.heap.size w w4 := below_own b3 ho3 hg4 (Nat.le_of_lt hzV) b3.size
  have hz4 : base ≤ w4.heap.size := Nat.le_trans hz3 hg4.size
  clear hg4 hf4 hf3 B3 b3 k1 N2 ho3 n3 hz3
  have k2 := B4.cell 2
  simp only [List.getElem?_cons_zero, List.getElem?_cons_succ] at k2
  have N3 := Lib.hid (rnumber_any N 4 (.inl ho4) hz4 (by omega) (by omega) (by omega) (by have := HGN.out; omega))
  have n4 : some w.heap.size ≠ ablk A4 := own_ne ho4 hzV
  go_upto_region 8 with ((with_reducible refine Calls.mono N3.out ?_); rintro e w5 ⟨A5, c5, rfl, ho5, hg5, hf5⟩)
  have B5 := B4.grown hg5 n4
  have b5 : Below w.heap.size w w5 := below_own b4 ho4 hg5 (Nat.le_of_lt hzV) b4.size
  have hz5 : base ≤ w5.heap.size := Nat.le_trans hz4 hg5.size
  clear hg5 hf5 B4 b4 k2 N3 ho4 n4 hz4
  have k3 := B5.cell 3
  simp only [List.getElem?_cons_zero, List.getElem?_cons_succ] at k3
  have N4 := Lib.hid (rnumber_any n 1 (.inl ho5) hz5 (by omega) (by omega) (by omega) (by omega))
  have n5 : some w.heap.size ≠ ablk A5 := own_ne ho5 hzV
  go_upto_region 9 with ((with_reducible refine Calls.mono N4.out ?_); rintro e w6 ⟨A6, c6, rfl, ho6, hg6, hf6⟩)
  rw [leB_one, ← headB_nat G S N vs] at ho6
  refine wp_world (fun U => Blk U w.heap.size 32 [.int .i64 G, .int .i64 S, .int .i64 N, .slice A n c] ∧ Own U base 5 1 A6 15 c6 (bvs (headB ⟨(G : Int), S, N, vs⟩ ++ [UInt8.ofNat n])) ∧ Below w.heap.size w U ∧ base ≤ U.heap.size)
    ⟨B5.grown hg6 n5, ho6, below_own b5 ho5 hg6 (Nat.le_of_lt hzV) b5.size, Nat.le_trans hz5 hg6.size⟩ ?_
  clear B5 ho6 hg6 b5 hz5 n5 ho5 N4 k3 hf6 HGN
  rintro U ⟨hB, ho, hU, hzU⟩
  go_wp2
  go_loopw [5, 6, 7] (fun s5 s6 s7 wr => ∃ (i : Nat) (A4 : Option Addr) (c4 : Nat), i ≤ n ∧ s6 = .int .i64 i ∧ s5 = .slice A4 (15 + 11 * i) c4 ∧ Own wr base 5 1 A4 (15 + 11 * i) c4 (bvs (headB ⟨(G : Int), S, N, vs⟩ ++ [UInt8.ofNat n] ++ versB (vs.take i))) ∧ Blk wr w.heap.size 32 [.int .i64 G, .int .i64 S, .int .i64 N, .slice A n c] ∧ Below w.heap.size w wr ∧ base ≤ wr.heap.size)
    (fun _ s6 _ _ => n - (intOf s6).toNat)
  case atStart => exact ⟨0, A6, c6, Nat.zero_le _, rfl, rfl, by simpa [versB] using ho, hB, hU, hzU⟩
  case round =>
    clear hB ho hU hzU
    obtain ⟨i, A4, c4, hi, rfl, rfl, ho, hB, hU, hzU⟩ := hrel
    have hBc := hB.cells
    by_cases hlt : i < n
    · obtain ⟨b, o, rfl, _, hbl⟩ := HR.out.at_ (by omega)
      obtain ⟨d0, d1, d2, d3⟩ := (HR.out.below hU (Nat.le_refl _)).cells i hlt
      have hv := HOK.out.2 i (by rw [HL.out]; exact hlt)
      have hp := idAt_pos _ i (fun j hj => HOK.out.2 j (by show j < vs.length; rw [HL.out]; omega))
      have hnm := HOK.out.1.2.2.2.1
      have hsm := HOK.out.1.2.2.2.2.2.1
      have HT := Lib.hid (versB_take vs i (by rw [HL.out]; exact hlt))
      unfold verOk at hv
      simp only at hv hp hnm hsm
      generalize vs.getD i Ver.nil = v at *
      obtain ⟨vid, vroot, vnext, vfx⟩ := v
      simp only at d0 d1 d2 d3 hv
      obtain ⟨I, rfl⟩ := Int.eq_ofNat_of_zero_le (show 0 ≤ vid by omega)
      obtain ⟨R, rfl⟩ := Int.eq_ofNat_of_zero_le (show 0 ≤ vroot by rcases hv.2.2.1 with h | h <;> omega)
      obtain ⟨X, rfl⟩ := Int.eq_ofNat_of_zero_le (show 0 ≤ vnext by omega)
      have HVB : Hid (verB ⟨I, R, X, vfx⟩ = leB I 4 ++ leB R 2 ++ leB X 4 ++ [if vfx then 1 else 0]) := rfl
      have HIR : Hid (I < 9223372036854775808 ∧ R < 9223372036854775808 ∧ X < 9223372036854775808) := by
        show _ ∧ _
        rcases hv.2.2.1 with h | h <;> omega
      clear hv hp hnm hsm
      have HO := Lib.hid ho
      have hne : some wr.heap.size ≠ ablk A4 := fun h => by have := (ho.blk h.symm).2; omega
      clear ho
      have HLx : ∃ L, L = headB ⟨(G : Int), S, N, vs⟩ ++ [UInt8.ofNat n] ++ versB (vs.take i) := ⟨_, rfl⟩
      obtain ⟨L, hLL⟩ := HLx
      rw [← hLL] at HO
      have HLL : Hid (L ++ (leB I 4 ++ leB R 2 ++ leB X 4 ++ [if vfx then 1 else 0]) = headB ⟨(G : Int), S, N, vs⟩ ++ [UInt8.ofNat n] ++ (versB (vs.take i) ++ (leB I 4 ++ leB R 2 ++ leB X 4 ++ [if vfx then 1 else 0]))) := by show _ = _; rw [hLL, List.append_assoc _ (versB _)]
      clear hLL
      go_upto_region 13 with fail
      refine wp_world (fun U => Blk U w.heap.size 32 [.int .i64 G, .int .i64 S, .int .i64 N, .slice (some ⟨b, o, none⟩) n c] ∧ Blk U wr.heap.size 97 [.int .i64 I, .int .i64 R, .int .i64 X, .bool vfx] ∧ Own U base 5 1 A4 (15 + 11 * i) c4 (bvs L) ∧ Below w.heap.size w U ∧ base ≤ U.heap.size)
        ⟨hB.alloc _, Blk.new_at (cs := [.int .i64 I, .int .i64 R, .int .i64 X, .bool vfx]) rfl, HO.out.alloc _, hU.alloc hU.size _, by simp; omega⟩ ?_
      clear d0 d1 d2 d3 hB hU hzU HO hBc
      generalize wr.heap.size = gv at *
      rintro U ⟨hB, hG, ho, hU, hzU⟩
      have k0 := hG.cell 0
      simp only [List.getElem?_cons_zero] at k0
      have hgU := hG.lt
      have N1 := Lib.hid (rnumber_any I 4 (.inl ho) hzU (by omega) (by omega) (by omega) HIR.out.1)
      have n1 : some w.heap.size ≠ ablk A4 := own_ne ho hzV
      go_upto_region 14 with ((with_reducible refine Calls.mono N1.out ?_); rintro e w3 ⟨A3, c3, rfl, ho3, hg3, hf3⟩)
      have B3 := hB.grown hg3 n1
      have G3 := hG.grown hg3 hne
      have b3 : Below w.heap.size w w3 := below_own hU ho hg3 (Nat.le_of_lt hzV) hU.size
      have hz3 : base ≤ w3.heap.size := Nat.le_trans hzU hg3.size
      have m3 : some gv ≠ ablk A3 := ne_fresh hf3 hne hgU
      have n3 : some w.heap.size ≠ ablk A3 := own_ne ho3 hzV
      clear hB hG ho hU hzU hg3 hf3 k0 N1 n1 hgU hne
      have k1 := G3.cell 1
      simp only [List.getElem?_cons_zero, List.getElem?_cons_succ] at k1
      have N2 := Lib.hid (rnumber_any R 2 (.inl ho3) hz3 (by omega) (by omega) (by omega) HIR.out.2.1)
      go_upto_region 15 with ((with_reducible refine Calls.mono N2.out ?_); rintro e w4 ⟨A5, c5, rfl, ho4, hg4, hf4⟩)
      have B4 := B3.grown hg4 n3
      have G4 := G3.grown hg4 m3
      have b4 : Below w.heap.size w w4 := below_own b3 ho3 hg4 (Nat.le_of_lt hzV) b3.size
      have hz4 : base ≤ w4.heap.size := Nat.le_trans hz3 hg4.size
      have m4 : some gv ≠ ablk A5 := ne_fresh hf4 m3 G3.lt
      have n4 : some w.heap.size ≠ ablk A5 := own_ne ho4 hzV
      clear B3 G3 ho3 b3 hz3 hg4 hf4 k1 N2 n3 m3
      have k2 := G4.cell 2
      simp only [List.getElem?_cons_zero, List.getElem?_cons_succ] at k2
      have N3 := Lib.hid (rnumber_any X 4 (.inl ho4) hz4 (by omega) (by omega) (by omega) HIR.out.2.2)
      go_upto_region 16 with ((with_reducible refine Calls.mono N3.out ?_); rintro e w5 ⟨A6, c6, rfl, ho5, hg5, hf5⟩)
      have B5 := B4.grown hg5 n4
      have G5 := G4.grown hg5 m4
      have b5 : Below w.heap.size w w5 := below_own b4 ho4 hg5 (Nat.le_of_lt hzV) b4.size
      have hz5 : base ≤ w5.heap.size := Nat.le_trans hz4 hg5.size
      have HO7 := Lib.hid ho5
      clear B4 G4 ho4 b4 hz4 hg5 hf5 k2 N3 n4 m4 ho5
      have k3 := G5.cell 3
      simp only [List.getElem?_cons_zero, List.getElem?_cons_succ] at k3
      cases vfx
      all_goals
        go_wp2_with (at_builtin; first
          | (refine wpList_app rfl (.tmp 58) (.tmp 59) 39 rfl 5 1 Try.underlying39 info5 rfl (by omega) rfl (HO7.out.alloc _) rfl (rd_one _ _ rfl) rfl (one_int _ _) (by omega) (by omega) (by simp; omega) ?_; intro A8 c8 w8 ho8 hg8 _)
          | (refine wpList_app rfl (.tmp 61) (.tmp 62) 39 rfl 5 1 Try.underlying39 info5 rfl (by omega) rfl (HO7.out.alloc _) rfl (rd_one _ _ rfl) rfl (one_int _ _) (by omega) (by omega) (by simp; omega) ?_; intro A8 c8 w8 ho8 hg8 _))
        go_roundw
        case rel =>
          refine ⟨i + 1, A8, c8, by omega, by go_num, by rw [show 15 + 11 * (i + 1) = 15 + 11 * i + 4 + 2 + 4 + 1 by omega], ?_, (B5.alloc _).grown hg8 (own_ne HO7.out hzV), below_own (b5.alloc b5.size _) (HO7.out.alloc _) hg8 (Nat.le_of_lt hzV) (by have := b5.size; simp; omega), by have := hg8.size; simp at this; omega⟩
          rw [show 15 + 11 * (i + 1) = 15 + 11 * i + 4 + 2 + 4 + 1 by omega, HT.out, HVB.out, ← HLL.out]
          exact own_eq ho8 (by simp [bvs, bv, List.append_assoc])
        case measure => simp [intOf]; omega
    · obtain rfl : i = n := by omega
      rw [List.take_of_length_le (by rw [HL.out]; omega)] at ho
      have HBody : Hid (headB ⟨(G : Int), S, N, vs⟩ ++ [UInt8.ofNat i] ++ versB vs = bodyB ⟨(G : Int), S, N, vs⟩) := by show _ = _; rw [bodyB, HL.out]
      rw [HBody.out] at ho
      have hlb := length_bodyB ⟨(G : Int), S, N, vs⟩
      have hld := length_dataB ⟨(G : Int), S, N, vs⟩ (by simp only; rw [HL.out]; exact hn)
      simp only [HL.out] at hlb
      have HD : Hid (dataB ⟨(G : Int), S, N, vs⟩ = bodyB ⟨(G : Int), S, N, vs⟩ ++ List.replicate (252 - (bodyB ⟨(G : Int), S, N, vs⟩).length) 0) := rfl
      rw [hlb] at HD
      have HS : Hid (putS ⟨(G : Int), S, N, vs⟩ = dataB ⟨(G : Int), S, N, vs⟩ ++ leB (crc (dataB ⟨(G : Int), S, N, vs⟩)) 4) := rfl
      generalize dataB ⟨(G : Int), S, N, vs⟩ = dt at *
      generalize bodyB ⟨(G : Int), S, N, vs⟩ = bd at *
      obtain ⟨M, hM⟩ : ∃ M, 15 + 11 * i = M := ⟨_, rfl⟩
      rw [hM] at ho HD ⊢
      have hM2 : M ≤ 252 := by omega
      have HO := Lib.hid ho
      clear ho HOK HR HL hM hlb HBody hlt hi hn hc1
      go_wp2
      go_loopw [5] (fun s5 wr => ∃ (k : Nat) (A2 : Option Addr) (c2 : Nat), M + k ≤ 252 ∧ s5 = .slice A2 (M + k) c2 ∧ Own wr base 5 1 A2 (M + k) c2 (bvs (bd ++ List.replicate k 0)) ∧ Below w.heap.size w wr ∧ base ≤ wr.heap.size)
        (fun s5 _ => 252 - slen s5)
      case atStart => exact ⟨0, A4, c4, by omega, rfl, by simpa using HO.out, hU, hzU⟩
      case round =>
        clear HO hB hU hzU hBc
        obtain ⟨k, A2, c2, hk, rfl, ho2, hU, hzU⟩ := hrel
        by_cases hlt : M + k < 252
        · go_wp2_with (at_builtin; refine wpList_app rfl (.tmp 67) (.tmp 68) 39 rfl 5 1 Try.underlying39 info5 rfl (by omega) rfl (ho2.alloc _) rfl (rd_one _ _ rfl) rfl (one_int _ _) (by omega) (by omega) (by simp; omega) ?_; intro A3 c3 w3 ho3 hg3 _)
          go_roundw
          case rel => exact ⟨k + 1, A3, c3, by omega, rfl, by rw [List.replicate_succ', ← List.append_assoc, bvs_append]; exact ho3, below_own (hU.alloc hU.size _) (ho2.alloc _) hg3 (Nat.le_of_lt hzV) (by have := hU.size; simp; omega), by have := hg3.size; simp at this; omega⟩
          case measure => simp [slen]; omega
        · obtain rfl : k = 252 - M := by omega
          rw [← HD.out, show M + (252 - M) = 252 by omega] at ho2
          rw [show M + (252 - M) = 252 by omega]
          have C1 := Lib.hid (rcrc_any (own_bs ho2))
          have hcr := crc_lt dt
          have N1 := Lib.hid (rnumber_any (crc dt) 4 (.inl ho2) hzU (by omega) (by omega) (by omega) (by omega))
          have hcap := ho2.cap
          have HA : Hid (∀ g, ablk A2 = some g → base ≤ g) := fun g hg => (ho2.blk hg).1
          clear ho2 hk hlt
          generalize crc dt = cr at *
          go_wp2_with (first | ((with_reducible refine Calls.mono C1.out ?_); rintro e w6 ⟨rfl, rfl⟩) | ((with_reducible refine Calls.mono N1.out ?_); rintro e w7 ⟨A7, c7, rfl, ho7, hg7, hf7⟩))
          go_ret2
          rw [HS.out]
          exact ⟨A7, c7, rfl, ho7.weak (Nat.le_of_lt hzV), hU.grown hg7 hU.size (fun k hk => Nat.le_trans (Nat.le_of_lt hzV) (HA.out k hk))⟩
end Go.Proofs.Ytdbhagnnpjcpmaa
