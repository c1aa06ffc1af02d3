/- kistref05.Sha: the document's digest. -/
import Derived.Test.YtgfmpgflbphpcaaRef1
namespace Go.Proofs.Ytgfmpgflbphpcaa
open Go.RowKit

set_option maxRecDepth 100000 in
set_option maxHeartbeats 8000000 in
theorem rsha_any {A : Option Addr} {m c lo : Nat} {l : List UInt8} {w : World} (hb : Bs w lo A m c l) (hm : m ≤ 1099511627776) :
    Calls Try.prog 19 #[.slice A m c] w fun e w' => e = .returned (.agg (bvs (sha l)).toArray) ∧ Below w.heap.size w w' := by
  have z41 := zero41
  have b0 := (Below.refl w.heap.size w).alloc (Nat.le_refl _) (.cells (zeros 32).toArray 26)
  have HR := Lib.hid (hb.below b0 (Nat.le_refl _)).2.2.2
  have HL := Lib.hid hb.1
  clear hb
  go_enter Try.func19, Try.ntmps19
  go_wp2_with (at_builtin; first
      | (refine wpList_app rfl (.tmp 10) (.tmp 11) 22 rfl 5 1 Try.underlying22 info5 rfl (by omega) rfl (Own.nil_ _ (w.heap.size + 1) 5 1) rfl HR.out (by simpa using HL.out) (bvs_oneCell _) (by omega) (by omega) (by simp) ?_; intro A1 c1 w1 ho1 hg1 _; rw [Nat.zero_add, List.nil_append] at ho1; rw [Nat.zero_add])
      | (refine wpList_app rfl (.tmp 13) (.tmp 14) 22 rfl 5 1 Try.underlying22 info5 rfl (by omega) rfl (ho1.alloc _) rfl (rd_one _ _ rfl) rfl (one_int _ _) (by omega) (by omega) (by have := hg1.size; simp at this ⊢; omega) ?_; intro A2 c2 w2 ho2 hg2 _))
  have Z0 : Blk (w.alloc (.cells (zeros 32).toArray 26)) w.heap.size 26 (zeros 32) := Blk.new _ _ _
  have Z1 := Z0.grown hg1 (by simp)
  have Z2 := (Z1.alloc (.cells #[.int .u8 128] 5)).grown hg2 (own_ne ho1 (Nat.lt_succ_self _))
  have B1 := b0.grown hg1 (by simp) (by intro k hk; simp at hk)
  have B2 := below_own (B1.alloc B1.size (.cells #[.int .u8 128] 5)) (ho1.alloc _) hg2 (by omega) (by have := B1.size; simp; omega)
  have e2 : bvs l ++ [Value.int IntKind.u8 128] = bvs (l ++ [128] ++ List.replicate 0 0) := by simp [bvs, bv]
  rw [e2] at ho2
  have HW := Lib.hid (show ∀ V : World, Blk V w.heap.size 26 (zeros 32) → w.heap.size < V.heap.size from fun V h => h.lt)
  clear Z0 Z1 B1 ho1 hg1 hg2 e2 b0
  go_loopw [3] (fun s3 wr => ∃ (k : Nat) (A3 : Option Addr) (c3 : Nat), k ≤ padZ m ∧ s3 = .slice A3 (m + 1 + k) c3 ∧ Own wr (w.heap.size + 1) 5 1 A3 (m + 1 + k) c3 (bvs (l ++ [128] ++ List.replicate k 0)) ∧ Blk wr w.heap.size 26 (zeros 32) ∧ Below w.heap.size w wr)
    (fun s3 _ => m + 1 + padZ m - slen s3)
  case atStart => exact ⟨0, A2, c2, Nat.zero_le _, rfl, ho2, Z2, B2⟩
  case round =>
    obtain ⟨k, A3, c3, hk, rfl, ho3, Z3, B3⟩ := hrel
    clear ho2 Z2 B2
    have hpl := pad_lt m
    have hz := HW.out wr Z3
    have hNb : m + 1 + k ≤ 1099511627840 := by omega
    by_cases ht : (m + 1 + k) % 64 = 56
    · have hkm := Lib.hid (pad_out m k hk ht)
      have htm : ((m + 1 + k : Nat) : Int).tmod 64 = 56 := by rw [Int.tmod_eq_emod_of_nonneg (by omega)]; omega
      clear ht hk
      generalize hN : m + 1 + k = N at *
      have HN := Lib.hid hN
      clear hN
      go_wp2
      go_loopw [3, 5] (fun s3 s5 wr => ∃ (j : Nat) (A4 : Option Addr) (c4 : Nat), j ≤ 8 ∧ s5 = .int .i64 (56 - 8 * (j : Int)) ∧ s3 = .slice A4 (N + j) c4 ∧ Own wr (w.heap.size + 1) 5 1 A4 (N + j) c4 (bvs (l ++ [128] ++ List.replicate k 0 ++ be8 (8 * m) j)) ∧ Blk wr w.heap.size 26 (zeros 32) ∧ Below w.heap.size w wr)
        (fun s3 s5 _ => N + 8 - slen s3)
      case atStart => exact ⟨0, A3, c3, Nat.zero_le _, rfl, rfl, by simpa [be8] using ho3, Z3, B3⟩
      case round =>
        clear ho3 Z3 B3 htm
        obtain ⟨j, A4, c4, hj, rfl, rfl, ho4, Z4, B4⟩ := hrel
        have hz := HW.out wr Z4
        by_cases hlt : j < 8
        · have h0 : (0 : Int) ≤ 56 - 8 * (j : Int) := by omega
          have HJ := Lib.hid hlt
          have htn : (56 - 8 * (j : Int)).toNat = 56 - 8 * j := by omega
          go_wp2_with (at_builtin; refine wpList_app rfl (.tmp 30) (.tmp 35) 22 rfl 5 1 Try.underlying22 info5 rfl (by omega) rfl (ho4.alloc _) rfl (rd_one _ _ rfl) rfl (one_int _ _) (by omega) (by omega) (by simp; omega) ?_; intro A5 c5 w5 ho5 hg5 _)
          have Z5 := (Z4.alloc (.cells #[.int .u8 (8 * (m : Int) / 2 ^ (56 - 8 * j) % 256)] 5)).grown hg5 (own_ne ho4 (Nat.lt_succ_self _))
          have B5 := below_own (B4.alloc B4.size (.cells #[.int .u8 (8 * (m : Int) / 2 ^ (56 - 8 * j) % 256)] 5)) (ho4.alloc _) hg5 (by omega) (by have := B4.size; simp; omega)
          have e5 : Value.int .u8 (8 * (m : Int) / 2 ^ (56 - 8 * j) % 256) = bv (UInt8.ofNat (8 * m / 2 ^ (56 - 8 * j) % 256)) := by
            refine bv_of _ _ ?_
            rw [Nat.mod_mod, Int.natCast_emod, Int.natCast_ediv, Int.natCast_pow, Int.natCast_mul]
            rfl
          rw [e5, bvs_snoc, List.append_assoc] at ho5
          go_roundw
          case rel => exact ⟨j + 1, A5, c5, by omega, by rw [show (56 - 8 * (j : Int) - 8) = 56 - 8 * ((j + 1 : Nat) : Int) by omega], rfl, ho5, Z5, B5⟩
          case measure => simp [slen]; omega
        · obtain rfl : j = 8 := by omega
          have eP : l ++ [128] ++ List.replicate k 0 ++ be8 (8 * m) 8 = shaPad l := by
            rw [shaPad, HL.out, ← hkm.out]
          have hlen : (shaPad l).length = N + 8 := by
            rw [← eP]; simp [be8, HL.out]; have := HN.out; omega
          rw [eP] at ho4
          rw [← hlen] at ho4
          have HP := Lib.hid (show (shaPad l).length = N + 8 from hlen)
          have hmod := Lib.hid (show (shaPad l).length % 64 = 0 by
            have h1 := HN.out; have h2 := hkm.out; unfold padZ at h2; omega)
          have hN8 := Lib.hid (show (64 : Nat) ≤ N + 8 by have h1 := HN.out; have h2 := hkm.out; unfold padZ at h2; omega)
          generalize hPP : shaPad l = pad at *
          have HPP := Lib.hid hPP
          obtain ⟨g4, rfl, hg4, hl4⟩ := ho4.head (by rw [hlen]; omega)
          have HV0 := Lib.hid (And.intro Z4 (And.intro (own_bs ho4) B4))
          clear hPP eP hj hlt hlen hm hpl ho4 Z4 B4 HL HR
          obtain ⟨V0, rfl⟩ : ∃ V0 : World, V0 = wr := ⟨_, rfl⟩
          have h8 : (56 - 8 * ((8 : Nat) : Int)) = -8 := by omega
          rw [h8]
          clear h8
          go_wp2
          have hH : Own (V0.alloc (.cells #[.int .i64 1779033703, .int .i64 3144134277, .int .i64 1013904242, .int .i64 2773480762, .int .i64 1359893119, .int .i64 2600822924, .int .i64 528734635, .int .i64 1541459225] 3)) V0.heap.size 3 1 (some ⟨V0.heap.size, 0, none⟩) 8 8 (is shaH) :=
            Own.lit V0 3 (is shaH) (by omega) rfl (Nat.le_refl _) rfl
          have bH : Below V0.heap.size V0 (V0.alloc (.cells #[.int .i64 1779033703, .int .i64 3144134277, .int .i64 1013904242, .int .i64 2773480762, .int .i64 1359893119, .int .i64 2600822924, .int .i64 528734635, .int .i64 1541459225] 3)) := (Below.refl _ _).alloc (Nat.le_refl _) _
          go_loopw [6, 7] (fun s6 s7 wr => ∃ (i : Nat) (A6 : Option Addr) (c6 : Nat), 64 * i ≤ N + 8 ∧ s7 = .int .i64 ((64 * i : Nat) : Int) ∧ s6 = .slice A6 8 c6 ∧ Own wr V0.heap.size 3 1 A6 8 c6 (is (shaBlocks shaH pad i)) ∧ Below V0.heap.size V0 wr)
            (fun _ s7 _ => N + 8 - (intOf s7).toNat)
          case atStart => exact ⟨0, _, _, by omega, rfl, rfl, hH, bH⟩
          case round =>
            clear hH bH
            obtain ⟨i, A6, c6, hi, rfl, rfl, ho6, hb6⟩ := hrel
            have hSS := W8_H.blocks pad i
            have HS : Hid (shaBlocks shaH pad (i + 1) = shaBlock (shaBlocks shaH pad i) ((pad.drop (64 * i)).take 64)) := rfl
            by_cases hlt : 64 * i < N + 8
            · have h64 : 64 * i + 64 ≤ N + 8 := by have h1 := hmod.out; have h2 := HP.out; omega
              have hcc := HV0.out.2.1.2.1
              have hcap : 64 * i + 64 ≤ c4 := by have := HP.out; omega
              have Ob := HV0.out.2.1.cut (64 * i) (64 * i + 64) (by omega) (by have := HP.out; omega)
              have hcb := HV0.out.2.1.2.2.1
              rw [Nat.add_sub_cancel_left, Nat.zero_add] at Ob
              have HC := Lib.hid (rblock_any (w := wr) (ho6.rd.weak (Nat.zero_le _)) hSS ((Ob.weak (Nat.zero_le _)).below hb6 (Nat.le_refl _)) (Nat.le_refl _) (cS := c6))
              have HB6 := Lib.hid hb6
              have v1 : (64 * i : Nat) + 64 < 9223372036854775808 := by omega
              generalize shaBlocks shaH pad i = S at *
              have hM2 : 64 * (i + 1) = 64 * i + 64 := by omega
              have HM2 := Lib.hid hM2
              clear hM2 Ob ho6 hb6
              generalize hM : 64 * i = M at *
              have HM := Lib.hid hM
              clear hM
              go_wp2_with ((with_reducible refine (HC.out).mono ?_); rintro u w9 ⟨A9, c9, rfl, ho9, hb9⟩)
              refine ⟨⟨i + 1, A9, c9, by have := HM2.out; omega, by rw [HM2.out]; go_num, rfl, ?_, HB6.out.trans (hb9.mono HB6.out.size)⟩, by simp [intOf]; omega⟩
              rw [HS.out]
              exact ho9.weak HB6.out.size
            · have hMN : 64 * i = N + 8 := by omega
              have HO := Lib.hid (show sha l = shaOut (shaBlocks shaH pad i) by rw [sha, HPP.out, HP.out, ← hMN, Nat.mul_div_cancel_left _ (by omega)])
              rw [hMN]
              clear hMN hlt hi
              generalize shaBlocks shaH pad i = S at *
              have HS8 := Lib.hid hSS.1
              clear hSS HS
              have HO6 := Lib.hid ho6
              have HB6 := Lib.hid hb6
              clear ho6 hb6
              go_wp2
              have O0 : Blk (wr.alloc (.cells (zeros 32).toArray 26)) wr.heap.size 26 (bvs (outP (shaOut S) 0)) := by
                rw [show bvs (outP (shaOut S) 0) = zeros 32 by simp [outP, zeros_bvs]]
                exact Blk.new _ _ _
              have hZO : w.heap.size < wr.heap.size := Nat.lt_of_lt_of_le HV0.out.1.lt HB6.out.size
              obtain ⟨g6, rfl, hg6, hl6, hcS⟩ := own_is HO6.out (by omega)
              have HcS : Hid (∀ V, Below wr.heap.size wr V → ∀ j, j < 8 → V.cell? ⟨g6, j, none⟩ = some (.int .i64 (S.getD j 0 : Nat))) := fun V hV j hj => below_cell hV (hcS j (by rw [HS8.out]; exact hj))
              have HZ := Lib.hid (And.intro (HV0.out.1.below HB6.out HV0.out.1.lt) (HV0.out.2.2.trans (HB6.out.mono HV0.out.2.2.size)))
              refine wp_world (fun V => Blk V wr.heap.size 26 (bvs (outP (shaOut S) 0)) ∧ Below wr.heap.size wr V) ⟨O0, (Below.refl _ _).alloc (Nat.le_refl _) _⟩ ?_
              clear O0 hcS HB6 HO6
              obtain ⟨W0, rfl⟩ : ∃ W0 : World, W0 = wr := ⟨_, rfl⟩
              rintro V ⟨O1, B1⟩
              go_loopw [9] (fun s9 wr => ∃ i : Nat, i ≤ 32 ∧ s9 = .int .i64 i ∧ Blk wr W0.heap.size 26 (bvs (outP (shaOut S) i)) ∧ Below W0.heap.size W0 wr)
                (fun s9 _ => 32 - (intOf s9).toNat)
              case atStart => exact ⟨0, by omega, rfl, O1, B1⟩
              case round =>
                clear O1 B1 V
                obtain ⟨i, hi, rfl, O1, B1⟩ := hrel
                by_cases hlt : i < 32
                · have cs := HcS.out _ B1 (i / 4) (by omega)
                  have hc := (O1.cell i).trans (outP_next (shaOut S) i (length_shaOut S HS8.out) hlt)
                  have hf := O1.frozen i
                  have hv := shaOut_get S HS8.out (i / 4) (i % 4) (by omega) (by omega)
                  rw [show 4 * (i / 4) + i % 4 = i by omega] at hv
                  generalize S.getD (i / 4) 0 = x at *
                  have Hv := Lib.hid (show Value.int .u8 ((x : Int) / 2 ^ (24 - 8 * (i % 4)) % 256) = bv ((shaOut S).getD i 0) by
                    rw [hv]
                    refine bv_of _ _ ?_
                    rw [Nat.mod_mod, Int.natCast_emod, Int.natCast_ediv, Int.natCast_pow]
                    rfl)
                  have HB := Lib.hid (And.intro O1 B1)
                  have i32 : (i : Int) < 32 := by omega
                  have h24 : (0 : Int) ≤ 24 - 8 * ((i : Int) % 4) := by omega
                  have htn : (24 - 8 * ((i : Int) % 4)).toNat = 24 - 8 * (i % 4) := by omega
                  have hd4 : ((i : Int) / 4) < 8 := by omega
                  have hd5 : ((i : Int) / 4).toNat = i / 4 := by omega
                  clear hv O1 B1
                  go_wp2
                  refine ⟨⟨i + 1, by omega, by go_num, ?_, HB.out.2.setCell (Nat.le_refl _) _⟩, by simp [intOf]; omega⟩
                  rw [Hv.out]
                  have h2 := HB.out.1.set_ i (bv ((shaOut S).getD i 0))
                  rw [outP_set _ _ (length_shaOut S HS8.out) hlt] at h2
                  exact h2
                · have h32 : (i : Int) = 32 := by omega
                  rw [h32]
                  obtain rfl : i = 32 := by omega
                  clear h32 hlt hi
                  rw [show outP (shaOut S) 32 = shaOut S by rw [outP, List.take_of_length_le (by rw [length_shaOut S HS8.out]; omega)]; simp, ← HO.out] at O1
                  have Z1 := HZ.out.1.below B1 HZ.out.1.lt
                  have bW := HZ.out.2.trans (B1.mono HZ.out.2.size)
                  go_wp2_with (first
                    | (((with_reducible refine wpList_load_row (o := ⟨some 68, _, _, _, _, _⟩) ?_ 26 (.tmp 8) ?_ W0.heap.size ?_ 26 (bvs (sha l)).toArray (0, 0) _ ?_ Try.underlying26 ?_ ?_ ?_); rfl; rfl; rfl; exact O1; rfl; (rw [size41]; simp [length_sha])))
                    | (((with_reducible refine row_set (o := ⟨none, _, _, _, _, _⟩) ?_ ?_ 26 (.tmp 2) (.tmp 68) ?_ w.heap.size ?_ (bvs (sha l)) ?_ 26 (zeros 32) ?_ ?_ ?_ ?_ ?_); rfl; rfl; rfl; rfl; rfl; exact Z1; (rw [size41]; simp [length_sha]); (simp [length_sha, zeros]); exact bvs_oneCell _; (intro w9 X9 g9))))
                  refine bodyPost_ret (results_cell_row rfl _ w9 w.heap.size 26 _ (0, 0) _ rfl X9.out Try.underlying26 rfl (by rw [size41]; simp [length_sha])) rfl ?_
                  exact ⟨rfl, bW.grown g9 bW.size (by intro k hk; simp at hk; omega)⟩
    · have HK := Lib.hid (pad_in m k hk ht)
      have htm : ¬ ((m + 1 + k : Nat) : Int).tmod 64 = 56 := by rw [Int.tmod_eq_emod_of_nonneg (by omega)]; omega
      clear ht
      generalize hN : m + 1 + k = N at *
      have HN := Lib.hid hN
      clear hN hk
      have hbn : ((N : Int) % 64 != 56) = true := by rw [Int.tmod_eq_emod_of_nonneg (by omega)] at htm; simpa using htm
      clear htm
      go_wp2_with (at_builtin; refine wpList_app rfl (.tmp 20) (.tmp 21) 22 rfl 5 1 Try.underlying22 info5 rfl (by omega) rfl (ho3.alloc _) rfl (rd_one _ _ rfl) rfl (one_int _ _) (by omega) (by omega) (by simp; omega) ?_; intro A4 c4 w4 ho4 hg4 _)
      have Z4 := (Z3.alloc (.cells #[.int .u8 0] 5)).grown hg4 (own_ne ho3 (Nat.lt_succ_self _))
      have B4 := below_own (B3.alloc B3.size (.cells #[.int .u8 0] 5)) (ho3.alloc _) hg4 (by omega) (by have := B3.size; simp; omega)
      go_roundw
      case rel => exact ⟨k + 1, A4, c4, HK.out, by rw [← HN.out]; rfl, by rw [List.replicate_succ', ← List.append_assoc, bvs_append, show m + 1 + (k + 1) = N + 1 by have := HN.out; omega]; exact ho4, Z4, B4⟩
      case measure => have := HK.out; have := HN.out; simp [slen]; omega
end Go.Proofs.Ytgfmpgflbphpcaa
