/- The document's Get of a block. -/
import Derived.Test.YtjndopmjlbhajaaGet
import Derived.Test.YtjndopmjlbhajaaBlkR
namespace Go.Proofs.Ytjndopmjlbhajaa
open Go.RowKit


set_option maxHeartbeats 400000 in
theorem rget_len (n : Int) {A : Option Addr} {m c : Nat} {w : World} (hm : m ≠ 256) :
    Calls Try.prog 34 #[.int .i64 n, .slice A m c] w fun e w' => e = noBlk 1 ∧ Below w.heap.size w w' := by
  have h1 : ((m : Int) != 256) = true := by rw [bne_iff_ne]; omega
  have hz := zero24
  go_enter Try.func34, Try.ntmps34
  go_wp2
  refine bodyPost_ret (v := .tuple #[.agg #[.int .i64 0, .slice none 0 0], .int .i64 1]) (by simp [results, Try.results34, go_sem]) rfl ⟨rfl, ?_⟩
  exact (Below.refl _ _).alloc (Nat.le_refl _) _

/-- what a Get of 256 bytes leaves -/
def GetPost (w : World) (n : Int) (l : List UInt8) (e : Ending) (w' : World) : Prop :=
  if l.drop 252 = le4 (crc (l.take 252)) then
    if 240 < blkLen l then e = noBlk 7 ∧ Below w.heap.size w w' else GetTail w n l e w'
  else e = noBlk 6 ∧ Below w.heap.size w w'

set_option maxRecDepth 100000 in
set_option maxHeartbeats 2000000 in
theorem rget_any (n : Int) {A : Option Addr} {c lo : Nat} {l : List UInt8} {w : World} (hb : Bs w lo A 256 c l) :
    Calls Try.prog 34 #[.int .i64 n, .slice A 256 c] w (GetPost w n l) := by
  have hz := zero24
  obtain ⟨b, o, rfl, _, hbs⟩ := hb.at_ (by omega)
  have hc : (252 : Int) ≤ (c : Int) := by have := hb.2.1; omega
  have hd : 256 ≤ c := hb.2.1
  have hx := hb.2.2.1
  have Q0 := Lib.hid hb
  have c0 : w.cell? ⟨b, o, none⟩ = some (.int .u8 (blkKind l : Nat)) := hb.cell 0 (by omega)
  have c1 : w.cell? ⟨b, o + 1, none⟩ = some (.int .u8 (blkLen l : Nat)) := hb.cell 1 (by omega)
  have hk1 : blkLen l < 256 := (l.getD 1 0).toNat_lt
  have hk2 : blkKind l < 256 := (l.getD 0 0).toNat_lt
  have hs := crc_lt (l.take 252)
  have Q1 := Lib.hid (hb.take 252 (by omega))
  have C1 := Lib.hid c1
  have C0 := Lib.hid c0
  clear c0 c1 hb
  go_enter Try.func34, Try.ntmps34
  go_upto_region 4 with (go_at_call 37; refine (rcrc_any (Q1.out.below (B := w.heap.size) ((Below.refl _ _).alloc (Nat.le_refl _) _) (Nat.le_refl _))).mono ?_; rintro e w3 ⟨rfl, rfl⟩)
  have HP : Hid (∀ e w', GetPost w n l e w' = if l.drop 252 = le4 (crc (l.take 252)) then if 240 < blkLen l then e = noBlk 7 ∧ Below w.heap.size w w' else GetTail w n l e w' else e = noBlk 6 ∧ Below w.heap.size w w') := fun _ _ => rfl
  generalize crc (l.take 252) = s at *
  refine wp_world (fun W => Below w.heap.size w W ∧ w.heap.size < W.heap.size ∧ Blk W w.heap.size 33 [.int .i64 0, .slice none 0 0]) ⟨(Below.refl _ _).alloc (Nat.le_refl _) _, by simp, Blk.new_at (cs := [.int .i64 0, .slice none 0 0]) rfl⟩ ?_
  rintro W ⟨hbW, hzW, hD⟩
  clear Q1
  have hDc := hD.cells
  have hDf := hD.frees
  go_wp2
  go_loopw [7] (fun s7 wr => ∃ (j q : Nat), j ≤ 4 ∧ s7 = .int .i64 j ∧ (l.drop 252).take j = (le4 s).take j ∧ wr = W.drewN q) (fun s7 _ => 4 - (intOf s7).toNat)
  case atStart => exact ⟨0, 0, by omega, rfl, by simp, rfl⟩
  case round =>
    obtain ⟨j, q, hj, rfl, ht, rfl⟩ := hrel
    have HT := Lib.hid ht
    clear ht
    by_cases hlt : j < 4
    · have cj : W.cell? ⟨b, o + (252 + j), none⟩ = some (.int .u8 ((l.getD (252 + j) 0).toNat : Int)) := (Q0.out.below hbW (Nat.le_refl _)).cell (252 + j) (by omega)
      have e1 : IntKind.i64.wrap (252 + (j : Int)) = 252 + (j : Int) := IntWalk.i64_in _ (by omega)
      have e2 : (252 + (j : Int)).toNat = 252 + j := by omega
      have e3 : (0 : Int) ≤ 252 + (j : Int) := by omega
      have e4 : (252 : Int) + (j : Int) < 256 := by omega
      have e5 : IntKind.i64.wrap (8 * (j : Int)) = 8 * (j : Int) := IntWalk.i64_in _ (by omega)
      have e6 : (8 * (j : Int)).toNat = 8 * j := by omega
      have e7 : (0 : Int) ≤ 8 * (j : Int) := by omega
      have HS := Lib.hid (take_drop_snoc l 252 j (by have := Q0.out.1; omega))
      have HL := Lib.hid (le4_snoc s j hlt)
      generalize (l.getD (252 + j) 0) = y at *
      go_wp2
      go_quiet (fail)
      go_wp2
      · have hne := y_ne (show ((y.toNat : Int) != (s : Int) / 2 ^ (8 * j) % 256) = true by assumption)
        refine bodyPost_ret (results_blk rfl rfl rfl (((hD.drewN _).set_ 0 _).set_ 1 _)) rfl ?_
        rw [HP.out, if_neg (fun h => hne ?_)]
        · exact ⟨rfl, ((below_drewN hbW _).setCell (Nat.le_refl _) _).setCell (Nat.le_refl _) _⟩
        · have h1 := HS.out
          rw [HT.out, h, HL.out] at h1
          simpa using h1.symm
      · have hye := y_eq (show ((y.toNat : Int) != (s : Int) / 2 ^ (8 * j) % 256) = false by assumption)
        go_roundw
        case rel => exact ⟨j + 1, q + nq, by omega, by go_num, by rw [HS.out, HL.out, HT.out, hye], rfl⟩
        case measure => simp [intOf]; omega
    · obtain rfl : j = 4 := by omega
      have hd4 : l.drop 252 = le4 s := by
        have := HT.out
        rwa [List.take_of_length_le (by have := Q0.out.1; simp; omega), List.take_of_length_le (by simp)] at this
      have HD4 := Lib.hid hd4
      have D1 : W.cell? ⟨b, o + 1, none⟩ = some (.int .u8 (blkLen l : Nat)) := (hbW.cell (p := ⟨b, o + 1, none⟩) hbs).trans C1.out
      have D0 : W.cell? ⟨b, o, none⟩ = some (.int .u8 (blkKind l : Nat)) := (hbW.cell (p := ⟨b, o, none⟩) hbs).trans C0.out
      clear hd4 HT
      by_cases hk : 240 < blkLen l
      · have HK := Lib.hid hk
        generalize blkLen l = k at *
        go_wp2
        refine bodyPost_ret (results_blk rfl rfl rfl (((hD.drewN _).set_ 0 _).set_ 1 _)) rfl ?_
        rw [HP.out, if_pos HD4.out, if_pos HK.out]
        exact ⟨rfl, ((below_drewN hbW _).setCell (Nat.le_refl _) _).setCell (Nat.le_refl _) _⟩
      · have hbl := length_blkBody l Q0.out.1 (by omega)
        have HB : Hid (GetTail w n l = GetT w n (blkKind l) (blkLen l) (blkBody l) l) := rfl
        have q3 := Q0.out.cut 8 (8 + blkLen l) (by omega) (by omega)
        rw [Nat.add_sub_cancel_left] at q3
        have Q3' : Hid (Bs w lo (some ⟨b, o + 8, none⟩) (blkLen l) (c - 8) (blkBody l)) := q3
        have HK := Lib.hid hk
        clear q3
        generalize blkLen l = k at *
        generalize blkKind l = kd at *
        generalize blkBody l = bd at *
        refine wp_world (fun V => Below w.heap.size w V ∧ w.heap.size < V.heap.size ∧ Blk V w.heap.size 33 [.int .i64 0, .slice none 0 0] ∧ V.cell? ⟨b, o + 1, none⟩ = some (.int .u8 (k : Nat)) ∧ V.cell? ⟨b, o, none⟩ = some (.int .u8 (kd : Nat))) ⟨below_drewN hbW _, hzW, hD, D1, D0⟩ ?_
        clear hbW hzW hD D1 D0 hDc hDf
        rintro V ⟨hbV, hzV, hD, D1, D0⟩
        go_upto_region 12 with fail
        go_cut [9] (fun s9 wx => ∃ g, s9 = .pointer (some ⟨g, 0, none⟩) ∧ w.heap.size < g ∧ Blk wx g 33 [.int .i64 kd, .slice none 0 0] ∧ Blk wx w.heap.size 33 [.int .i64 0, .slice none 0 0] ∧ Below w.heap.size w wx)
        case first =>
          go_wp2
          go_meet
          exact ⟨_, rfl, hzV, Blk.new_at (cs := [.int .i64 kd, .slice none 0 0]) rfl, hD.alloc _, hbV.alloc hbV.size _⟩
        case rest =>
          obtain ⟨g, rfl, hzg, hg, hD2, hb2⟩ := hcut
          clear hD D1 D0 hbV hzV
          have hgc := hg.cells
          have hgf := hg.frees
          have hz2 := hb2.size
          have hgl := hg.lt
          have s1 : IntKind.i64.wrap (8 + (k : Int)) = 8 + (k : Int) := IntWalk.i64_in _ (by omega)
          have s2 : (8 + (k : Int)).toNat = 8 + k := by omega
          have s3 : (8 : Int) + (k : Int) ≤ (c : Int) := by omega
          have s4 : (8 : Int) ≤ 8 + (k : Int) := by omega
          have s5 : ¬ c = 8 := by omega
          have r1 := Lib.hid ((Q3'.out.below hb2 (Nat.le_refl _)).2.2.2.drewN 1)
          go_wp2
          go_region_law (first | (refine step_app rfl (.tmp 49) (.tmp 53) 31 rfl 5 1 Try.underlying31 info5 rfl (by omega) rfl (Own.nil_ _ (wc.heap.size) _ _) rfl r1.out (by simp [hbl]) (bvs_oneCell _) (by omega) (by omega) (Nat.le_refl _) ?_; intro A1 c2 w3 ho1 hg1 _; have hG3 := hg.drew.grown hg1 (by simp); have hG3c := hG3.cells; have hG3f := hG3.frees))
          rw [Nat.zero_add] at ho1
          go_upto_region 14 with fail
          refine wp_world (fun V => Below w.heap.size w V ∧ Blk V w.heap.size 33 [.int .i64 0, .slice none 0 0] ∧ Blk V g 33 [.int .i64 kd, .slice A1 k c2] ∧ Own V (w.heap.size + 1) 5 1 A1 k c2 (bvs bd))
            ⟨(hb2.drew.grown hg1 hz2 (by simp)).setCell (by simp; omega) _, (hD2.drew.grown hg1 (by simp)).far (by simp; omega) _, hG3.set_ 1 _, (ho1.far (by simpa using hgl) _).weak (by have := hD2.lt; omega)⟩ ?_
          clear hD2 hgl hb2 hz2 hgc hgf hG3 hG3c hG3f hg1 hg ho1 r1 s1 s2 s3 s4 s5
          rintro W4 ⟨hb4, hD4, hG4, hO4⟩
          have hz4 := hb4.size
          have hG4c := hG4.cells
          have hzD := hD4.lt
          by_cases hm : blkMay n kd k
          · obtain ⟨n', rfl⟩ := Int.eq_ofNat_of_zero_le hm.1
            have hm' := hm
            unfold blkMay at hm'
            have HM := Lib.hid hm
            clear hm
            by_cases he : blkSector n' kd bd = l
            all_goals
              have HE := Lib.hid he
              go_upto_region 15 with (go_at_call 17; refine (rput_ok n' kd (own_bs hO4) (by omega) (by omega) (by omega) (by omega)).mono ?_; rintro e w5 ⟨A5, c5, rfl, ho5, hb5⟩)
              have r1 := Lib.hid (own_bs ho5)
              have r2 := Lib.hid (Q0.out.below (hb4.trans (hb5.mono hz4)) (Nat.le_refl _))
              have D5 := hD4.below hb5 hzD
              have D5c := D5.cells
              have D5f := D5.frees
              have G5 := hG4.below hb5 hG4.lt
              have G5c := G5.cells
              have O5 := hO4.below hb5 (Nat.le_refl _)
              have hb6 := hb4.trans (hb5.mono hz4)
              clear hG4c ho5 hb5 he
            · have ht : Hid (decide (blkSector n' kd bd = l) = true) := by exact decide_eq_true HE.out
              go_upto_region 16 with (go_at_call 33; refine (same_any r1.out r2.out).mono ?_; rw [ht.out]; rintro e w6 ⟨rfl, q6, rfl⟩)
              go_wp2
              refine bodyPost_ret (results_blk rfl rfl rfl (((D5.drewN _).set_ 0 _).set_ 1 _)) rfl ?_
              rw [HP.out, if_pos HD4.out, if_neg HK.out, HB.out, GetT, if_pos ⟨HM.out, HE.out⟩]
              exact ⟨A1, c2, rfl, (((O5.drewN _).far (by simp) _).far (by simp) _).weak (by omega), ((below_drewN hb6 _).setCell (Nat.le_refl _) _).setCell (Nat.le_refl _) _⟩
            · have ht : Hid (decide (blkSector n' kd bd = l) = false) := by exact decide_eq_false HE.out
              go_upto_region 16 with (go_at_call 33; refine (same_any r1.out r2.out).mono ?_; rw [ht.out]; rintro e w6 ⟨rfl, q6, rfl⟩)
              go_wp2
              refine bodyPost_ret (results_blk rfl rfl rfl (((D5.drewN _).set_ 0 _).set_ 1 _)) rfl ?_
              rw [HP.out, if_pos HD4.out, if_neg HK.out, HB.out, GetT, if_neg (fun h => HE.out h.2)]
              exact ⟨rfl, ((below_drewN hb6 _).setCell (Nat.le_refl _) _).setCell (Nat.le_refl _) _⟩
          · have HM := Lib.hid hm
            go_upto_region 15 with (go_at_call 17; refine (rput_no _ _ (by unfold blkMay at hm; omega)).mono ?_; rintro e w5 ⟨rfl, hb5⟩)
            have r1 := Lib.hid (Bs.nil_ w5 0)
            have r2 := Lib.hid (Q0.out.below (hb4.trans (hb5.mono hz4)) (Nat.le_refl _))
            have D5 := hD4.below hb5 hzD
            have D5c := D5.cells
            have D5f := D5.frees
            have hb6 := hb4.trans (hb5.mono hz4)
            clear hG4c hb5 hm
            go_upto_region 16 with (go_at_call 33; refine (same_any r1.out r2.out).mono ?_; rintro e w6 ⟨rfl, q6, rfl⟩)
            go_wp2
            refine bodyPost_ret (results_blk rfl rfl rfl (((D5.drewN _).set_ 0 _).set_ 1 _)) rfl ?_
            rw [HP.out, if_pos HD4.out, if_neg HK.out, HB.out, GetT, if_neg (fun h => HM.out h.1)]
            exact ⟨rfl, ((below_drewN hb6 _).setCell (Nat.le_refl _) _).setCell (Nat.le_refl _) _⟩
end Go.Proofs.Ytjndopmjlbhajaa
