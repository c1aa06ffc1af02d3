/- The walks of the laws BlockGets and BlockSums: both Gets answer one plain function. -/
import Derived.Test.YtcicchijibhigaaLives
namespace Go.Proofs.Ytcicchijibhigaa
open Go.RowKit

/-- what a sector is read as: the error, the kind, the bytes -/
def gBlk (n : Int) (l : List UInt8) : Nat × Nat × List UInt8 :=
  if l.length ≠ 256 then (1, 0, [])
  else if l.drop 252 = le4 (crc (l.take 252)) then
    if 240 < blkLen l then (7, 0, [])
    else if blkMay n (blkKind l) (blkLen l) ∧ blkSector n.toNat (blkKind l) (blkBody l) = l then (0, blkKind l, blkBody l)
    else (7, 0, [])
  else (6, 0, [])

/-- the answer r in memory -/
def GetsU (w : World) (r : Nat × Nat × List UInt8) (e : Ending) (w' : World) : Prop :=
  ∃ A' c', e = .returned (.tuple #[.agg #[.int .i64 r.2.1, .slice A' r.2.2.length c'], .int .i64 r.1]) ∧ Bs w' w.heap.size A' r.2.2.length c' r.2.2 ∧ Below w.heap.size w w'

theorem getsU_err {w w' : World} {x : Nat} {e : Ending} (h : e = noBlk x ∧ Below w.heap.size w w') : GetsU w (x, 0, []) e w' :=
  ⟨none, 0, h.1, Bs.nil_ _ _, h.2⟩
theorem getsU_of {n : Int} {w w' : World} {l : List UInt8} {e : Ending} (hl : l.length = 256) (h : GetPost w n l e w') : GetsU w (gBlk n l) e w' := by
  unfold GetPost at h
  unfold gBlk
  rw [if_neg (by omega)]
  by_cases h1 : l.drop 252 = le4 (crc (l.take 252))
  · rw [if_pos h1] at h ⊢
    by_cases h2 : 240 < blkLen l
    · rw [if_pos h2] at h ⊢
      exact getsU_err h
    · rw [if_neg h2] at h ⊢
      unfold GetTail GetT at h
      by_cases h3 : blkMay n (blkKind l) (blkLen l) ∧ blkSector n.toNat (blkKind l) (blkBody l) = l
      · rw [if_pos h3] at h ⊢
        obtain ⟨A', c', he, ho, hb⟩ := h
        have hle := length_blkBody l hl (by omega)
        exact ⟨A', c', by rw [he, ← hle]; rfl, by have := own_bs ho; rwa [← hle] at this, hb⟩
      · rw [if_neg h3] at h ⊢
        exact getsU_err h
  · rw [if_neg h1] at h ⊢
    exact getsU_err h
theorem get_u (n : Int) {A : Option Addr} {m c lo : Nat} {l : List UInt8} {w : World} (hb : Bs w lo A m c l) :
    Calls Try.prog 17 #[.int .i64 n, .slice A m c] w (GetsU w (gBlk n l)) := by
  by_cases hm : m = 256
  · subst hm
    exact (get_any n hb).mono fun e w' h => getsU_of hb.1 h
  · refine (get_len n hm).mono fun e w' h => ?_
    unfold gBlk
    rw [if_pos (by rw [hb.1]; exact hm)]
    exact getsU_err h
theorem rget_u (n : Int) {A : Option Addr} {m c lo : Nat} {l : List UInt8} {w : World} (hb : Bs w lo A m c l) :
    Calls Try.prog 19 #[.int .i64 n, .slice A m c] w (GetsU w (gBlk n l)) := by
  by_cases hm : m = 256
  · subst hm
    exact (rget_any n hb).mono fun e w' h => getsU_of hb.1 h
  · refine (rget_len n hm).mono fun e w' h => ?_
    unfold gBlk
    rw [if_pos (by rw [hb.1]; exact hm)]
    exact getsU_err h

set_option maxRecDepth 100000 in
set_option maxHeartbeats 1000000 in
theorem gets_law (n : Int) {A : Option Addr} {m c lo : Nat} {l : List UInt8} {w : World} (hb : Bs w lo A m c l) :
    Calls Try.prog 4 #[.int .i64 n, .slice A m c] w fun e w' => e = .returned (.bool true) ∧ Below w.heap.size w w' := by
  generalize hr : gBlk n l = r
  have g1 := Lib.hid (hr ▸ get_u n hb)
  have g2 := Lib.hid (fun W (hW : Below w.heap.size w W) => hr ▸ rget_u n (hb.below hW (Nat.le_refl _)))
  clear hb hr
  obtain ⟨x, k, bd⟩ := r
  go_enter Try.func4, Try.ntmps4
  go_upto_region 2 with (go_at_call 17; refine g1.out.mono ?_; rintro e w1 ⟨A1, c1, rfl, hs1, hb1⟩)
  refine wp_world (fun V => Below w.heap.size w V ∧ Blk V w1.heap.size 24 [.int .i64 k, .slice A1 bd.length c1] ∧ Bs V w.heap.size A1 bd.length c1 bd) ⟨hb1.alloc hb1.size _, Blk.new_at (cs := [.int .i64 k, .slice A1 bd.length c1]) rfl, hs1.below (B := w1.heap.size) ((Below.refl _ _).alloc (Nat.le_refl _) _) (Nat.le_refl _)⟩ ?_
  rintro V ⟨b2, G2, S2⟩
  go_upto_region 3 with (go_at_call 19; refine (g2.out _ b2).mono ?_; rintro e w3 ⟨A3, c3, rfl, hs3, hb3⟩)
  have G3 := G2.below hb3 G2.lt
  have S3 := S2.below hb3 (Nat.le_refl _)
  have b3 := b2.trans (hb3.mono b2.size)
  refine wp_world (fun V => Below w.heap.size w V ∧ Blk V w1.heap.size 24 [.int .i64 k, .slice A1 bd.length c1] ∧ Bs V w.heap.size A1 bd.length c1 bd ∧ Blk V w3.heap.size 24 [.int .i64 k, .slice A3 bd.length c3] ∧ Bs V 0 A3 bd.length c3 bd)
    ⟨b3.alloc b3.size _, G3.alloc _, S3.below (B := w3.heap.size) ((Below.refl _ _).alloc (Nat.le_refl _) _) (Nat.le_refl _), Blk.new_at (cs := [.int .i64 k, .slice A3 bd.length c3]) rfl, (hs3.below (B := w3.heap.size) ((Below.refl _ _).alloc (Nat.le_refl _) _) (Nat.le_refl _)).weak (Nat.zero_le _)⟩ ?_
  clear G3 S3 b3 hs3 hb3 G2 S2 b2 hs1 hb1 g1 g2
  rintro U ⟨b4, G4, S4, F4, T4⟩
  have G4c := G4.cells
  have F4c := F4.cells
  have S4' := Lib.hid S4
  have T4' := Lib.hid T4
  clear G4 F4 S4 T4
  go_upto_region 4 with (go_at_call 18; refine (bsame_any _ _ S4'.out T4'.out).mono ?_; rw [decide_eq_true ⟨rfl, rfl⟩]; rintro e w6 ⟨rfl, hb6⟩)
  have b6 := b4.trans (hb6.mono b4.size)
  clear G4c F4c S4' T4' b4 hb6
  go_wp2_with (go_at_call 16; refine (lives_any _).mono ?_; rintro e w8 ⟨rfl, hb8⟩)
  go_ret
  exact ⟨rfl, b6.trans (hb8.mono b6.size)⟩

theorem gBlk_sum (n : Int) (d : List UInt8) (h : d.length = 252) : (gBlk n (d ++ le4 (crc d))).1 ≠ 6 := by
  have e1 : (d ++ le4 (crc d)).length = 256 := by simp [h]
  have e2 : (d ++ le4 (crc d)).drop 252 = le4 (crc d) := by rw [← h, List.drop_left]
  have e3 : (d ++ le4 (crc d)).take 252 = d := by rw [← h, List.take_left]
  unfold gBlk
  rw [if_neg (by omega), e2, e3, if_pos rfl]
  split
  · simp
  · split <;> simp

set_option maxRecDepth 100000 in
set_option maxHeartbeats 2000000 in
theorem sums_law (n : Int) {A : Option Addr} {m c lo : Nat} {l : List UInt8} {w : World} (hb : Bs w lo A m c l) (hm : m ≤ 140737488351232) :
    Calls Try.prog 5 #[.int .i64 n, .slice A m c] w fun e w' => e = .returned (.bool true) ∧ Below w.heap.size w w' := by
  have hl := Lib.hid hb.1
  have hr := Lib.hid hb.2.2.2
  clear hb
  go_enter Try.func5, Try.ntmps5
  go_wp2_with (at_builtin; refine wpList_app rfl (.tmp 13) (.tmp 14) 22 rfl 5 1 Try.underlying22 info5 rfl (by omega) rfl (Own.nil_ _ w.heap.size _ _) rfl hr.out (by simpa using hl.out) (bvs_oneCell _) (by omega) (by omega) (Nat.le_refl _) ?_; intro A1 c1 w1 ho1 hg1 _)
  have b1 := below_own (Below.refl w.heap.size w) (Own.nil_ w w.heap.size 5 1) hg1 (Nat.le_refl _) (Nat.le_refl _)
  rw [Nat.zero_add, List.nil_append] at ho1
  clear hg1 hr
  go_loopw [5] (fun s5 wr => ∃ (k : Nat) (A2 : Option Addr) (c2 : Nat), (k = 0 ∨ m + k ≤ 252) ∧ s5 = .slice A2 (m + k) c2 ∧ Own wr w.heap.size 5 1 A2 (m + k) c2 (bvs (l ++ List.replicate k 0)) ∧ Below w.heap.size w wr)
    (fun s5 _ => 252 - slen s5)
  case atStart => exact ⟨0, A1, c1, .inl rfl, rfl, by simpa using ho1, b1⟩
  case round =>
    obtain ⟨k, A2, c2, hk, rfl, ho2, hb2⟩ := hrel
    have hz := hb2.size
    clear ho1 b1
    by_cases hlt : m + k < 252
    · have hk' : m + (k + 1) ≤ 252 := by omega
      have HK := Lib.hid hk
      clear hk
      go_wp2_with (at_builtin; refine wpList_app rfl (.tmp 19) (.tmp 20) 22 rfl 5 1 Try.underlying22 info5 rfl (by omega) rfl (ho2.alloc _) rfl (rd_one _ _ rfl) rfl (one_int _ _) (by omega) (by omega) (by simp; omega) ?_; intro A3 c3 w3 ho3 hg3 _)
      have hb3 := below_own (hb2.alloc hz _) (ho2.alloc _) hg3 (Nat.le_refl _) (by simp; omega)
      go_roundw
      case rel => exact ⟨k + 1, A3, c3, .inr hk', rfl, by rw [List.replicate_succ', ← List.append_assoc, bvs_append]; exact ho3, hb3⟩
      case measure => simp [slen]; omega
    · have hcap := ho2.cap
      have hk3 : m + k ≤ 140737488351232 := by omega
      have ht := ho2.take (k := 252) (by omega)
      rw [show (bvs (l ++ List.replicate k 0)).take (252 * 1) = bvs ((l ++ List.replicate k 0).take 252) by simp [bvs, List.map_take]] at ht
      have hd : ((l ++ List.replicate k 0).take 252).length = 252 := by have := hl.out; simp; omega
      generalize (l ++ List.replicate k 0).take 252 = d at *
      have hn6 := Lib.hid (gBlk_sum n d hd)
      have hcc : (252 : Int) ≤ (c2 : Int) := by omega
      have HD := Lib.hid hd
      have HK := Lib.hid hk
      clear ho2 hk hd
      go_wp2_with (go_at_call 20; refine (rcrc_any (own_bs ht)).mono ?_; rintro e w4 ⟨rfl, rfl⟩)
      have hs := crc_lt d
      have HG : Hid ((gBlk n (d ++ le4 (crc d))).1 ≠ 6) := hn6
      clear hn6
      generalize crc d = s at *
      clear hcap
      go_loopw [5, 7] (fun s5 s7 wr => ∃ (j : Nat) (A2 : Option Addr) (c2 : Nat), j ≤ 4 ∧ s7 = .int .i64 j ∧ s5 = .slice A2 (252 + j) c2 ∧ Own wr w.heap.size 5 1 A2 (252 + j) c2 (bvs (d ++ (le4 s).take j)) ∧ Below w.heap.size w wr)
        (fun _ i _ => 4 - (intOf i).toNat)
      case atStart => exact ⟨0, A2, c2, by omega, rfl, rfl, by simpa using ht, hb2⟩
      case round =>
        obtain ⟨j, A4, c4, hj, rfl, rfl, ho4, hb4⟩ := hrel
        have hz4 := hb4.size
        clear ht hb2
        by_cases hlt4 : j < 4
        · have hsn := Lib.hid (le4_snoc s j hlt4)
          go_wp2_with (at_builtin; refine wpList_app rfl (.tmp 30) (.tmp 36) 22 rfl 5 1 Try.underlying22 info5 rfl (by omega) rfl (ho4.alloc _) rfl (rd_one _ _ rfl) rfl (one_int _ _) (by omega) (by omega) (by simp; omega) ?_; intro A5 c5 w5 ho5 hg5 _)
          have hb5 := below_own (hb4.alloc hz4 _) (ho4.alloc _) hg5 (Nat.le_refl _) (by simp; omega)
          go_roundw
          case rel => exact ⟨j + 1, A5, c5, by omega, by go_num, rfl, by rw [hsn.out, ← List.append_assoc, bvs_append]; rw [byte_shift] at ho5; exact ho5, hb5⟩
          case measure => simp [intOf]; omega
        · obtain rfl : j = 4 := by omega
          have q := own_bs ho4
          rw [List.take_of_length_le (by simp)] at q
          generalize d ++ le4 s = sec at *
          generalize hr : gBlk n sec = r at *
          have g1 := Lib.hid (hr ▸ get_u n q)
          have g2 := Lib.hid (fun W (hW : Below wr.heap.size wr W) => hr ▸ rget_u n (q.below hW (Nat.le_refl _)))
          have hb4' := Lib.hid hb4
          clear hr ho4 q hb4
          obtain ⟨x, k9, bd⟩ := r
          have hx6 : ((x : Int) != 6) = true := by
            have : x ≠ 6 := HG.out
            rw [bne_iff_ne]; omega
          go_upto_region 12 with (go_at_call 17; refine g1.out.mono ?_; rintro e w1 ⟨A6, c6, rfl, hs1, hb1⟩)
          refine wp_world (fun V => Below wr.heap.size wr V ∧ Blk V w1.heap.size 24 [.int .i64 k9, .slice A6 bd.length c6] ∧ Bs V wr.heap.size A6 bd.length c6 bd) ⟨hb1.alloc hb1.size _, Blk.new_at (cs := [.int .i64 k9, .slice A6 bd.length c6]) rfl, hs1.below (B := w1.heap.size) ((Below.refl _ _).alloc (Nat.le_refl _) _) (Nat.le_refl _)⟩ ?_
          rintro V ⟨b2, G2, S2⟩
          go_upto_region 13 with (go_at_call 19; refine (g2.out _ b2).mono ?_; rintro e w3 ⟨A3, c3, rfl, hs3, hb3⟩)
          have G3 := G2.below hb3 G2.lt
          have S3 := S2.below hb3 (Nat.le_refl _)
          have b3 := b2.trans (hb3.mono b2.size)
          refine wp_world (fun V => Below wr.heap.size wr V ∧ Blk V w1.heap.size 24 [.int .i64 k9, .slice A6 bd.length c6] ∧ Bs V wr.heap.size A6 bd.length c6 bd ∧ Blk V w3.heap.size 24 [.int .i64 k9, .slice A3 bd.length c3] ∧ Bs V 0 A3 bd.length c3 bd)
            ⟨b3.alloc b3.size _, G3.alloc _, S3.below (B := w3.heap.size) ((Below.refl _ _).alloc (Nat.le_refl _) _) (Nat.le_refl _), Blk.new_at (cs := [.int .i64 k9, .slice A3 bd.length c3]) rfl, (hs3.below (B := w3.heap.size) ((Below.refl _ _).alloc (Nat.le_refl _) _) (Nat.le_refl _)).weak (Nat.zero_le _)⟩ ?_
          clear G3 S3 b3 hs3 hb3 G2 S2 b2 hs1 hb1 g1 g2
          rintro U ⟨b4, G4, S4, F4, T4⟩
          have G4c := G4.cells
          have F4c := F4.cells
          have S4' := Lib.hid S4
          have T4' := Lib.hid T4
          clear G4 F4 S4 T4
          go_upto_region 14 with (go_at_call 18; refine (bsame_any _ _ S4'.out T4'.out).mono ?_; rw [decide_eq_true ⟨rfl, rfl⟩]; rintro e w6 ⟨rfl, hb6⟩)
          have b6 := b4.trans (hb6.mono b4.size)
          clear G4c F4c S4' T4' b4 hb6
          go_wp2_with (go_at_call 16; refine (lives_any _).mono ?_; rintro e w8 ⟨rfl, hb8⟩)
          go_ret
          exact ⟨rfl, (hb4'.out.trans (b6.mono hz4)).trans (hb8.mono (Nat.le_trans hz4 b6.size))⟩
end Go.Proofs.Ytcicchijibhigaa
