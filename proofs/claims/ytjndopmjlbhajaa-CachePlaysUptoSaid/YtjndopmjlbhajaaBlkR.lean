/- The document's block. -/
import Derived.Test.YtjndopmjlbhajaaBlk
import Derived.Test.YtjndopmjlbhajaaOwn
import Derived.Deep.DeepCutAuto
namespace Go.Proofs.Ytjndopmjlbhajaa
open Go.RowKit


theorem byte_shift (s j : Nat) : Value.int .u8 ((s : Int) / 2 ^ (8 * j) % 256) = bv (UInt8.ofNat (s / 2 ^ (8 * j) % 256)) := by
  refine bv_of _ _ ?_
  rw [Nat.mod_mod]
  simp
set_option maxRecDepth 100000 in
set_option maxHeartbeats 1000000 in
theorem rput_ok (n kind : Nat) {A : Option Addr} {m c : Nat} {l : List UInt8} {lo : Nat} {w : World}
    (hb : Bs w lo A m c l) (m1 : m ≤ 240) (hn : n ≤ 65535) (hk : 1 ≤ kind) (hk2 : kind ≤ 4) :
    Calls Try.prog 17 #[.int .i64 n, .agg #[.int .i64 kind, .slice A m c]] w fun e w' =>
      ∃ A' c', e = .returned (.tuple #[.slice A' 256 c', .int .i64 0]) ∧ Own w' w.heap.size 5 1 A' 256 c' (bvs (blkSector n kind l)) ∧ Below w.heap.size w w' := by
  obtain ⟨rfl, hc1, hc2, h1⟩ := hb
  go_enter Try.func17, Try.ntmps17
  go_upto_region 3 with fail
  go_cut [6] (fun s6 wx => s6 = .slice (some ⟨w.heap.size + 1, 0, none⟩) 8 8 ∧ Own wx w.heap.size 5 1 (some ⟨w.heap.size + 1, 0, none⟩) 8 8 (bvs (blkHead n kind l)) ∧ wx.cell? ⟨w.heap.size, 1, none⟩ = some (.slice A l.length c) ∧ Below w.heap.size w wx)
  case first =>
    go_wp2
    go_meet
    refine ⟨rfl, ?_, by go_simp, ((Below.refl _ _).alloc (Nat.le_refl _) _).alloc (by simp) _⟩
    rw [bv_of ↑kind kind (by omega), bv_of ↑l.length l.length (by omega), bv_of (↑n % 256) (n % 256) (by omega), bv_of (↑n / 256) (n / 256) (by omega)]
    exact Own.lit _ 5 (bvs (blkHead n kind l)) (by omega) rfl (by omega) (by simp)
  case rest =>
    obtain ⟨rfl, ho, hc, hb⟩ := hcut
    have h1 := h1.below hb (Nat.le_refl _)
    have hz := hb.size
    go_wp2_with (at_builtin; refine wpList_app rfl (.tmp 45) (.tmp 47) 31 rfl 5 1 Try.underlying31 info5 rfl (by omega) rfl ho rfl h1 (by simp) (bvs_oneCell _) (by omega) (by omega) hz ?_; intro A1 c1 w1 ho1 hg1 _)
    have hb1 := below_own hb ho hg1 (Nat.le_refl _) hz
    clear ho hc hb hg1 hz h1
    go_loopw [6] (fun s6 wr => ∃ (k : Nat) (A2 : Option Addr) (c2 : Nat), 8 + l.length + k ≤ 252 ∧ s6 = .slice A2 (8 + l.length + k) c2 ∧ Own wr w.heap.size 5 1 A2 (8 + l.length + k) c2 (bvs (blkHead n kind l ++ l ++ List.replicate k 0)) ∧ Below w.heap.size w wr)
      (fun s6 _ => 252 - slen s6)
    case atStart => exact ⟨0, A1, c1, by omega, rfl, by simpa [bvs_append] using ho1, hb1⟩
    case round =>
      obtain ⟨k, A2, c2, hk2', rfl, ho2, hb2⟩ := hrel
      have hz := hb2.size
      clear ho1 hb1
      by_cases hlt : 8 + l.length + k < 252
      · go_wp2_with (at_builtin; refine wpList_app rfl (.tmp 52) (.tmp 53) 31 rfl 5 1 Try.underlying31 info5 rfl (by omega) rfl (ho2.alloc _) rfl (rd_one _ _ rfl) rfl (one_int _ _) (by omega) (by omega) (by simp; omega) ?_; intro A3 c3 w3 ho3 hg3 _)
        have hb3 := below_own (hb2.alloc hz _) (ho2.alloc _) hg3 (Nat.le_refl _) (by simp; omega)
        go_roundw
        case rel => exact ⟨k + 1, A3, c3, by omega, rfl, by rw [List.replicate_succ', ← List.append_assoc, bvs_append]; exact ho3, hb3⟩
        case measure => simp [slen]; omega
      · have he := Lib.hid (blkData_eq n kind l k (by omega))
        rw [he.out] at ho2
        go_wp2_with (go_at_call 37; refine (rcrc_any (own_bs ho2)).mono ?_; rintro e w' ⟨rfl, rfl⟩)
        have hs := crc_lt (blkData n kind l)
        have hds := length_blkData n kind l (by omega)
        have HS : Hid (blkSector n kind l = blkData n kind l ++ le4 (crc (blkData n kind l))) := rfl
        generalize crc (blkData n kind l) = s at *
        clear he
        go_loopw [6, 8] (fun s6 s8 wr => ∃ (j : Nat) (A2 : Option Addr) (c2 : Nat), j ≤ 4 ∧ s8 = .int .i64 j ∧ s6 = .slice A2 (8 + l.length + k + j) c2 ∧ Own wr w.heap.size 5 1 A2 (8 + l.length + k + j) c2 (bvs (blkData n kind l ++ (le4 s).take j)) ∧ Below w.heap.size w wr)
          (fun _ i _ => 4 - (intOf i).toNat)
        case atStart => exact ⟨0, A2, c2, by omega, rfl, rfl, by simpa using ho2, hb2⟩
        case round =>
          obtain ⟨j, A4, c4, hj, rfl, rfl, ho4, hb4⟩ := hrel
          have hz4 := hb4.size
          clear ho2 hb2
          by_cases hlt4 : j < 4
          · have hsn := Lib.hid (le4_snoc s j hlt4)
            go_wp2_with (at_builtin; refine wpList_app rfl (.tmp 61) (.tmp 67) 31 rfl 5 1 Try.underlying31 info5 rfl (by omega) rfl (ho4.alloc _) rfl (rd_one _ _ rfl) rfl (one_int _ _) (by omega) (by omega) (by simp; omega) ?_; intro A5 c5 w5 ho5 hg5 _)
            have hb5 := below_own (hb4.alloc hz4 _) (ho4.alloc _) hg5 (Nat.le_refl _) (by simp; omega)
            go_roundw
            case rel => exact ⟨j + 1, A5, c5, by omega, by go_num, rfl, by rw [hsn.out, ← List.append_assoc, bvs_append]; rw [byte_shift] at ho5; exact ho5, hb5⟩
            case measure => simp [intOf]; omega
          · obtain rfl : j = 4 := by omega
            obtain rfl : k = 244 - l.length := by omega
            go_wp2
            go_ret2
            refine ⟨A4, c4, ?_, ?_, hb4⟩
            · show Ending.returned (.tuple #[.slice A4 (8 + l.length + (244 - l.length) + 4) c4, .int .i64 0]) = _
              rw [show 8 + l.length + (244 - l.length) + 4 = 256 by omega]
            · rw [show 8 + l.length + (244 - l.length) + 4 = 256 by omega] at ho4
              rw [HS.out]
              exact ho4

set_option maxHeartbeats 1000000 in
theorem rput_no (n kind : Int) {A : Option Addr} {m c : Nat} {w : World}
    (h : n < 0 ∨ 65535 < n ∨ kind < 1 ∨ 4 < kind ∨ 240 < m) :
    Calls Try.prog 17 #[.int .i64 n, .agg #[.int .i64 kind, .slice A m c]] w fun e w' =>
      e = .returned (.tuple #[.slice none 0 0, .int .i64 1]) ∧ Below w.heap.size w w' := by
  by_cases h1 : n < 0
  · go_enter Try.func17, Try.ntmps17
    go_wp2
    go_ret2
    exact ⟨rfl, (Below.refl _ _).alloc (Nat.le_refl _) _⟩
  · by_cases h2 : 65535 < n
    · go_enter Try.func17, Try.ntmps17
      go_wp2
      go_ret2
      exact ⟨rfl, (Below.refl _ _).alloc (Nat.le_refl _) _⟩
    · by_cases h3 : kind < 1
      · go_enter Try.func17, Try.ntmps17
        go_wp2
        go_ret2
        exact ⟨rfl, (Below.refl _ _).alloc (Nat.le_refl _) _⟩
      · by_cases h4 : 4 < kind
        · go_enter Try.func17, Try.ntmps17
          go_wp2
          go_ret2
          exact ⟨rfl, (Below.refl _ _).alloc (Nat.le_refl _) _⟩
        · have h5 : 240 < m := by omega
          go_enter Try.func17, Try.ntmps17
          go_wp2
          go_ret2
          exact ⟨rfl, (Below.refl _ _).alloc (Nat.le_refl _) _⟩
end Go.Proofs.Ytjndopmjlbhajaa
