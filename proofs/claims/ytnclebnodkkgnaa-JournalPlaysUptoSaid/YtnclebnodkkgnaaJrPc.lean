/- kistref11.number, kistref11.Piece: a piece's sector is the plain function's. Condition: at most 232 bytes, numbers of at most 32 bits. -/
import Derived.Test.YtnclebnodkkgnaaJPiece
namespace Go.Proofs.Ytnclebnodkkgnaa
open Go.RowKit
set_option linter.unusedSimpArgs false
set_option linter.unusedVariables false

def nb (N : Nat) : Nat → List UInt8
  | 0 => []
  | i + 1 => nb N i ++ [UInt8.ofNat (N / 256 ^ i)]
theorem nb_len (N i : Nat) : (nb N i).length = i := by
  induction i with
  | zero => rfl
  | succ i ih => rw [nb, List.length_append, ih]; rfl
theorem nb_4 (N : Nat) : nb N 4 = le4 N := by
  have h : ∀ y : Nat, UInt8.ofNat (y % 256) = UInt8.ofNat y := fun y => by
    apply UInt8.toNat_inj.1
    simp
  unfold le4
  rw [h, h, h, h]
  simp [nb]
theorem div_pow (N i : Nat) : N / 256 ^ i / 256 = N / 256 ^ (i + 1) := by rw [Nat.div_div_eq_div_mul, Nat.pow_succ]

set_option maxRecDepth 100000 in
set_option maxHeartbeats 2000000 in
theorem rnum4_any {w : World} {base n c : Nat} {A : Option Addr} {l : List UInt8} (ho : Own w base 5 1 A n c (bvs l)) (hbs : base ≤ w.heap.size) (hn : n ≤ 1000) (N : Nat) (hN : N ≤ 4294967295) :
    Calls Try.prog 56 #[.slice A n c, .int .i64 N] w fun e w' => ∃ A' c', e = .returned (.slice A' (n + 4) c') ∧ Own w' base 5 1 A' (n + 4) c' (bvs (l ++ le4 N)) ∧ Below base w w' := by
  have HO := Lib.hid ho
  clear ho
  go_enter Try.func56, Try.ntmps56
  go_wp2
  go_loopw [0, 1, 5] (fun s0 s1 s5 wr => ∃ (i : Nat) (A' : Option Addr) (c' X : Nat), i ≤ 4 ∧ s5 = .int .i64 i ∧ s0 = .slice A' (n + i) c' ∧ s1 = .int .i64 X ∧ X = N / 256 ^ i ∧ Own wr base 5 1 A' (n + i) c' (bvs (l ++ nb N i)) ∧ Below base w wr) (fun _ _ s5 _ => 4 - (intOf s5).toNat)
  case atStart => exact ⟨0, A, c, N, by omega, rfl, rfl, rfl, by simp, by simpa [nb] using HO.out, Below.refl _ _⟩
  case round =>
    clear HO
    obtain ⟨i, A', c', X, hi, rfl, rfl, rfl, hX, ho, hb⟩ := hrel
    have hXN : X ≤ 4294967295 := by rw [hX]; exact Nat.le_trans (Nat.div_le_self _ _) hN
    have HX := Lib.hid hX
    have HO := Lib.hid ho
    have HB := Lib.hid hb
    have hz := hb.size
    clear hX ho hb
    by_cases hlt : i < 4
    · go_wp2_with (at_builtin; refine wpList_app rfl (.tmp 10) (.tmp 14) 33 rfl 5 1 Try.underlying33 info5 rfl (by omega) rfl (HO.out.alloc _) rfl (rd_one _ _ rfl) rfl (one_int _ _) (by omega) (by omega) (by simp; omega) ?_; intro A5 c5 w5 ho5 hg5 _)
      rw [bv_of _ X (by omega), bvs_snoc, List.append_assoc, HX.out] at ho5
      have hb5 : Below base w w5 := below_own (HB.out.alloc (by omega) _) (HO.out.alloc _) hg5 (Nat.le_refl _) (by simp; omega)
      have HO5 := Lib.hid ho5
      have HB5 := Lib.hid hb5
      clear ho5 hb5 hg5 hz
      go_roundw
      case rel => exact ⟨i + 1, A5, c5, X / 256, by omega, by norm_cast, rfl, by congr 1, by rw [HX.out, div_pow], HO5.out, HB5.out⟩
      case measure => simp only [intOf]; omega
    · obtain rfl : i = 4 := by omega
      have ho := HO.out
      rw [nb_4] at ho
      have HO4 := Lib.hid ho
      clear ho HO
      go_wp2
      go_ret
      exact ⟨A', c', rfl, HO4.out, HB.out⟩

theorem u8_val (p : Nat) : Value.int .u8 ((p : Int) % 256) = bv (UInt8.ofNat p) := bv_of _ p (by omega)

set_option maxRecDepth 100000 in
set_option maxHeartbeats 4000000 in
theorem rpiece_any (G N p m : Nat) {lo : Nat} {A : Option Addr} {n c : Nat} {l : List UInt8} {w : World} (hd : Bs w lo A n c l) (hn : n ≤ 232) (hG : G ≤ 4294967295) (hN : N ≤ 4294967295) (hp : p ≤ 65535) (hm : m ≤ 65535) :
    Calls Try.prog 25 #[.int .i64 G, .int .i64 N, .int .i64 p, .int .i64 m, .slice A n c] w fun e w' => ∃ A' c', e = .returned (.slice A' 256 c') ∧ Own w' w.heap.size 5 1 A' 256 c' (bvs (pieceB G N p m l)) ∧ Below w.heap.size w w' := by
  have hl := hd.1
  have HD := Lib.hid hd
  have HL := Lib.hid hl
  clear hd hl
  have hW : Below w.heap.size w (w.alloc (.cells (bvs [74, UInt8.ofNat p, UInt8.ofNat m, UInt8.ofNat n]).toArray 5)) := (Below.refl _ _).alloc (Nat.le_refl _) _
  have h1 : Own (w.alloc (.cells (bvs [74, UInt8.ofNat p, UInt8.ofNat m, UInt8.ofNat n]).toArray 5)) w.heap.size 5 1 (some ⟨w.heap.size, 0, none⟩) 4 4 (bvs [74, UInt8.ofNat p, UInt8.ofNat m, UInt8.ofNat n]) := Own.lit w 5 _ (by omega) rfl (Nat.le_refl _) rfl
  have N1a := rnum4_any h1 (by simp) (by omega) G hG
  rw [show 4 + 4 = 8 from rfl] at N1a
  have N1 := Lib.hid N1a
  have HW := Lib.hid hW
  have E1 : Hid ((bvs [74, UInt8.ofNat p, UInt8.ofNat m, UInt8.ofNat n]).toArray = #[.int .u8 74, .int .u8 ((p : Int) % 256), .int .u8 ((m : Int) % 256), .int .u8 (n : Int)]) := by
    show _ = _
    rw [u8_val, u8_val, bv_of (n : Int) n (by omega)]
    rfl
  clear h1 hW N1a
  rw [E1.out] at N1 HW
  go_enter Try.func25, Try.ntmps25
  go_upto_region 3 with ((with_reducible refine Calls.mono N1.out ?_); rintro e w1 ⟨A1, c1, rfl, ho1, hb1⟩)
  have hb1w : Below w.heap.size w w1 := HW.out.trans hb1
  have N2a := rnum4_any ho1 hb1w.size (by omega) N hN
  rw [show 8 + 4 = 12 from rfl] at N2a
  have N2 := Lib.hid N2a
  have HB1 := Lib.hid hb1w
  clear ho1 hb1 hb1w N2a N1 HW E1
  go_upto_region 4 with ((with_reducible refine Calls.mono N2.out ?_); rintro e w2 ⟨A2, c2, rfl, ho2, hb2⟩)
  have hb2w : Below w.heap.size w w2 := HB1.out.trans hb2
  have hdt := HD.out.below hb2w (Nat.le_refl _)
  have HO2 := Lib.hid ho2
  have HDT := Lib.hid hdt
  have HB2 := Lib.hid hb2w
  have hz2 := hb2w.size
  clear ho2 hb2 hb2w hdt HB1 N2
  go_upto_region 5 with (at_builtin; refine wpList_app rfl (.tmp 26) (.tmp 27) 33 rfl 5 1 Try.underlying33 info5 rfl (by omega) rfl HO2.out rfl HDT.out.2.2.2 (by simpa using HDT.out.1) (bvs_oneCell _) (by omega) (by omega) hz2 ?_; intro A3 c3 w3 ho3 hg3 _)
  have hb3 : Below w.heap.size w w3 := below_own HB2.out HO2.out hg3 (Nat.le_refl _) hz2
  rw [← bvs_append] at ho3
  have HO3 := Lib.hid ho3
  have HB3 := Lib.hid hb3
  clear ho3 hb3 hg3 HO2 HDT HB2 hz2
  go_loopw [11] (fun s11 wr => ∃ (q : Nat) (A' : Option Addr) (c' : Nat), q ≤ 240 - n ∧ s11 = .slice A' (12 + n + q) c' ∧ Own wr w.heap.size 5 1 A' (12 + n + q) c' (bvs (pcHead G N p m n ++ l ++ List.replicate q 0)) ∧ Below w.heap.size w wr) (fun s11 _ => 252 - slen s11)
  case atStart => exact ⟨0, A3, c3, by omega, rfl, by simpa [pcHead] using HO3.out, HB3.out⟩
  case round =>
    clear HO3 HB3
    obtain ⟨q, A4, c4, hq, rfl, ho, hb⟩ := hrel
    have HO := Lib.hid ho
    have HB := Lib.hid hb
    have hz := hb.size
    clear ho hb
    by_cases hlt : q < 240 - n
    · go_wp2_with (at_builtin; refine wpList_app rfl (.tmp 32) (.tmp 33) 33 rfl 5 1 Try.underlying33 info5 rfl (by omega) rfl (HO.out.alloc _) rfl (rd_one _ _ rfl) rfl (one_int _ _) (by omega) (by omega) (by simp; omega) ?_; intro A5 c5 w5 ho5 hg5 _)
      have hb5 : Below w.heap.size w w5 := below_own (HB.out.alloc hz _) (HO.out.alloc _) hg5 (Nat.le_refl _) (by simp; omega)
      rw [show (Value.int .u8 0) = bv 0 from rfl, bvs_snoc, List.append_assoc, ← List.replicate_succ'] at ho5
      have HO5 := Lib.hid ho5
      have HB5 := Lib.hid hb5
      clear ho5 hb5 hg5 hz
      go_roundw
      case rel => exact ⟨q + 1, A5, c5, by omega, rfl, HO5.out, HB5.out⟩
      case measure => simp only [slen]; omega
    · obtain rfl : q = 240 - n := by omega
      have ho := HO.out
      rw [show 12 + n + (240 - n) = 252 by omega] at ho
      have hbody : pcHead G N p m n ++ l ++ List.replicate (240 - n) 0 = pcBody G N p m l := by unfold pcBody; rw [HL.out]
      rw [hbody] at ho
      have e252 : (12 : Int) + (n : Int) + ((240 - n : Nat) : Int) = 252 := by omega
      have C1 := Lib.hid (rcrc_any (own_bs ho))
      have N3a := rnum4_any ho hz (by omega) (crc (pcBody G N p m l)) (by have := crc_lt (pcBody G N p m l); omega)
      rw [show 252 + 4 = 256 from rfl] at N3a
      have N3 := Lib.hid N3a
      obtain ⟨C, hC⟩ : ∃ C, C = crc (pcBody G N p m l) := ⟨_, rfl⟩
      rw [← hC] at C1 N3
      have HC := Lib.hid hC
      obtain ⟨q2, hq2⟩ : ∃ q2, q2 = 12 + n + (240 - n) := ⟨_, rfl⟩
      have e3 : q2 = 252 := by omega
      rw [← hq2]
      subst e3
      clear ho N3a hC hbody HO e252 hq2 hlt hq
      go_wp2_with (first | ((with_reducible refine Calls.mono C1.out ?_); rintro e wa ⟨rfl, rfl⟩) | ((with_reducible refine Calls.mono N3.out ?_); rintro e w6 ⟨A6, c6, rfl, ho6, hb6⟩))
      go_ret
      exact ⟨A6, c6, rfl, by rw [HC.out] at ho6; exact ho6, HB.out.trans hb6⟩
end Go.Proofs.Ytnclebnodkkgnaa
