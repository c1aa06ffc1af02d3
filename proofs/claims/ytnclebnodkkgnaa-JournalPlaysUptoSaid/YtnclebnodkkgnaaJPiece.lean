/- A sector of a record: journal.piece. (Printed by gen_jpiece.py.) Condition: at most 232 bytes of data. -/
import Derived.Test.YtnclebnodkkgnaaDkM
import Derived.Test.YtnclebnodkkgnaaBytes
import Derived.Test.YtnclebnodkkgnaaCrc
import Derived.Test.YtnclebnodkkgnaaLastOp
import Derived.Test.YtnclebnodkkgnaaFlip
import Derived.Laws.OwnMore
import Derived.Deep.OwnRows
import Derived.Deep.DeepCutAuto
namespace Go.Proofs.Ytnclebnodkkgnaa
open Go.RowKit
set_option linter.unusedSimpArgs false
set_option linter.unusedVariables false

def pcHead (G N p m n : Nat) : List UInt8 := [74, UInt8.ofNat p, UInt8.ofNat m, UInt8.ofNat n] ++ le4 G ++ le4 N
def pcBody (G N p m : Nat) (l : List UInt8) : List UInt8 := pcHead G N p m l.length ++ l ++ List.replicate (240 - l.length) 0
/-- a piece's sector -/
def pieceB (G N p m : Nat) (l : List UInt8) : List UInt8 := pcBody G N p m l ++ le4 (crc (pcBody G N p m l))
theorem length_pcHead (G N p m n : Nat) : (pcHead G N p m n).length = 12 := rfl
theorem length_pcBody (G N p m : Nat) (l : List UInt8) (h : l.length ≤ 240) : (pcBody G N p m l).length = 252 := by
  unfold pcBody
  rw [List.length_append, List.length_append, length_pcHead, List.length_replicate]
  omega
theorem length_pieceB (G N p m : Nat) (l : List UInt8) (h : l.length ≤ 240) : (pieceB G N p m l).length = 256 := by
  unfold pieceB
  rw [List.length_append, length_pcBody G N p m l h]
  rfl
theorem shift_b (n j : Nat) : Value.int .u8 (IntKind.u8.wrap ((n : Int) / 2 ^ (8 * j))) = bv (UInt8.ofNat (n / 256 ^ j)) := by
  rw [IntKind.wrap_u8]
  refine bv_of _ _ ?_
  rw [show (256 : Nat) ^ j = 2 ^ (8 * j) by rw [Nat.pow_mul]]
  simp
/-- the sector while its numbers are laid -/
def numTo (G N : Nat) (l : List UInt8) : Nat → List UInt8
  | 0 => l
  | i + 1 => ((numTo G N l i).set (4 + i) (UInt8.ofNat (G / 256 ^ i))).set (8 + i) (UInt8.ofNat (N / 256 ^ i))
theorem length_numTo (G N : Nat) (l : List UInt8) (i : Nat) : (numTo G N l i).length = l.length := by
  induction i with
  | zero => rfl
  | succ i ih => rw [numTo, List.length_set, List.length_set, ih]
theorem numTo_4 (G N p m n : Nat) : numTo G N ([74, UInt8.ofNat p, UInt8.ofNat m, UInt8.ofNat n] ++ List.replicate 252 0) 4 = pcHead G N p m n ++ List.replicate 244 0 := by
  have e : ∀ x : Nat, le4 x = [UInt8.ofNat (x / 256 ^ 0), UInt8.ofNat (x / 256 ^ 1), UInt8.ofNat (x / 256 ^ 2), UInt8.ofNat (x / 256 ^ 3)] := fun x => by
    have h : ∀ y : Nat, UInt8.ofNat (y % 256) = UInt8.ofNat y := fun y => by
      apply UInt8.toNat_inj.1
      simp
    unfold le4
    rw [h, h, h, h]
    simp
  unfold pcHead
  rw [e G, e N]
  rfl
theorem made252 : madeCells #[Value.int .u8 0] 256 = (bvs (List.replicate 256 0)).toArray := by
  apply Array.toList_inj.1
  rw [toList_madeCells_one]
  simp only [bvs, List.map_replicate]
  rfl
theorem info5_ : (Try.prog.info? 5).map (fun i => (i.zero, i.size, i.bytes)) = some (some (.int .u8 0), 1, 1) := by kernel_rfl
theorem make252 (w : World) : (Instr.makeSlice 33 (.int .i64 252) (.int .i64 256)).run Try.prog w = .ok (.slice (some ⟨w.heap.size, 0, none⟩) 252 256) (w.alloc (.cells (bvs (List.replicate 256 0)).toArray 5)) := by
  obtain ⟨i, hi, hz, hsz, hby⟩ := info_parts info5_
  have h := run_make (P := Try.prog) w 33 5 i _ Try.underlying33 hi hz .i64 .i64 252 256 (by omega) (by omega) (by rw [hby]; omega) (by omega)
  rw [hsz] at h
  rw [h, ← made252]
  rfl
theorem blk_own {w : World} {base g n c : Nat} {e : TypeId} {cs : List Value} (h : Blk w g e cs) (hb : base ≤ g) (hc : cs.length = c) (hn : n ≤ c) (hx : c ≤ 9223372036854775807) : Own w base e 1 (some ⟨g, 0, none⟩) n c (cs.take n) := by
  refine ⟨by rw [List.length_take]; omega, .inr ⟨g, c, cs.toArray, rfl, hb, h, hn, hx, by rw [List.size_toArray]; omega, by simp⟩⟩

theorem bvs_take (l : List UInt8) (n : Nat) : (bvs l).take n = bvs (l.take n) := by simp [bvs, List.map_take]
theorem head_splice (G N p m : Nat) (l : List UInt8) (h : l.length ≤ 240) :
    splice (bvs (pcHead G N p m l.length ++ List.replicate 244 0)) 12 (bvs l) = bvs (pcBody G N p m l ++ List.replicate 4 0) := by
  have e := length_pcHead G N p m l.length
  unfold pcBody splice
  generalize pcHead G N p m l.length = d at *
  rw [bvs_take, bvs_drop, ← bvs_append, ← bvs_append, List.take_append_of_le_length (by omega), List.take_of_length_le (by omega), List.drop_append, List.drop_eq_nil_of_le (by omega), e]
  rw [List.nil_append, length_bvs, show 12 + l.length - 12 = l.length by omega, List.drop_replicate]
  rw [List.append_assoc d, List.append_assoc d, List.append_assoc l, List.replicate_append_replicate, show 244 - l.length = 240 - l.length + 4 by omega]
theorem head_fit (G N p m : Nat) (l : List UInt8) (h : l.length ≤ 240) : 12 + (bvs l).length ≤ (bvs (pcHead G N p m l.length ++ List.replicate 244 0)).length := by
  rw [length_bvs, length_bvs, List.length_append, length_pcHead, List.length_replicate]; omega
theorem body_bs {w : World} {g : Nat} {G N p m : Nat} {l : List UInt8} (h : Blk w g 5 (bvs (pcBody G N p m l ++ List.replicate 4 0))) (hl : l.length ≤ 240) : Bs w 0 (some ⟨g, 0, none⟩) 252 256 (pcBody G N p m l) := by
  have h2 := h.bs 0 0 252 256 (Nat.zero_le _) (by omega) (by omega) (by rw [List.length_append, length_pcBody G N p m l hl, List.length_replicate]; omega)
  rwa [List.drop_zero, List.take_append_of_le_length (by rw [length_pcBody G N p m l hl]; omega), List.take_of_length_le (by rw [length_pcBody G N p m l hl]; omega)] at h2
theorem body_own {w : World} {g : Nat} {G N p m : Nat} {l : List UInt8} (h : Blk w g 5 (bvs (pcBody G N p m l ++ List.replicate 4 0))) (hl : l.length ≤ 240) : Own w g 5 1 (some ⟨g, 0, none⟩) 252 256 (bvs (pcBody G N p m l)) := by
  have e := length_pcBody G N p m l hl
  have h2 := blk_own (n := 252) (c := 256) h (Nat.le_refl _) (by rw [length_bvs, List.length_append, e, List.length_replicate]) (by omega) (by omega)
  rwa [bvs_take, List.take_append_of_le_length (by omega), List.take_of_length_le (by omega)] at h2

theorem le4_new' {w : World} {lo : Nat} (C : Nat) (h : C < 4294967296) (hl : lo ≤ w.heap.size) : Rd (w.alloc (.cells #[Value.int .u8 ((C : Int) % 256), .int .u8 ((C : Int) / 256 % 256), .int .u8 ((C : Int) / 65536 % 256), .int .u8 ((C : Int) / 16777216)] 5)) lo (some ⟨w.heap.size, 0, none⟩) (bvs (le4 C)) := by
  rw [bv_of (↑C % 256) (C % 256) (by omega), bv_of (↑C / 256 % 256) (C / 256 % 256) (by omega), bv_of (↑C / 65536 % 256) (C / 65536 % 256) (by omega), bv_of (↑C / 16777216) (C / 16777216 % 256) (by omega)]
  exact (Blk.new w 5 (bvs (le4 C))).rd0 hl

set_option maxRecDepth 100000 in
set_option maxHeartbeats 4000000 in
theorem piece_any (G N p m : Nat) {lo : Nat} {A : Option Addr} {n c : Nat} {l : List UInt8} {w : World} (hd : Bs w lo A n c l) (hn : n ≤ 232) (hG : G ≤ 4294967295) (hN : N ≤ 4294967295) (hp : p ≤ 65535) (hm : m ≤ 65535) :
    Calls Try.prog 52 #[.int .i64 G, .int .i64 N, .int .i64 p, .int .i64 m, .slice A n c] w fun e w' => ∃ A' c', e = .returned (.slice A' 256 c') ∧ Own w' w.heap.size 5 1 A' 256 c' (bvs (pieceB G N p m l)) ∧ Below w.heap.size w w' := by
  have HD := Lib.hid hd
  have HL : Hid (l.length = n) := hd.1
  have hc1 := hd.2.1
  have hc2 := hd.2.2.1
  have hmk := make252 w
  clear hd
  go_enter Try.func52, Try.ntmps52
  go_upto_region 2 with fail
  refine wp_world (fun U => Blk U w.heap.size 5 (bvs (List.replicate 256 0)) ∧ Below w.heap.size w U) ⟨Blk.new w _ _, (Below.refl _ _).alloc (Nat.le_refl _) _⟩ ?_
  clear hmk
  rintro U ⟨hB, hU⟩
  have hB2 : Blk U w.heap.size 5 (bv 0 :: bv 0 :: bv 0 :: bv 0 :: bvs (List.replicate 252 0)) := hB
  have bf := hB2.frees
  have c0 := hB2.cell 0
  have c1 := hB2.cell 1
  have c2 := hB2.cell 2
  have c3 := hB2.cell 3
  simp only [List.getElem?_cons_zero, List.getElem?_cons_succ] at c0 c1 c2 c3
  clear hB
  go_upto_region 3 with fail
  have v1 : Value.int .u8 ((p : Int) % 256) = bv (UInt8.ofNat p) := bv_of _ _ (by omega)
  have v2 : Value.int .u8 ((m : Int) % 256) = bv (UInt8.ofNat m) := bv_of _ _ (by omega)
  have v3 : Value.int .u8 (n : Int) = bv (UInt8.ofNat n) := bv_of _ _ (by omega)
  refine wp_world (fun U => Blk U w.heap.size 5 (bvs (numTo G N ([74, UInt8.ofNat p, UInt8.ofNat m, UInt8.ofNat n] ++ List.replicate 252 0) 0)) ∧ Below w.heap.size w U)
    ⟨by rw [v1, v2, v3]; exact ((((hB2.set_ 0 (bv 74)).set_ 1 _).set_ 2 _).set_ 3 _), (((hU.setCell (by simp) _).setCell (by simp) _).setCell (by simp) _).setCell (by simp) _⟩ ?_
  clear hB2 hU bf c0 c1 c2 c3 v1 v2 v3
  rintro U1 ⟨hB, hU⟩
  go_wp2
  go_loopw [12, 30] (fun _ s30 wr => ∃ i : Nat, i ≤ 4 ∧ s30 = .int .i64 i ∧ Blk wr w.heap.size 5 (bvs (numTo G N ([74, UInt8.ofNat p, UInt8.ofNat m, UInt8.ofNat n] ++ List.replicate 252 0) i)) ∧ Below w.heap.size w wr) (fun _ s30 _ => 4 - (intOf s30).toNat)
  case atStart => exact ⟨0, by omega, rfl, hB, hU⟩
  case round =>
    clear hB hU
    obtain ⟨i, hi, rfl, hB, hU⟩ := hrel
    by_cases hlt : i < 4
    · have hlen : (numTo G N ([74, UInt8.ofNat p, UInt8.ofNat m, UInt8.ofNat n] ++ List.replicate 252 0) i).length = 256 := length_numTo _ _ _ _
      have HS : Hid (numTo G N ([74, UInt8.ofNat p, UInt8.ofNat m, UInt8.ofNat n] ++ List.replicate 252 0) (i + 1) = ((numTo G N ([74, UInt8.ofNat p, UInt8.ofNat m, UInt8.ofNat n] ++ List.replicate 252 0) i).set (4 + i) (UInt8.ofNat (G / 256 ^ i))).set (8 + i) (UInt8.ofNat (N / 256 ^ i))) := rfl
      obtain ⟨L, hL⟩ : ∃ L, numTo G N ([74, UInt8.ofNat p, UInt8.ofNat m, UInt8.ofNat n] ++ List.replicate 252 0) i = L := ⟨_, rfl⟩
      rw [hL] at hB hlen HS
      clear hL
      have e5 : IntKind.i64.wrap (8 * (i : Int)) = 8 * (i : Int) := IntWalk.i64_in _ (by omega)
      have e6 : (8 * (i : Int)).toNat = 8 * i := by omega
      have e7 : (0 : Int) ≤ 8 * (i : Int) := by omega
      have e8 : IntKind.i64.wrap (4 + (i : Int)) = 4 + (i : Int) := IntWalk.i64_in _ (by omega)
      have e9 : IntKind.i64.wrap (8 + (i : Int)) = 8 + (i : Int) := IntWalk.i64_in _ (by omega)
      have f1 : (4 + (i : Int)).toNat = 4 + i := by omega
      have f2 : (8 + (i : Int)).toNat = 8 + i := by omega
      have f3 : (0 : Int) ≤ 4 + (i : Int) := by omega
      have f4 : (0 : Int) ≤ 8 + (i : Int) := by omega
      have f5 : 4 + (i : Int) < 252 := by omega
      have f6 : 8 + (i : Int) < 252 := by omega
      have HLen := Lib.hid hlen
      have HBB := Lib.hid hB
      have hg4 : (wr.cell? ⟨w.heap.size, 4 + i, none⟩).isSome = true := by rw [hB.cell, List.getElem?_eq_getElem (by rw [length_bvs, hlen]; omega)]; rfl
      have hg8 : (wr.cell? ⟨w.heap.size, 8 + i, none⟩).isSome = true := by rw [hB.cell, List.getElem?_eq_getElem (by rw [length_bvs, hlen]; omega)]; rfl
      obtain ⟨x4, hx4⟩ := Option.isSome_iff_exists.1 hg4
      obtain ⟨x8, hx8⟩ := Option.isSome_iff_exists.1 hg8
      have bf := hB.frees
      clear hlen hB hg4 hg8
      go_upto_region 6 with fail
      refine wp_region_last (S := fun w' => True) 19 (by kernel_rfl) rfl (by kernel_rfl) ?_ ?_
      · trivial
      intro hHeld
      simp only [List.take_succ_cons, List.take_zero]
      refine wpAnyH_take (i := 0) (v := ?_) (by simp only [List.getElem?_toArray, List.getElem?_cons_succ, List.getElem?_cons_zero]; rfl) (by kernel_rfl) (by kernel_rfl) (by kernel_rfl) (fun _ _ _ h => h) (Or.inl ⟨by rfl, ?_⟩) hHeld ?_
      rotate_left
      · intro wz hSw; (try dsimp only at hSw); go_simp; try with_reducible rfl
      (try simp only [Act.put, List.setIfInBounds_toArray, List.set_cons_zero, List.set_cons_succ])
      refine wpAnyH_take (i := 1) (v := ?_) (by simp only [List.getElem?_toArray, List.getElem?_cons_succ, List.getElem?_cons_zero]; rfl) (by kernel_rfl) (by kernel_rfl) (by kernel_rfl) (fun _ _ _ h => h) (Or.inl ⟨by rfl, ?_⟩) hHeld ?_
      rotate_left
      · intro wz hSw; (try dsimp only at hSw); go_simp; try with_reducible rfl
      (try simp only [Act.put, List.setIfInBounds_toArray, List.set_cons_zero, List.set_cons_succ])
      refine wpAnyH_take (i := 2) (v := ?_) (by simp only [List.getElem?_toArray, List.getElem?_cons_succ, List.getElem?_cons_zero]; rfl) (by kernel_rfl) (by kernel_rfl) (by kernel_rfl) (fun _ _ _ h => h) (Or.inl ⟨by rfl, ?_⟩) hHeld ?_
      rotate_left
      · intro wz hSw; (try dsimp only at hSw); go_simp; try with_reducible rfl
      (try simp only [Act.put, List.setIfInBounds_toArray, List.set_cons_zero, List.set_cons_succ])
      refine wpAnyH_take (i := 3) (v := ?_) (by simp only [List.getElem?_toArray, List.getElem?_cons_succ, List.getElem?_cons_zero]; rfl) (by kernel_rfl) (by kernel_rfl) (by kernel_rfl) (fun _ _ _ h => h) (Or.inl ⟨by rfl, ?_⟩) hHeld ?_
      rotate_left
      · intro wz hSw; (try dsimp only at hSw); go_simp; try with_reducible rfl
      (try simp only [Act.put, List.setIfInBounds_toArray, List.set_cons_zero, List.set_cons_succ])
      refine wpAnyH_take (i := 4) (v := ?_) (by simp only [List.getElem?_toArray, List.getElem?_cons_succ, List.getElem?_cons_zero]; rfl) (by kernel_rfl) (by kernel_rfl) (by kernel_rfl) (fun _ _ _ h => h) (Or.inl ⟨by rfl, ?_⟩) hHeld ?_
      rotate_left
      · intro wz hSw; (try dsimp only at hSw); go_simp; try with_reducible rfl
      (try simp only [Act.put, List.setIfInBounds_toArray, List.set_cons_zero, List.set_cons_succ])
      refine wpAnyH_take (i := 5) (v := ?_) (by simp only [List.getElem?_toArray, List.getElem?_cons_succ, List.getElem?_cons_zero]; rfl) (by kernel_rfl) (by kernel_rfl) (by kernel_rfl) (fun _ _ _ h => h) (Or.inl ⟨by rfl, ?_⟩) hHeld ?_
      rotate_left
      · intro wz hSw; (try dsimp only at hSw); go_simp; try with_reducible rfl
      (try simp only [Act.put, List.setIfInBounds_toArray, List.set_cons_zero, List.set_cons_succ])
      refine wpAnyH_take (i := 6) (v := ?_) (by simp only [List.getElem?_toArray, List.getElem?_cons_succ, List.getElem?_cons_zero]; rfl) (by kernel_rfl) (by kernel_rfl) (by kernel_rfl) (fun _ _ _ h => h) (Or.inl ⟨by rfl, ?_⟩) hHeld ?_
      rotate_left
      · intro wz hSw; (try dsimp only at hSw); go_simp; try with_reducible rfl
      (try simp only [Act.put, List.setIfInBounds_toArray, List.set_cons_zero, List.set_cons_succ])
      refine wpAnyH_take (i := 7) (v := ?_) (by simp only [List.getElem?_toArray, List.getElem?_cons_succ, List.getElem?_cons_zero]; rfl) (by kernel_rfl) (by kernel_rfl) (by kernel_rfl) (fun _ _ _ h => h) (Or.inl ⟨by rfl, ?_⟩) hHeld ?_
      rotate_left
      · intro wz hSw; (try dsimp only at hSw); go_simp; try with_reducible rfl
      (try simp only [Act.put, List.setIfInBounds_toArray, List.set_cons_zero, List.set_cons_succ])
      refine wpAnyH_take (i := 8) (v := ?_) (by simp only [List.getElem?_toArray, List.getElem?_cons_succ, List.getElem?_cons_zero]; rfl) (by kernel_rfl) (by kernel_rfl) (by kernel_rfl) (fun _ _ _ h => h) (Or.inl ⟨by rfl, ?_⟩) hHeld ?_
      rotate_left
      · intro wz hSw; (try dsimp only at hSw); go_simp; try with_reducible rfl
      (try simp only [Act.put, List.setIfInBounds_toArray, List.set_cons_zero, List.set_cons_succ])
      refine wpAnyH_take (i := 9) (v := ?_) (by simp only [List.getElem?_toArray, List.getElem?_cons_succ, List.getElem?_cons_zero]; rfl) (by kernel_rfl) (by kernel_rfl) (by kernel_rfl) (fun _ _ _ h => h) (Or.inl ⟨by rfl, ?_⟩) hHeld ?_
      rotate_left
      · intro wz hSw; (try dsimp only at hSw); go_simp; try with_reducible rfl
      (try simp only [Act.put, List.setIfInBounds_toArray, List.set_cons_zero, List.set_cons_succ])
      refine wpAnyH_take (i := 10) (v := ?_) (by simp only [List.getElem?_toArray, List.getElem?_cons_succ, List.getElem?_cons_zero]; rfl) (by kernel_rfl) (by kernel_rfl) (by kernel_rfl) (fun _ _ _ h => h) (Or.inl ⟨by rfl, ?_⟩) hHeld ?_
      rotate_left
      · intro wz hSw; (try dsimp only at hSw); go_simp; try with_reducible rfl
      (try simp only [Act.put, List.setIfInBounds_toArray, List.set_cons_zero, List.set_cons_succ])
      refine wpAnyH_take (i := 11) (v := ?_) (by simp only [List.getElem?_toArray, List.getElem?_cons_succ, List.getElem?_cons_zero]; rfl) (by kernel_rfl) (by kernel_rfl) (by kernel_rfl) (fun _ _ _ h => h) (Or.inl ⟨by rfl, ?_⟩) hHeld ?_
      rotate_left
      · intro wz hSw; (try dsimp only at hSw); go_simp; try with_reducible rfl
      (try simp only [Act.put, List.setIfInBounds_toArray, List.set_cons_zero, List.set_cons_succ])
      refine wpAnyH_take (i := 12) (v := ?_) (by simp only [List.getElem?_toArray, List.getElem?_cons_succ, List.getElem?_cons_zero]; rfl) (by kernel_rfl) (by kernel_rfl) (by kernel_rfl) (fun _ _ _ h => h) (Or.inl ⟨by rfl, ?_⟩) hHeld ?_
      rotate_left
      · intro wz hSw; (try dsimp only at hSw); go_simp; try with_reducible rfl
      (try simp only [Act.put, List.setIfInBounds_toArray, List.set_cons_zero, List.set_cons_succ])
      refine wpAnyH_take (i := 13) (v := ?_) (by simp only [List.getElem?_toArray, List.getElem?_cons_succ, List.getElem?_cons_zero]; rfl) (by kernel_rfl) (by kernel_rfl) (by kernel_rfl) (fun _ _ _ h => h) (Or.inl ⟨by rfl, ?_⟩) hHeld ?_
      rotate_left
      · intro wz hSw; (try dsimp only at hSw); go_simp; try with_reducible rfl
      (try simp only [Act.put, List.setIfInBounds_toArray, List.set_cons_zero, List.set_cons_succ])
      refine wpAnyH_take (i := 14) (v := ?_) (by simp only [List.getElem?_toArray, List.getElem?_cons_succ, List.getElem?_cons_zero]; rfl) (by kernel_rfl) (by kernel_rfl) (by kernel_rfl) (fun _ _ _ h => h) (Or.inl ⟨by rfl, ?_⟩) hHeld ?_
      rotate_left
      · intro wz hSw; (try dsimp only at hSw); go_simp; try with_reducible rfl
      (try simp only [Act.put, List.setIfInBounds_toArray, List.set_cons_zero, List.set_cons_succ])
      refine wpAnyH_take (i := 15) (v := ?_) (by simp only [List.getElem?_toArray, List.getElem?_cons_succ, List.getElem?_cons_zero]; rfl) (by kernel_rfl) (by kernel_rfl) (by kernel_rfl) (fun _ _ _ h => h) (Or.inl ⟨by rfl, ?_⟩) hHeld ?_
      rotate_left
      · intro wz hSw; (try dsimp only at hSw); go_simp; try with_reducible rfl
      (try simp only [Act.put, List.setIfInBounds_toArray, List.set_cons_zero, List.set_cons_succ])
      refine wpAnyH_take (i := 16) (v := ?_) (by simp only [List.getElem?_toArray, List.getElem?_cons_succ, List.getElem?_cons_zero]; rfl) (by kernel_rfl) (by kernel_rfl) (by kernel_rfl) (fun _ _ _ h => h) (Or.inl ⟨by rfl, ?_⟩) hHeld ?_
      rotate_left
      · intro wz hSw; (try dsimp only at hSw); go_simp; try with_reducible rfl
      (try simp only [Act.put, List.setIfInBounds_toArray, List.set_cons_zero, List.set_cons_succ])
      refine wpAnyH_ready (rs := [17]) (by kernel_rfl) (by simp) ?_
      refine AllReadyH.cons (by simp only [List.getElem?_toArray, List.getElem?_cons_succ, List.getElem?_cons_zero]; rfl) (fun KK hK => ?_) AllReadyH.nil
      go_simp
      refine hK.out _ _ ?_ (fun hHeld => ?_)
      · trivial
      clear hK KK
      (try simp only [Act.put, List.setIfInBounds_toArray, List.set_cons_zero, List.set_cons_succ])
      refine wpAnyH_take (i := 18) (v := ?_) (by simp only [List.getElem?_toArray, List.getElem?_cons_succ, List.getElem?_cons_zero]; rfl) (by kernel_rfl) (by kernel_rfl) (by kernel_rfl) (fun _ _ _ h => h) (Or.inl ⟨by rfl, ?_⟩) hHeld ?_
      rotate_left
      · intro wz hSw; (try dsimp only at hSw); go_simp; try with_reducible rfl
      (try simp only [Act.put, List.setIfInBounds_toArray, List.set_cons_zero, List.set_cons_succ])
      refine wpAnyH_done (by kernel_rfl) ?_ _
      simp only [lastQ]
      go_simp
      rw [shift_b, shift_b]
      have hB2 := (((HBB.out.set_ (4 + i) (bv (UInt8.ofNat (G / 256 ^ i)))).set_ (8 + i) (bv (UInt8.ofNat (N / 256 ^ i)))).drew)
      rw [bvs_set, bvs_set, ← HS.out] at hB2
      have hU2 := ((hU.setCell (p := ⟨w.heap.size, 4 + i, none⟩) (Nat.le_refl _) (bv (UInt8.ofNat (G / 256 ^ i)))).setCell (p := ⟨w.heap.size, 8 + i, none⟩) (Nat.le_refl _) (bv (UInt8.ofNat (N / 256 ^ i)))).drew
      go_upto_region 7 with fail
      refine wp_world (fun U => Blk U w.heap.size 5 (bvs (numTo G N ([74, UInt8.ofNat p, UInt8.ofNat m, UInt8.ofNat n] ++ List.replicate 252 0) (i + 1))) ∧ Below w.heap.size w U) ⟨hB2, hU2⟩ ?_
      clear hB2 hU2 hU hx4 hx8 bf HBB hHeld
      rintro U2 ⟨hB, hU⟩
      have HB := Lib.hid hB
      clear hB
      go_wp2
      go_roundw
      · exact ⟨i + 1, by omega, by norm_cast, HB.out, hU⟩
      · simp only [intOf]; omega
    · obtain rfl : i = 4 := by omega
      rw [numTo_4] at hB
      obtain rfl := HL.out
      have h240 : l.length ≤ 240 := by omega
      have HD2 := HD.out.below hU (Nat.le_refl _)
      go_upto_region 9 with (refine wpList_copy rfl (.tmp 53) (.tmp 54) 33 33 rfl 5 Try.underlying33 size5 _ _ 240 244 l.length c rfl rfl w.heap.size 12 _ 5 hB (bvs l) (by simp; omega) (fun _ => rfl) lo (bvs l) HD2.2.2.2 (by rw [List.take_length]) (head_fit G N p m l h240) (bvs_oneCell _) ?_; intro w2 H2 g2)
      have hU2 : Below w.heap.size w w2 := hU.grown g2 hU.size (by simp)
      rw [head_splice G N p m l h240] at H2
      refine wp_world (fun U => Blk U w.heap.size 5 (bvs (pcBody G N p m l ++ List.replicate 4 0)) ∧ Below w.heap.size w U) ⟨H2.out, hU2⟩ ?_
      clear hB HD2 H2 g2 hU2 hU HD
      rintro U3 ⟨hB, hU⟩
      have hBs := body_bs hB h240
      have hOw := body_own hB h240
      have HB := Lib.hid hOw
      have hcl : crc (pcBody G N p m l) < 4294967296 := by unfold crc; omega
      obtain ⟨C, hC⟩ : ∃ C, C = crc (pcBody G N p m l) := ⟨_, rfl⟩
      rw [← hC] at hcl
      have HC : Hid (Calls Try.prog 66 #[.slice (some ⟨w.heap.size, 0, none⟩) 252 256] U3 fun e w' => e = .returned (.int .i64 C) ∧ U3 = w') := hC ▸ scrc_any hBs
      have HP : Hid (pieceB G N p m l = pcBody G N p m l ++ le4 C) := by show _ = _; rw [hC]; rfl
      obtain ⟨L, hL⟩ : ∃ L, L = pcBody G N p m l := ⟨_, rfl⟩
      rw [← hL] at HB HP
      clear hB hBs hOw hC hL
      go_upto_region 99 with (first | ((with_reducible refine Calls.mono HC.out ?_); rintro e w4 ⟨rfl, rfl⟩) | (at_builtin; refine wpList_app rfl (.tmp 58) (.tmp 70) 33 rfl 5 1 Try.underlying33 info5 rfl (by omega) rfl (HB.out.alloc _) rfl (le4_new' C hcl (Nat.zero_le _)) rfl (bvs_oneCell _) (by omega) (by omega) (by have := hU.size; simp; omega) ?_; intro A2 c2 w2 ho2 hg2 _))
      rw [← bvs_append, ← HP.out] at ho2
      go_ret
      exact ⟨A2, c2, rfl, ho2, (hU.alloc hU.size _).grown hg2 (by have := hU.size; simp; omega) (by intro g hg; simp [ablk] at hg; omega)⟩
end Go.Proofs.Ytnclebnodkkgnaa
