/- A byte's number, of the program and of the document. -/
import Derived.Test.YtgfmpgflbphpcaaRef2
import Derived.Test.YtgfmpgflbphpcaaPlainCut
namespace Go.Proofs.Ytgfmpgflbphpcaa
open Go.RowKit

theorem ret_num {k : IntKind} {a b : Int} (h : a = b) : Ending.returned (.int k a) = .returned (.int k b) := by rw [h]
theorem gear_u32 (a b c d : Nat) (ha : a < 256) (hb : b < 256) (hc : c < 256) (hd : d < 256) :
    bits .or .u32 (bits .or .u32 (bits .or .u32 ((a : Int) % 4294967296) ((b : Int) % 4294967296 * 256 % 4294967296)) ((c : Int) % 4294967296 * 65536 % 4294967296)) ((d : Int) % 4294967296 * 16777216 % 4294967296) = ((a + 256 * b + 65536 * c + 16777216 * d : Nat) : Int) := by
  have s8 : ∀ z : Nat, z <<< 8 = z * 256 := fun z => by simp [Nat.shiftLeft_eq]
  have s16 : ∀ z : Nat, z <<< 16 = z * 65536 := fun z => by simp [Nat.shiftLeft_eq]
  have s24 : ∀ z : Nat, z <<< 24 = z * 16777216 := fun z => by simp [Nat.shiftLeft_eq]
  have e1 : (a : Int) % 4294967296 = ((a : Nat) : Int) := by omega
  have e2 : (b : Int) % 4294967296 * 256 % 4294967296 = ((b * 256 : Nat) : Int) := by omega
  have e3 : (c : Int) % 4294967296 * 65536 % 4294967296 = ((c * 65536 : Nat) : Int) := by omega
  have e4 : (d : Int) % 4294967296 * 16777216 % 4294967296 = ((d * 16777216 : Nat) : Int) := by omega
  have o1 : a ||| b * 256 = a + 256 * b := by
    have := Nat.shiftLeft_add_eq_or_of_lt (show a < 2 ^ 8 by omega) b
    rw [s8] at this; rw [Nat.or_comm, ← this]; omega
  have o2 : (a + 256 * b) ||| c * 65536 = a + 256 * b + 65536 * c := by
    have := Nat.shiftLeft_add_eq_or_of_lt (show a + 256 * b < 2 ^ 16 by omega) c
    rw [s16] at this; rw [Nat.or_comm, ← this]; omega
  have o3 : (a + 256 * b + 65536 * c) ||| d * 16777216 = a + 256 * b + 65536 * c + 16777216 * d := by
    have := Nat.shiftLeft_add_eq_or_of_lt (show a + 256 * b + 65536 * c < 2 ^ 24 by omega) d
    rw [s24] at this; rw [Nat.or_comm, ← this]; omega
  rw [e1, e2, e3, e4, u32_or _ _ (by omega) (by omega), o1, u32_or _ _ (by omega) (by omega), o2, u32_or _ _ (by omega) (by omega), o3]

theorem sha_cells {W : World} {g : Nat} {b : UInt8} (h : Blk W g 26 (bvs (sha [b]))) :
    W.cell? ⟨g, 0, none⟩ = some (.int .u8 (((sha [b]).getD 0 0).toNat : Int)) ∧ W.cell? ⟨g, 1, none⟩ = some (.int .u8 (((sha [b]).getD 1 0).toNat : Int)) ∧ W.cell? ⟨g, 2, none⟩ = some (.int .u8 (((sha [b]).getD 2 0).toNat : Int)) ∧ W.cell? ⟨g, 3, none⟩ = some (.int .u8 (((sha [b]).getD 3 0).toNat : Int)) := by
  have hb := h.bs0 0 32 32 (Nat.zero_le _) (by omega) (by omega) (length_sha [b])
  have c0 := hb.cell 0 (by omega)
  have c1 := hb.cell 1 (by omega)
  have c2 := hb.cell 2 (by omega)
  have c3 := hb.cell 3 (by omega)
  exact ⟨c0, c1, c2, c3⟩

set_option maxHeartbeats 1000000 in
theorem gear_any (b : UInt8) (w : World) : Calls Try.prog 49 #[.int .u8 (b.toNat : Int)] w fun e w' => e = .returned (.int .u32 (gearN b : Nat)) ∧ Below w.heap.size w w' := by
  have z41 := zero41
  go_enter Try.func49, Try.ntmps49
  go_upto_region 2 with (first
    | (go_at_call 18; refine (sha_any ((Blk.new_at (cs := bvs [b]) rfl).bs0 0 1 1 (Nat.zero_le _) (by omega) (by omega) rfl) (by omega)).mono ?_; rintro e w1 ⟨rfl, hb1⟩)
    | (((with_reducible refine row_set (o := ⟨none, _, _, _, _, _⟩) ?_ ?_ 26 (.tmp 3) (.tmp 6) ?_ w1.heap.size ?_ (bvs (sha [b])) ?_ 26 (zeros 32) ?_ ?_ ?_ ?_ ?_); rfl; rfl; rfl; rfl; rfl; exact Blk.new _ _ _; (rw [size41]; simp [length_sha]); (simp [length_sha, zeros]); exact bvs_oneCell _; (intro w9 X9 g9))))
  have b1 : Below w.heap.size w w1 := ((Below.refl _ _).alloc (Nat.le_refl _) _).trans (hb1.mono (by simp))
  refine wp_world (fun V => Below w.heap.size w V ∧ Blk V w1.heap.size 26 (bvs (sha [b]))) ⟨(b1.alloc b1.size _).grown g9 (by have := b1.size; simp; omega) (by intro k hk; have := b1.size; simp at hk; omega), X9.out⟩ ?_
  clear hb1 g9 X9 b1 z41
  generalize w1.heap.size = gS at *
  rintro V ⟨hV, hS⟩
  obtain ⟨c0, c1, c2, c3⟩ := sha_cells hS
  have HG : Hid (gearN b = ((sha [b]).getD 0 0).toNat + 256 * ((sha [b]).getD 1 0).toNat + 65536 * ((sha [b]).getD 2 0).toNat + 16777216 * ((sha [b]).getD 3 0).toNat) := rfl
  generalize (sha [b]).getD 0 0 = y0 at *
  generalize (sha [b]).getD 1 0 = y1 at *
  generalize (sha [b]).getD 2 0 = y2 at *
  generalize (sha [b]).getD 3 0 = y3 at *
  have HV := Lib.hid (gear_u32 y0.toNat y1.toNat y2.toNat y3.toNat y0.toNat_lt y1.toNat_lt y2.toNat_lt y3.toNat_lt)
  clear hS
  go_wp2
  go_ret
  rw [HV.out, HG.out]
  exact ⟨rfl, hV⟩
set_option maxHeartbeats 1000000 in
theorem rgear_any (b : UInt8) (w : World) : Calls Try.prog 33 #[.int .u8 (b.toNat : Int)] w fun e w' => e = .returned (.int .i64 (gearN b : Nat)) ∧ Below w.heap.size w w' := by
  have z41 := zero41
  go_enter Try.func33, Try.ntmps33
  go_upto_region 2 with (first
    | (go_at_call 19; refine (rsha_any ((Blk.new_at (cs := bvs [b]) rfl).bs0 0 1 1 (Nat.zero_le _) (by omega) (by omega) rfl) (by omega)).mono ?_; rintro e w1 ⟨rfl, hb1⟩)
    | (((with_reducible refine row_set (o := ⟨none, _, _, _, _, _⟩) ?_ ?_ 26 (.tmp 3) (.tmp 6) ?_ w1.heap.size ?_ (bvs (sha [b])) ?_ 26 (zeros 32) ?_ ?_ ?_ ?_ ?_); rfl; rfl; rfl; rfl; rfl; exact Blk.new _ _ _; (rw [size41]; simp [length_sha]); (simp [length_sha, zeros]); exact bvs_oneCell _; (intro w9 X9 g9))))
  have b1 : Below w.heap.size w w1 := ((Below.refl _ _).alloc (Nat.le_refl _) _).trans (hb1.mono (by simp))
  refine wp_world (fun V => Below w.heap.size w V ∧ Blk V w1.heap.size 26 (bvs (sha [b]))) ⟨(b1.alloc b1.size _).grown g9 (by have := b1.size; simp; omega) (by intro k hk; have := b1.size; simp at hk; omega), X9.out⟩ ?_
  clear hb1 g9 X9 b1 z41
  generalize w1.heap.size = gS at *
  rintro V ⟨hV, hS⟩
  obtain ⟨c0, c1, c2, c3⟩ := sha_cells hS
  have HG : Hid (gearN b = ((sha [b]).getD 0 0).toNat + 256 * ((sha [b]).getD 1 0).toNat + 65536 * ((sha [b]).getD 2 0).toNat + 16777216 * ((sha [b]).getD 3 0).toNat) := rfl
  generalize (sha [b]).getD 0 0 = y0 at *
  generalize (sha [b]).getD 1 0 = y1 at *
  generalize (sha [b]).getD 2 0 = y2 at *
  generalize (sha [b]).getD 3 0 = y3 at *
  have l0 := y0.toNat_lt
  have l1 := y1.toNat_lt
  have l2 := y2.toNat_lt
  have l3 := y3.toNat_lt
  clear hS
  go_wp2
  go_ret
  rw [HG.out]
  exact ⟨ret_num (by omega), hV⟩
theorem Gear_any (b : UInt8) (w : World) : Calls Try.prog 32 #[.int .u8 (b.toNat : Int)] w fun e w' => e = .returned (.int .i64 (gearN b : Nat)) ∧ Below w.heap.size w w' := by
  have hl := gearN_lt b
  go_enter Try.func32, Try.ntmps32
  go_wp2_with (go_at_call 49; refine (gear_any b _).mono ?_; rintro e w1 ⟨rfl, hb1⟩)
  go_ret
  exact ⟨rfl, hb1⟩
end Go.Proofs.Ytgfmpgflbphpcaa
