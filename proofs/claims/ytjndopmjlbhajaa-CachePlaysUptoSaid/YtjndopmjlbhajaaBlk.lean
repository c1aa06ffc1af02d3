/- The block: its check sum, Put. -/
import Derived.Test.YtjndopmjlbhajaaBytes
import Derived.Test.YtjndopmjlbhajaaPlainBD
import Derived.Test.YtjndopmjlbhajaaLib
import Derived.RegionTactic
import Derived.BigRegion
namespace Go.Proofs.Ytjndopmjlbhajaa
open Go.RowKit

set_option maxHeartbeats 400000 in
theorem sum_any {A : Option Addr} {m c : Nat} {l : List UInt8} {lo : Nat} {w : World} (hb : Bs w lo A m c l) :
    Calls Try.prog 53 #[.slice A m c] w fun e w' => e = .returned (.slice (some ⟨w.heap.size, 0, none⟩) 4 4) ∧ w' = w.alloc (.cells (bvs (le4 (crc l))).toArray 5) := by
  have hc := crc_lt l
  go_enter Try.func53, Try.ntmps53
  go_wp2_with (go_at_call 72; refine (scrc_any hb).mono ?_; rintro e w' ⟨rfl, rfl⟩)
  go_ret
  refine ⟨rfl, ?_⟩
  generalize crc l = s at *
  congr 2
  simp only [bvs, le4, List.map]
  rw [bv_of (↑s % 256) (s % 256) (by omega), bv_of (↑s / 256 % 256) (s / 256 % 256) (by omega), bv_of (↑s / 65536 % 256) (s / 65536 % 256) (by omega), bv_of (↑s / 16777216) (s / 16777216 % 256) (by omega)]

theorem zero44 (w : World) : (zeroValue 97).run Try.prog w = .ok (.agg (zeros 256).toArray) w := by kernel_rfl
def blk4 (n kind : Nat) (l : List UInt8) : List UInt8 := [UInt8.ofNat kind, UInt8.ofNat l.length, UInt8.ofNat (n % 256), UInt8.ofNat (n / 256)]
theorem blk4_rd {n kind : Nat} {l : List UInt8} {W : World} {g : Nat} (hg : g = W.heap.size) :
    Rd (W.alloc (.cells #[Value.int .u8 (IntKind.u8.wrap kind), .int .u8 (IntKind.u8.wrap l.length), .int .u8 (IntKind.u8.wrap n), .int .u8 (IntKind.u8.wrap ((n : Int) / 256))] 5)).drew 0 (some ⟨g, 0, none⟩) (bvs (blk4 n kind l)) := by
  subst hg
  have h := (Blk.new W 5 (bvs (blk4 n kind l))).rd0 (lo := 0) (Nat.zero_le _)
  simp only [IntKind.wrap_u8]
  rw [bv_of (↑kind % 256) kind (by omega), bv_of (↑l.length % 256) l.length (by omega), bv_of (↑n % 256) (n % 256) (by omega), bv_of (↑n / 256 % 256) (n / 256) (by omega)]
  exact h
theorem blk4_fit (n kind : Nat) (l : List UInt8) : 0 + (bvs (blk4 n kind l)).length ≤ (zeros 256).length := by rw [length_zeros]; simp [blk4]
theorem fit8 (n kind : Nat) (l : List UInt8) (m1 : l.length ≤ 240) : 8 + (bvs l).length ≤ (splice (zeros 256) 0 (bvs (blk4 n kind l))).length := by
  rw [length_splice _ _ _ (blk4_fit n kind l), length_zeros]; simp; omega
theorem blkData_splice (n kind : Nat) (l : List UInt8) (m1 : l.length ≤ 240) :
    splice (splice (zeros 256) 0 (bvs (blk4 n kind l))) 8 (bvs l) = bvs (blkData n kind l) ++ bvs [0, 0, 0, 0] := by
  have e1 : splice (zeros 256) 0 (bvs (blk4 n kind l)) = bvs (blkHead n kind l) ++ zeros 248 := rfl
  have e3 : (bvs (blkHead n kind l)).length = 8 := rfl
  rw [e1, zeros_bvs 248]
  unfold splice
  rw [List.take_append_of_le_length (by omega), List.take_of_length_le (by omega), List.drop_append, List.drop_eq_nil_of_le (by rw [e3]; omega), e3]
  rw [List.nil_append, show 8 + (bvs l).length - 8 = l.length by simp, bvs_drop, ← bvs_append, ← bvs_append, ← bvs_append, List.drop_replicate]
  unfold blkData
  rw [List.append_assoc, List.append_assoc, show ([0, 0, 0, 0] : List UInt8) = List.replicate 4 0 from rfl, List.replicate_append_replicate, show 244 - l.length + 4 = 248 - l.length by omega]
theorem blkSector_splice (n kind : Nat) (l : List UInt8) (m1 : l.length ≤ 240) :
    splice (bvs (blkData n kind l) ++ bvs [0, 0, 0, 0]) 252 (bvs (le4 (crc (blkData n kind l)))) = bvs (blkSector n kind l) := by
  have e := length_blkData n kind l (by omega)
  generalize hs : crc (blkData n kind l) = s
  unfold splice blkSector
  rw [hs]
  generalize blkData n kind l = d at *
  rw [List.take_append_of_le_length (by simp [e]), List.take_of_length_le (by simp [e]), List.drop_eq_nil_of_le (by simp [e]), List.append_nil, bvs_append]
theorem blkData_bs {w : World} {g n kind : Nat} {l : List UInt8} (h : Blk w g 97 (bvs (blkData n kind l) ++ bvs [0, 0, 0, 0])) (m1 : l.length ≤ 240) : Bs w 0 (some ⟨g, 0, none⟩) 252 256 (blkData n kind l) := by
  rw [← bvs_append] at h
  have h2 := h.bs 0 0 252 256 (Nat.zero_le _) (by omega) (by omega) (by simp [length_blkData n kind l (by omega)])
  rwa [List.drop_zero, List.take_append_of_le_length (by rw [length_blkData n kind l (by omega)]; omega), List.take_of_length_le (by rw [length_blkData n kind l (by omega)]; omega)] at h2
theorem fit252 (n kind : Nat) (l : List UInt8) (m1 : l.length ≤ 240) : 252 + (bvs (le4 (crc (blkData n kind l)))).length ≤ (bvs (blkData n kind l) ++ bvs [0, 0, 0, 0]).length := by
  simp [length_blkData n kind l (by omega)]

set_option maxRecDepth 100000 in
set_option maxHeartbeats 1000000 in
theorem put_ok (n kind : Nat) {A : Option Addr} {m c : Nat} {l : List UInt8} {lo : Nat} {w : World}
    (hb : Bs w lo A m c l) (m1 : m ≤ 240) (hn : n ≤ 65535) (hk : 1 ≤ kind) (hk2 : kind ≤ 4) :
    Calls Try.prog 27 #[.int .i64 n, .agg #[.int .i64 kind, .slice A m c]] w fun e w' =>
      e = .returned (.tuple #[.slice (some ⟨w.heap.size + 1, 0, none⟩) 256 256, .int .i64 0]) ∧ Blk w' (w.heap.size + 1) 97 (bvs (blkSector n kind l)) ∧ Below w.heap.size w w' := by
  obtain ⟨rfl, _, _, h1⟩ := hb
  have hz := zero44
  go_enter Try.func27, Try.ntmps27
  go_wp2
  go_region_held3 (fun w' => w'.cell? ⟨w.heap.size, 0, none⟩ = some (.int .i64 kind) ∧ w'.cell? ⟨w.heap.size, 1, none⟩ = some (.slice A l.length c)) (first | go_keep | (exact ⟨g1.cell (by go_simp) (by simp), g1.cell (by go_simp) (by simp)⟩))
    (first | (refine step_copy rfl (.tmp 29) (.tmp 42) 31 31 rfl 5 Try.underlying31 size5 _ _ 256 256 4 4 rfl rfl (w.heap.size + 1) 0 (zeros 256) 97 (((Blk.new_at (by simp)).alloc _).drew) (bvs (blk4 n kind l)) rfl (fun _ => rfl) 0 (bvs (blk4 n kind l)) (blk4_rd (by simp)) rfl (blk4_fit n kind l) (bvs_oneCell _) ?_; intro w1 H1 g1))
  have c1 : w1.cell? ⟨w.heap.size, 1, none⟩ = some (.slice A l.length c) := g1.cell (by go_simp) (by simp)
  have b1 : Below w.heap.size w w1 := (((((Below.refl _ _).alloc (Nat.le_refl _) _).alloc (by simp) _).alloc (by simp; omega) _).drew).grown g1 (by simp; omega) (by intro k hk; simp at hk; omega)
  have r1 := h1.below b1 (Nat.le_refl _)
  have z1 : w.heap.size + 1 < w1.heap.size := H1.out.lt
  clear g1 h1
  go_wp2
  go_region_held3 (fun w' => w'.cell? ⟨w.heap.size, 1, none⟩ = some (.slice A l.length c)) (first | go_keep | (exact g2.cell (by go_simp) (by simp)))
    (first | (refine step_copy rfl (.tmp 44) (.tmp 46) 31 31 rfl 5 Try.underlying31 size5 _ _ 248 248 l.length c rfl rfl (w.heap.size + 1) 8 _ 97 H1.out.drew (bvs l) (by simp; omega) (fun _ => rfl) lo (bvs l) r1 (by rw [List.take_length]) (fit8 n kind l m1) (bvs_oneCell _) ?_; intro w2 H2 g2))
  have b2 : Below w.heap.size w w2 := (b1.drew).grown g2 (by simp; omega) (by intro k hk; simp at hk; omega)
  have H3 : Hid (Blk w2 (w.heap.size + 1) 97 (bvs (blkData n kind l) ++ bvs [0, 0, 0, 0])) := (blkData_splice n kind l m1) ▸ H2
  clear g2 H2 H1 c1 b1 r1 z1
  go_wp2
  have s1 : Bs w2.drew 0 (some ⟨w.heap.size + 1, 0, none⟩) 252 256 (blkData n kind l) := blkData_bs (H3.out.drew) m1
  go_region_held3 (fun w' => True) (first | trivial)
    (first | (go_at_call 53; refine (sum_any s1).mono ?_; rintro e w3 ⟨rfl, rfl⟩) | (refine step_copy rfl (.tmp 48) (.tmp 50) 31 31 rfl 5 Try.underlying31 size5 _ _ 4 4 4 4 rfl rfl (w.heap.size + 1) 252 _ 97 (H3.out.drew.alloc _) (bvs (le4 (crc (blkData n kind l)))) rfl (fun _ => rfl) 0 _ ((Blk.new _ _ _).rd0 (Nat.zero_le _)) rfl (fit252 n kind l m1) (bvs_oneCell _) ?_; intro w4 H4 g4))
  have b4 : Below w.heap.size w w4 := ((b2.alloc b2.size _).drew).grown g4 (by simp; have := b2.size; omega) (by intro k hk; simp at hk; omega)
  have H5 : Hid (Blk w4 (w.heap.size + 1) 97 (bvs (blkSector n kind l))) := (blkSector_splice n kind l m1) ▸ H4
  clear g4 H3 s1 b2 H4
  go_wp2
  go_ret2
  exact ⟨rfl, H5.out, b4⟩

set_option maxHeartbeats 1000000 in
theorem put_no (n kind : Int) {A : Option Addr} {m c : Nat} {w : World}
    (h : n < 0 ∨ 65535 < n ∨ kind < 1 ∨ 4 < kind ∨ 240 < m) :
    Calls Try.prog 27 #[.int .i64 n, .agg #[.int .i64 kind, .slice A m c]] w fun e w' =>
      e = .returned (.tuple #[.slice none 0 0, .int .i64 1]) ∧ Below w.heap.size w w' := by
  by_cases h1 : n < 0
  · go_enter Try.func27, Try.ntmps27
    go_wp2
    go_ret2
    exact ⟨rfl, (Below.refl _ _).alloc (Nat.le_refl _) _⟩
  · by_cases h2 : 65535 < n
    · go_enter Try.func27, Try.ntmps27
      go_wp2
      go_ret2
      exact ⟨rfl, (Below.refl _ _).alloc (Nat.le_refl _) _⟩
    · by_cases h3 : kind < 1
      · go_enter Try.func27, Try.ntmps27
        go_wp2
        go_ret2
        exact ⟨rfl, (Below.refl _ _).alloc (Nat.le_refl _) _⟩
      · by_cases h4 : 4 < kind
        · go_enter Try.func27, Try.ntmps27
          go_wp2
          go_ret2
          exact ⟨rfl, (Below.refl _ _).alloc (Nat.le_refl _) _⟩
        · have h5 : 240 < m := by omega
          go_enter Try.func27, Try.ntmps27
          go_wp2
          go_ret2
          exact ⟨rfl, (Below.refl _ _).alloc (Nat.le_refl _) _⟩
end Go.Proofs.Ytjndopmjlbhajaa
