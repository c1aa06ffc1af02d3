/- Bytes as cells: nulls, a check sum's four bytes. No condition. -/
import Derived.Test.YtjndopmjlbhajaaCrc
import Derived.Test.YtjndopmjlbhajaaPlainBD
import Derived.Test.YtjndopmjlbhajaaLib
import Derived.RegionTactic
import Derived.BigRegion
namespace Go.Proofs.Ytjndopmjlbhajaa
open Go.RowKit

theorem bv_of (x : Int) (n : Nat) (h : x = ((n % 256 : Nat) : Int)) : Value.int .u8 x = bv (UInt8.ofNat n) := by
  subst h; rfl

theorem le4_new {w : World} {g : Nat} (s : Nat) (hg : g = w.heap.size) : Bs (w.alloc (.cells (bvs (le4 s)).toArray 5)) 0 (some ⟨g, 0, none⟩) 4 4 (le4 s) :=
  (Blk.new_at hg).bs0 0 4 4 (Nat.zero_le _) (by omega) (by omega) rfl

def zeros (n : Nat) : List Value := List.replicate n (.int .u8 0)
theorem zeros_bvs (n : Nat) : zeros n = bvs (List.replicate n 0) := by simp [zeros, bvs, bv]
theorem bvs_drop (l : List UInt8) (n : Nat) : (bvs l).drop n = bvs (l.drop n) := by simp [bvs, List.map_drop]
theorem length_zeros (n : Nat) : (zeros n).length = n := by simp [zeros]
theorem wrap_u8_nat (n : Nat) : IntKind.u8.wrap (n : Int) = (n : Int) % 256 := by rw [IntKind.wrap_u8]
theorem bvs_snoc (l : List UInt8) (b : UInt8) : bvs l ++ [bv b] = bvs (l ++ [b]) := by simp [bvs]
end Go.Proofs.Ytjndopmjlbhajaa
