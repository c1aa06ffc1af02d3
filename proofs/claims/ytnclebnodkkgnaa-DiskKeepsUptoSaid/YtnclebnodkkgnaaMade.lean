/- make([]byte, n); one of n. No condition. -/
import Derived.Test.YtnclebnodkkgnaaLib
import Derived.Laws.OwnMore
import Derived.Deep.OwnRows
namespace Go.Proofs.Ytnclebnodkkgnaa
open Go.RowKit

theorem made_bvs (n : Nat) : madeCells #[Value.int .u8 0] n = (bvs (List.replicate n 0)).toArray := by
  apply Array.toList_inj.1
  rw [toList_madeCells_one]
  simp only [bvs, List.map_replicate]
  rfl
theorem make_by (n : Nat) (hn : n ≤ 281474976710656) (w : World) : (Instr.makeSlice 33 (.int .i64 (n : Int)) (.int .i64 (n : Int))).run Try.prog w = .ok (.slice (some ⟨w.heap.size, 0, none⟩) n n) (w.alloc (.cells (bvs (List.replicate n 0)).toArray 5)) := by
  rw [← made_bvs]
  exact run_make_row' 33 5 (.int .u8 0) 1 Try.underlying33 info5 rfl .i64 .i64 n (by omega) (by omega) w

def pickN (c : Int) (n : Nat) : Nat := if c < 0 then (-(c + 1)).toNat % n else c.toNat % n
theorem pickN_lt (c : Int) {n : Nat} (h : 0 < n) : pickN c n < n := by unfold pickN; split <;> exact Nat.mod_lt _ h
def z256 : List UInt8 := List.replicate 256 0
theorem z256_len : z256.length = 256 := List.length_replicate
theorem make_256 (w : World) : (Instr.makeSlice 33 (.int .i64 256) (.int .i64 256)).run Try.prog w = .ok (.slice (some ⟨w.heap.size, 0, none⟩) 256 256) (w.alloc (.cells (bvs z256).toArray 5)) := make_by 256 (by omega) w
end Go.Proofs.Ytnclebnodkkgnaa
