/- What slices.Insert and slices.Delete are at this program, for the laid contracts. No condition. -/
import Derived.Shelf.Spec.SlicesInsertGrow
import Derived.Shelf.Slices.Delete
import Derived.Test.YtdakohbfibcjeaaProg
namespace Go.Proofs.Ytdakohbfibcjeaa
open Go.Proofs
def ins_s_ren : Go.Shelf.Ren := ⟨fun | 22 => 18 | 29 => 31 | 30 => 32 | 36 => 50 | 17 => 74 | n => n, fun | 0 => 0 | 3 => 3 | 4 => 4 | 9 => 9 | 24 => 56 | n => n, fun | n => n⟩
theorem ins_s_lay : Go.Proofs.Lays2.n22 Try.prog ins_s_ren where
  mixed := by kernel_rfl
  f22 := Try.func18.trans (congrArg some (by kernel_rfl))
  f29 := Try.func31.trans (congrArg some (by kernel_rfl))
  f30 := Try.func32.trans (congrArg some (by kernel_rfl))
  f36 := Try.func50.trans (congrArg some (by kernel_rfl))
  f17 := Try.func74.trans (congrArg some (by kernel_rfl))
  t0 := Try.underlying0
  a0 := Try.isAgg0
  z0 := Try.sizeOf0
  v0 := Try.zeroValue0
  t3 := Try.underlying3
  a3 := Try.isAgg3
  z3 := Try.sizeOf3
  v3 := Try.zeroValue3
  t4 := Try.underlying4
  a4 := Try.isAgg4
  z4 := Try.sizeOf4
  v4 := Try.zeroValue4
  t9 := Try.underlying9
  a9 := Try.isAgg9
  z9 := Try.sizeOf9
  v9 := Try.zeroValue9
  t24 := Try.underlying56
  a24 := Try.isAgg56
  z24 := Try.sizeOf56
  v24 := Try.zeroValue56
  i9 := by kernel_rfl
def ins_i_ren : Go.Shelf.Ren := ⟨fun | 21 => 45 | 27 => 67 | 28 => 68 | 35 => 81 | 39 => 87 | n => n, fun | 0 => 0 | 3 => 3 | 4 => 4 | 22 => 57 | n => n, fun | n => n⟩
theorem ins_i_lay : Go.Proofs.Lays2.n21 Try.prog ins_i_ren where
  mixed := by kernel_rfl
  f21 := Try.func45.trans (congrArg some (by kernel_rfl))
  f27 := Try.func67.trans (congrArg some (by kernel_rfl))
  f28 := Try.func68.trans (congrArg some (by kernel_rfl))
  f35 := Try.func81.trans (congrArg some (by kernel_rfl))
  f39 := Try.func87.trans (congrArg some (by kernel_rfl))
  t0 := Try.underlying0
  a0 := Try.isAgg0
  z0 := Try.sizeOf0
  v0 := Try.zeroValue0
  t3 := Try.underlying3
  a3 := Try.isAgg3
  z3 := Try.sizeOf3
  v3 := Try.zeroValue3
  t4 := Try.underlying4
  a4 := Try.isAgg4
  z4 := Try.sizeOf4
  v4 := Try.zeroValue4
  t22 := Try.underlying57
  a22 := Try.isAgg57
  z22 := Try.sizeOf57
  v22 := Try.zeroValue57
  i3 := by kernel_rfl
def del_i_ren : Go.Shelf.Ren := ⟨fun | 23 => 44 | n => n, fun | 0 => 0 | 3 => 3 | 4 => 4 | 22 => 57 | n => n, fun | n => n⟩
theorem del_i_lay : Go.Proofs.Lays2.n23 Try.prog del_i_ren where
  mixed := by kernel_rfl
  f23 := Try.func44.trans (congrArg some (by kernel_rfl))
  t0 := Try.underlying0
  a0 := Try.isAgg0
  z0 := Try.sizeOf0
  v0 := Try.zeroValue0
  t3 := Try.underlying3
  a3 := Try.isAgg3
  z3 := Try.sizeOf3
  v3 := Try.zeroValue3
  t4 := Try.underlying4
  a4 := Try.isAgg4
  z4 := Try.sizeOf4
  v4 := Try.zeroValue4
  t22 := Try.underlying57
  a22 := Try.isAgg57
  z22 := Try.sizeOf57
  v22 := Try.zeroValue57
  i3 := by kernel_rfl
def del_s_ren : Go.Shelf.Ren := ⟨fun | 24 => 43 | n => n, fun | 0 => 0 | 3 => 3 | 4 => 4 | 9 => 9 | 24 => 56 | n => n, fun | n => n⟩
theorem del_s_lay : Go.Proofs.Lays2.n24 Try.prog del_s_ren where
  mixed := by kernel_rfl
  f24 := Try.func43.trans (congrArg some (by kernel_rfl))
  t0 := Try.underlying0
  a0 := Try.isAgg0
  z0 := Try.sizeOf0
  v0 := Try.zeroValue0
  t3 := Try.underlying3
  a3 := Try.isAgg3
  z3 := Try.sizeOf3
  v3 := Try.zeroValue3
  t4 := Try.underlying4
  a4 := Try.isAgg4
  z4 := Try.sizeOf4
  v4 := Try.zeroValue4
  t9 := Try.underlying9
  a9 := Try.isAgg9
  z9 := Try.sizeOf9
  v9 := Try.zeroValue9
  t24 := Try.underlying56
  a24 := Try.isAgg56
  z24 := Try.sizeOf56
  v24 := Try.zeroValue56
  i9 := by kernel_rfl
end Go.Proofs.Ytdakohbfibcjeaa
