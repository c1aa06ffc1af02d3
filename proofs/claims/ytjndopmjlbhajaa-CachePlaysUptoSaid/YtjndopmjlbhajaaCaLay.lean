/- What slices.DeleteFunc and maps.Keys are at this program, for the laid contracts. No condition. -/
import Derived.Shelf.SlicesE.DeleteFunc
import Derived.Test.YtjndopmjlbhajaaKeysLay
namespace Go.Proofs.Ytjndopmjlbhajaa
open Go.Proofs
def keysB_ren : Go.Shelf.Ren := ⟨fun | 7 => 40 | 10 => 65 | n => n, fun | 23 => 66 | 26 => 3 | 3 => 71 | 28 => 82 | 0 => 0 | 27 => 81 | 33 => 69 | 4 => 4 | n => n, fun | n => n⟩
theorem keysB : Go.Proofs.SlLaysZI.n7 Try.prog keysB_ren where
  mixed := by kernel_rfl
  f7 := ⟨Try.f40.name, by decide, Try.func40.trans (congrArg some (by kernel_rfl))⟩
  f10 := ⟨Try.f65.name, by decide, Try.func65.trans (congrArg some (by kernel_rfl))⟩
  t0 := Try.underlying0
  a0 := Try.isAgg0
  z0 := Try.sizeOf0
  v0 := Try.zeroValue0
  t4 := Try.underlying4
  a4 := Try.isAgg4
  z4 := Try.sizeOf4
  v4 := Try.zeroValue4
  t23 := Try.underlying66
  a23 := Try.isAgg66
  z23 := Try.sizeOf66
  v23 := Try.zeroValue66
  t26 := Try.underlying3
  a26 := Try.isAgg3
  z26 := Try.sizeOf3
  v26 := Try.zeroValue3
  t27 := Try.underlying81
  a27 := Try.isAgg81
  z27 := Try.sizeOf81
  v27 := Try.zeroValue81
  t28 := Try.underlying82
  a28 := Try.isAgg82
  z28 := Try.sizeOf82
  v28 := Try.zeroValue82
  t33 := Try.underlying69
  a33 := Try.isAgg69
  z33 := Try.sizeOf69
  v33 := Try.zeroValue69
def delF_ren : Go.Shelf.Ren := ⟨fun | 10 => 35 | 6 => 60 | n => n, fun | 22 => 35 | 23 => 3 | 25 => 69 | 3 => 3 | 4 => 4 | 0 => 0 | n => n, fun | n => n⟩
theorem delF : Go.Proofs.SlLaysH.n10 Try.prog delF_ren where
  mixed := by kernel_rfl
  f6 := ⟨Try.f60.name, by decide, Try.func60.trans (congrArg some (by kernel_rfl))⟩
  f10 := ⟨Try.f35.name, by decide, Try.func35.trans (congrArg some (by kernel_rfl))⟩
  t0 := Try.underlying0
  a0 := Try.isAgg0
  z0 := Try.sizeOf0
  v0 := Try.zeroValue0
  t3 := Try.underlying3
  a3 := Try.isAgg3
  z3 := Try.sizeOf3
  v3 := Try.zeroValue3
  t4 := Try.underlying4
  a4 := Try.isAgg4
  z4 := Try.sizeOf4
  v4 := Try.zeroValue4
  t22 := Try.underlying35
  a22 := Try.isAgg35
  z22 := Try.sizeOf35
  v22 := Try.zeroValue35
  a23 := Try.isAgg3
  z23 := Try.sizeOf3
  t25 := Try.underlying69
  a25 := Try.isAgg69
  z25 := Try.sizeOf69
  v25 := Try.zeroValue69
end Go.Proofs.Ytjndopmjlbhajaa
