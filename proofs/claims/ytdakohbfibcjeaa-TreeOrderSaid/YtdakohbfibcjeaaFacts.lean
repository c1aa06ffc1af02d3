/- Closed facts of the program, and its arguments opened: a slice of bytes. No condition. -/
import Derived.Test.YtdakohbfibcjeaaRows
import Derived.Test.YtdakohbfibcjeaaFrame
namespace Go.Proofs.Ytdakohbfibcjeaa
open Go.ChangeShapes Go.WideShapes Go.ChangeAt Go.RowKit Go.Joins

theorem own : ownKnob Try.prog.godebug = none := by kernel_rfl
theorem laidOut : laidOutB Try.prog = true := by kernel_rfl
theorem cells5 : Try.prog.cellsOf 5 = 1 := by kernel_rfl
theorem bytes5 : Try.prog.bytesOf 5 = 1 := by kernel_rfl

section
variable {H : Type} {enc : TypeId × Value → H} {W : World}
set_option maxRecDepth 100000 in
theorem in_int {base : Nat} {v : Value} {d : DataW H} {p : List MemPlace} (hv : Value.okWide Try.prog W .any base 3 v) (h : DataW.Trod enc Try.prog W 0 (fun _ => true) true 3 v d p) :
    ∃ n : Int, v = .int .i64 n ∧ -9223372036854775808 ≤ n ∧ n ≤ 9223372036854775807 := by
  obtain ⟨a, rfl, rfl, rfl, wa⟩ := open_int Try.underlying3 hv h
  have := bounds_i64 wa
  exact ⟨a, rfl, by omega, by omega⟩
set_option maxRecDepth 100000 in
theorem in_u32 {base : Nat} {v : Value} {d : DataW H} {p : List MemPlace} (hv : Value.okWide Try.prog W .any base 165 v) (h : DataW.Trod enc Try.prog W 0 (fun _ => true) true 165 v d p) :
    ∃ n : Int, v = .int .u32 n ∧ 0 ≤ n ∧ n ≤ 4294967295 := by
  obtain ⟨a, rfl, rfl, rfl, wa⟩ := open_int Try.underlying165 hv h
  have := bounds_u32 wa
  exact ⟨a, rfl, by omega, by omega⟩
set_option maxRecDepth 100000 in
theorem in_bytes {base : Nat} {v : Value} {d : DataW H} {p : List MemPlace} (hv : Value.okWide Try.prog W .any base 82 v) (h : DataW.Trod enc Try.prog W 0 (fun _ => true) true 82 v d p)
    (hw : (d.weights Try.prog 82).all (· ≤ reachBytes) = true) : ∃ A m c l, v = .slice A m c ∧ Bs W 0 A m c l ∧ c ≤ 140737488351232 := by
  obtain ⟨A, m, c, rfl⟩ := okWide_slice Try.underlying82 hv
  obtain ⟨fuel, hf⟩ := h
  obtain ⟨A', m', c', l, hcs, hb, hc⟩ := open_bytes Try.underlying82 Try.underlying5 cells5 bytes5 hf
  simp [Value.cells] at hcs
  obtain ⟨rfl, rfl, rfl⟩ := hcs
  exact ⟨A, m, c, l, rfl, hb, hc hw⟩
end
end Go.Proofs.Ytdakohbfibcjeaa
