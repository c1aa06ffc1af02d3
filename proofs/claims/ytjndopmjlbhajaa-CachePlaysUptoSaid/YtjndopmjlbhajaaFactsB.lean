/- An argument opened: a block. No condition. -/
import Derived.Test.YtjndopmjlbhajaaFacts
namespace Go.Proofs.Ytjndopmjlbhajaa
open Go.ChangeShapes Go.WideShapes Go.ChangeAt Go.RowKit Go.Joins

theorem cells24 : Try.prog.cellsOf 33 = 2 := by kernel_rfl

section
variable {H : Type} {enc : TypeId × Value → H} {W : World}
set_option maxRecDepth 100000 in
theorem in_block {base : Nat} {v : Value} {d : DataW H} {p : List MemPlace} (hv : Value.okWide Try.prog W .any base 33 v) (h : DataW.Trod enc Try.prog W 0 (fun _ => true) true 33 v d p)
    (hw : (d.weights Try.prog 33).all (· ≤ reachBytes) = true) : ∃ kd A m c l, v = .agg #[.int .i64 kd, .slice A m c] ∧ Bs W 0 A m c l ∧ c ≤ 140737488351232 := by
  obtain ⟨c0, c1, y0, y1, n, rfl, rfl, rfl, hy0, hy1⟩ := open_agg2 Try.underlying33 (by kernel_rfl) cells24 hv h
  obtain ⟨kd, e0, rfl, wa⟩ := DataW.trod_int Try.underlying3 hy0
  obtain ⟨A, m, c, l, hcs, hb, hc⟩ := open_bytes Try.underlying31 Try.underlying5 cells5 bytes5 hy1
  simp at e0 hcs
  subst e0 hcs
  refine ⟨kd, A, m, c, l, rfl, hb, hc ?_⟩
  simp only [DataW.weights, Try.underlying33, DataW.weightsEach, List.map, List.nil_append, List.append_nil] at hw
  exact hw
end
end Go.Proofs.Ytjndopmjlbhajaa
