/- An argument opened: a deed of a disk. No condition. -/
import Derived.Test.YtnclebnodkkgnaaFactsD
namespace Go.Proofs.Ytnclebnodkkgnaa
open Go.ChangeShapes Go.WideShapes Go.ChangeAt Go.RowKit Go.Joins Go.Deep

theorem array6 {α : Type} {cs : Array α} (h : cs.size = 6) : ∃ c0 c1 c2 c3 c4 c5, cs = #[c0, c1, c2, c3, c4, c5] := by
  obtain ⟨l⟩ := cs
  match l, h with
  | [c0, c1, c2, c3, c4, c5], _ => exact ⟨c0, c1, c2, c3, c4, c5, rfl⟩
section
variable {H : Type} {enc : TypeId × Value → H} {W : World}
set_option maxRecDepth 100000 in
theorem in_d8 {base : Nat} {v : Value} {d : DataW H} {p : List MemPlace} (hv : Value.okWide Try.prog W .any base 48 v) (h : DataW.Trod enc Try.prog W 0 (fun _ => true) true 48 v d p)
    (hw : (d.weights Try.prog 48).all (· ≤ reachBytes) = true) : ∃ y : D8, v = .agg (d8c y).toArray ∧ D8Ok W y := by
  obtain ⟨cs, rfl, hsz⟩ := okWide_struct Try.underlying48 hv
  obtain ⟨fuel, hf⟩ := h
  obtain ⟨v0, v1, v2, v3, v4, v5, rfl⟩ := array6 (hsz.trans cellsD8)
  obtain ⟨y0, y1, y2, y3, y4, y5, k, hx, g0, g1, g2, g3, g4, g5⟩ := trod_struct6 Try.underlying48 hf
  simp [Value.cells, cells3j, cells5j, cells4j, cells30j] at g0 g1 g2 g3 g4 g5
  have hD : d = .agg [y0.1, y1.1, y2.1, y3.1, y4.1, y5.1] := hx
  rw [hD] at hw
  simp only [DataW.weights, Try.underlying48, DataW.weightsEach, List.map, List.append_nil, List.all_append, Bool.and_eq_true] at hw
  obtain ⟨_, _, _, _, _, w5⟩ := hw
  obtain ⟨x0, q0, _, z0⟩ := DataW.trod_int Try.underlying3 g0
  obtain ⟨x1, q1, _, z1⟩ := DataW.trod_int Try.underlying3 g1
  obtain ⟨x2, q2, _, z2⟩ := DataW.trod_int Try.underlying5 g2
  obtain ⟨x3, q3, _, z3⟩ := DataW.trod_int Try.underlying5 g3
  obtain ⟨x4, q4, _⟩ := DataW.trod_bool Try.underlying4 g4
  obtain ⟨pA, pn, pc, pl, q5, pr, pe, pc1, pz⟩ := open_iz g5
  simp at q0 q1 q2 q3 q4 q5
  subst q0 q1 q2 q3 q4 q5
  obtain ⟨b2, rfl⟩ := u8_of (k := x2) (by have := bounds_u8 z2; omega)
  obtain ⟨b3, rfl⟩ := u8_of (k := x3) (by have := bounds_u8 z3; omega)
  exact ⟨⟨x0, x1, b2, b3, x4, pA, pn, pc, pl⟩, rfl, bounds_i64 z0, bounds_i64 z1, pr, pe, pc1, pz w5⟩
end
end Go.Proofs.Ytnclebnodkkgnaa
