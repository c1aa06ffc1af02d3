/- An argument opened: a byte. No condition. -/
import Derived.Test.YtgfmpgflbphpcaaFacts
namespace Go.Proofs.Ytgfmpgflbphpcaa
open Go.ChangeShapes Go.WideShapes Go.ChangeAt Go.RowKit Go.Joins

section
variable {H : Type} {enc : TypeId × Value → H} {W : World}
theorem in_u8 {base : Nat} {v : Value} {d : DataW H} {p : List MemPlace} (hv : Value.okWide Try.prog W .any base 5 v) (h : DataW.Trod enc Try.prog W 0 (fun _ => true) true 5 v d p) :
    ∃ n : Int, v = .int .u8 n ∧ 0 ≤ n ∧ n ≤ 255 := by
  obtain ⟨a, rfl, rfl, rfl, wa⟩ := open_int Try.underlying5 hv h
  have := bounds_u8 wa
  exact ⟨a, rfl, by omega, by omega⟩
end
end Go.Proofs.Ytgfmpgflbphpcaa
