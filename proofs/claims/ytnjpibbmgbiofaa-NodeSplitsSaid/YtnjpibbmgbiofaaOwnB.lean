/- A growable list beside a block of another element type. No condition. -/
import Derived.Test.YtnjpibbmgbiofaaOwn
namespace Go.Proofs.Ytnjpibbmgbiofaa
open Go.RowKit
section
variable {w : World} {base n c s g : Nat} {e t : TypeId} {A : Option Addr} {xs cs : List Value}
theorem own_ne_ty (ho : Own w base e s A n c xs) (hB : Blk w g t cs) (ht : t ≠ e) : some g ≠ ablk A := fun h => by
  rcases ho.cases with ⟨rfl, _⟩ | ⟨g', cur, rfl, _, hh, _⟩
  · cases h
  · simp only [ablk, Option.map_some, Option.some.injEq] at h
    subst h
    unfold Blk at hB
    rw [hB] at hh
    simp only [Option.some.injEq, Obj.cells.injEq] at hh
    exact ht hh.2.1
theorem Own.far_ (ho : Own w base e s A n c xs) {p : Addr} (hp : some p.block ≠ ablk A) (u : Value) : Own (w.setCell p u) base e s A n c xs := by
  refine ⟨ho.len, ?_⟩
  rcases ho.cases with ⟨rfl, rfl, rfl, rfl⟩ | ⟨g', cur, rfl, hb, hh, h1, h2, h3, h4⟩
  · exact .inl ⟨rfl, rfl⟩
  · refine .inr ⟨g', c, cur, rfl, hb, ?_, h1, h2, h3, h4⟩
    rw [Below.heap_setCell w p u g' (fun h => hp (by simp [ablk, h]))]
    exact hh
end
end Go.Proofs.Ytnjpibbmgbiofaa
