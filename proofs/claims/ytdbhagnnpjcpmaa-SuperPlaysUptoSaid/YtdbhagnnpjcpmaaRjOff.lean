/- Blocks of other types lie outside both disks. No condition. -/
import Derived.Test.YtdbhagnnpjcpmaaRfWrites
namespace Go.Proofs.Ytdbhagnnpjcpmaa
open Go.RowKit Go.Maps
set_option linter.unusedVariables false

/-- a block of another type lies outside the document's disk -/
theorem Rk.offB {w : World} {base g : Nat} {r : Rw} {s : Dsk} {t : TypeId} {cs : List Value} (h : Rk w base r s) (hg : Blk w g t cs) (h1 : t ≠ 89) (h2 : t ≠ 92) (h3 : t ≠ 39) : ¬ r.foot s.n g := by
  rintro (x | x | ⟨k, hk, x⟩)
  · subst x
    have e := h.blk
    unfold Blk at e hg
    rw [e] at hg
    simp only [Option.some.injEq, Obj.cells.injEq] at hg
    exact h1 hg.2.1.symm
  · exact blk_own_ne hg h.row h2 x
  · exact blk_own_ne hg (h.vers k hk).1 h3 x
theorem Dk.offB {w : World} {base g : Nat} {d : Dw} {s : Dsk} {t : TypeId} {cs : List Value} (h : Dk w base d s) (hg : Blk w g t cs) (h1 : t ≠ 86) (h2 : t ≠ 100) : ¬ d.foot g := by
  rintro (x | x | x | ⟨k, x⟩)
  · subst x
    have e := h.blk
    unfold Blk at e hg
    rw [e] at hg
    simp only [Option.some.injEq, Obj.cells.injEq] at hg
    exact h1 hg.2.1.symm
  · subst x
    obtain ⟨cs', e⟩ := h.lty
    unfold Blk at hg
    rw [e] at hg
    simp only [Option.some.injEq, Obj.cells.injEq] at hg
    exact h2 hg.2.1.symm
  · subst x
    obtain ⟨D, ⟨es, clock, e, _⟩, _⟩ := h.map
    unfold Blk at hg
    rw [e] at hg
    simp at hg
  · by_cases hj : k < s.n
    · exact blk_own_ne hg (h.vers k hj) h2 x
    · rw [h.out k (by omega)] at x; cases x
end Go.Proofs.Ytdbhagnnpjcpmaa
