/- Blocks of other types lie outside both disks. No condition. -/
import Derived.Test.YtdbhagnnpjcpmaaRfWrites
import Derived.Test.YtdbhagnnpjcpmaaDkDeeds
namespace Go.Proofs.Ytdbhagnnpjcpmaa
open Go.RowKit Go.Maps
set_option linter.unusedVariables false

/-- a block of another type lies outside the document's disk -/
theorem Rk.offB {w : World} {base g : Nat} {r : Rw} {s : Dsk} {t : TypeId} {cs : List Value} (h : Rk w base r s) (hg : Blk w g t cs) (h1 : t ≠ 89) (h2 : t ≠ 92) (h3 : t ≠ 39) : ¬ r.foot s.n g := by
  rintro (x | x | ⟨k, hk, x⟩)
  · subst x
    have e := h.blk
    unfold Blk at e hg
    rw [e] at hg
    simp only [Option.some.injEq, Obj.cells.injEq] at hg
    exact h1 hg.2.1.symm
  · exact blk_own_ne hg h.row h2 x
  · exact blk_own_ne hg (h.vers k hk).1 h3 x
theorem Dk.offB {w : World} {base g : Nat} {d : Dw} {s : Dsk} {t : TypeId} {cs : List Value} (h : Dk w base d s) (hg : Blk w g t cs) (h1 : t ≠ 86) (h2 : t ≠ 100) : ¬ d.foot g := by
  rintro (x | x | x | ⟨k, x⟩)
  · subst x
    have e := h.blk
    unfold Blk at e hg
    rw [e] at hg
    simp only [Option.some.injEq, Obj.cells.injEq] at hg
    exact h1 hg.2.1.symm
  · subst x
    obtain ⟨cs', e⟩ := h.lty
    unfold Blk at hg
    rw [e] at hg
    simp only [Option.some.injEq, Obj.cells.injEq] at hg
    exact h2 hg.2.1.symm
  · subst x
    obtain ⟨D, ⟨es, clock, e, _⟩, _⟩ := h.map
    unfold Blk at hg
    rw [e] at hg
    simp at hg
  · by_cases hj : k < s.n
    · exact blk_own_ne hg (h.vers k hj) h2 x
    · rw [h.out k (by omega)] at x; cases x
end Go.Proofs.Ytdbhagnnpjcpmaa
namespace Go.Proofs.Ytdbhagnnpjcpmaa
open Go.RowKit Go.Maps
set_option linter.unusedVariables false

section
variable {s t : Dsk} {c : Nat}
theorem Rel.up {c' : Nat} (h : Rel s t c) (hc : c ≤ c') : Rel s t c' := by
  obtain ⟨k, rfl⟩ := Nat.le.dest hc
  clear hc
  induction k with
  | zero => exact h
  | succ k ih => exact ih.idle
def wrIf (s : Dsk) (N : Int) (x : List UInt8) : Dsk := if 0 ≤ N ∧ N < (s.n : Int) then writeD s N.toNat x else s
def rwrIf (s : Dsk) (N : Int) (x : List UInt8) : Dsk := if 0 ≤ N ∧ N < (s.n : Int) then rwriteD s N.toNat x else s
theorem Rel.wrIf_ (h : Rel s t c) (hc : c ≤ 1099511627776) (N : Int) (x : List UInt8) : Rel (wrIf s N x) (rwrIf t N x) (c + 1) := by
  unfold wrIf rwrIf
  rw [h.n_]
  split
  · exact h.write hc _ _
  · exact h.idle
theorem wrIf_n (s : Dsk) (N : Int) (x : List UInt8) : (wrIf s N x).n = s.n := by
  unfold wrIf
  split
  · exact writeD_n s _ x
  · rfl
end
section
variable {w : World} {base : Nat} {d : Dw} {r : Rw} {s : Dsk} {lo g cp : Nat} {x : List UInt8}
theorem dwr_any (h : Dk w base d s) (hv : ∀ k, k < s.n → (s.vers k).length < 549755813887) (N : Int) (hx : Bs w lo (some ⟨g, 0, none⟩) 256 cp x) (hf : ¬ d.foot g) :
    Calls Try.prog 16 #[.pointer (some ⟨d.g, 0, none⟩), .int .i64 N, .slice (some ⟨g, 0, none⟩) 256 cp] w fun e w' => ∃ z d', e = .returned (.int .i64 z) ∧ Ch w w' base d d' (wrIf s N x) := by
  unfold wrIf
  by_cases hin : 0 ≤ N ∧ N < (s.n : Int)
  · obtain ⟨k, rfl⟩ : ∃ k : Nat, N = (k : Int) := ⟨N.toNat, by omega⟩
    rw [if_pos hin]
    refine (dwrite_ok h (k := k) (by omega) (hv k (by omega)) hx hf).mono fun e w' ⟨h1, h2⟩ => ?_
    obtain ⟨d', hc⟩ := Ch.of h2
    exact ⟨_, d', h1, hc⟩
  · rw [if_neg hin]
    exact (dwrite_far h (by omega) _).mono fun e w' ⟨a, b⟩ => ⟨_, d, a, by rw [b]; exact Ch.init h⟩
theorem rwr_any (h : Rk w base r s) (hv : ∀ k, k < s.n → (s.vers k).length < 549755813887) (N : Int) {A : Option Addr} (hx : Bs w lo A 256 cp x) (hf : ∀ b, ablk A = some b → ¬ r.foot s.n b) :
    Calls Try.prog 17 #[.pointer (some ⟨r.g, 0, none⟩), .int .i64 N, .slice A 256 cp] w fun e w' => ∃ z r', e = .returned (.int .i64 z) ∧ Rch w w' base r r' s.n (rwrIf s N x) := by
  unfold rwrIf
  by_cases hin : 0 ≤ N ∧ N < (s.n : Int)
  · obtain ⟨k, rfl⟩ : ∃ k : Nat, N = (k : Int) := ⟨N.toNat, by omega⟩
    rw [if_pos hin]
    exact (rwrite_ok h (k := k) (by omega) (by have := hv k (by omega); omega) hx hf).mono fun e w' ⟨h1, r', h2⟩ => ⟨_, r', h1, h2⟩
  · rw [if_neg hin]
    exact (rwrite_far h (by omega) _).mono fun e w' ⟨a, b⟩ => ⟨_, r, a, by rw [b]; exact Rch.init h⟩
end
/-- a deed of the disks, for its number alone -/
def d8of (k N : Int) : D8 := ⟨k, N, 0, 0, false, none, 0, 0, []⟩
theorem sdo_rot (s : Dsk) (N : Int) : sdo s (d8of 3 N) = sdoK s (d8of 3 N) 3 := rfl
theorem tdo_rot (s : Dsk) (N : Int) : tdo s (d8of 3 N) = tdoK s (d8of 3 N) 3 := rfl
end Go.Proofs.Ytdbhagnnpjcpmaa
