/- An argument opened: entries. No condition. -/
import Derived.Test.YtdakohbfibcjeaaFactsE
import Derived.Test.YtdakohbfibcjeaaR15
import Derived.ChangeSame
import Derived.ChangeArms
namespace Go.Proofs.Ytdakohbfibcjeaa
open Go.ChangeShapes Go.WideShapes Go.ChangeAt Go.RowKit Go.Joins Go.Deep

theorem cellsEt : Try.prog.cellsOf 27 = 2 := by kernel_rfl
theorem bytesEt : Try.prog.bytesOf 27 = 32 := by kernel_rfl
theorem cells9e : Try.prog.cellsOf 9 = 1 := by kernel_rfl
section
variable {H : Type} {enc : TypeId × Value → H} {W : World}
set_option maxRecDepth 100000 in
theorem in_ents {base : Nat} {v : Value} {d : DataW H} {p : List MemPlace} (hv : Value.okWide Try.prog W .any base 22 v) (h : DataW.Trod enc Try.prog W 0 (fun _ => true) true 22 v d p) : ∃ A n c es, v = .slice A n c ∧ EsR W A n c es := by
  obtain ⟨A, n, c, rfl⟩ := okWide_slice Try.underlying22 hv
  obtain ⟨fuel, hf⟩ := h
  obtain ⟨A', n', c', xs, D, hcs, h1, h2, h3, h4, h5⟩ := open_each Try.underlying22 cellsEt (by omega) bytesEt hf
  simp [Value.cells] at hcs
  obtain ⟨rfl, rfl, rfl⟩ := hcs
  have each : ∀ i, i < n → ∃ y : Ent, xs i = [.string y.1, .string y.2] := fun i hi => by
    obtain ⟨hl, f, Pl, ht⟩ := h4 i hi
    obtain ⟨y0, y1, k, hx, _, g0, g1⟩ := trod_struct2 Try.underlying27 ht
    match hxs : xs i, hl with
    | [v0, v1], _ =>
      rw [hxs] at g0 g1
      simp [cells9e] at g0 g1
      obtain ⟨s0, q0, _, _⟩ := DataW.trod_string Try.underlying9 g0
      obtain ⟨s1, q1, _, _⟩ := DataW.trod_string Try.underlying9 g1
      simp at q0 q1
      subst q0 q1
      exact ⟨(s0, s1), rfl⟩
  obtain ⟨f, hf⟩ := choose_lt each
  have e : ∀ l : List Nat, (∀ i ∈ l, i < n) → l.flatMap xs = entC (l.map f) := fun l => by
    induction l with
    | nil => intro _; rfl
    | cons i l ih => intro h; rw [List.flatMap_cons, ih (fun j hj => h j (by simp [hj])), hf i (h i (by simp))]; rfl
  refine ⟨A, n, c, (List.range n).map f, rfl, ?_, by simp, h1, by omega⟩
  rw [← e _ (fun i hi => List.mem_range.1 hi)]
  exact h3
end
end Go.Proofs.Ytdakohbfibcjeaa
