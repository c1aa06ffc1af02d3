/- An argument opened: the deeds of layer 11. No condition. -/
import Derived.Test.YtjndopmjlbhajaaFactsE
import Derived.Test.YtjndopmjlbhajaaDkPower
namespace Go.Proofs.Ytjndopmjlbhajaa
open Go.ChangeShapes Go.WideShapes Go.ChangeAt Go.RowKit Go.Joins Go.Deep

structure Dj where
  K : Int
  dA : Option Addr
  dm : Nat
  dc : Nat
  data : List UInt8
  N : Int
  pA : Option Addr
  pn : Nat
  pc : Nat
  ps : List Int
instance : Inhabited Dj := ⟨⟨0, none, 0, 0, [], 0, none, 0, 0, []⟩⟩
def djc (x : Dj) : List Value := [.int .i64 x.K, .slice x.dA x.dm x.dc, .int .i64 x.N, .slice x.pA x.pn x.pc]
structure DjOk (w : World) (x : Dj) : Prop where
  k : -9223372036854775808 ≤ x.K ∧ x.K ≤ 9223372036854775807
  n : -9223372036854775808 ≤ x.N ∧ x.N ≤ 9223372036854775807
  d : Bs w 0 x.dA x.dm x.dc x.data
  dz : x.dc ≤ 140737488351232
  p : Rd w 0 x.pA (iz x.ps)
  pl : x.ps.length = x.pn
  pz : x.pn ≤ x.pc ∧ x.pc ≤ 17592186044416
/-- deeds that lie in memory -/
structure Djs (w : World) (A : Option Addr) (n : Nat) (f : Nat → Dj) : Prop where
  rd : Rd w 0 A ((List.range n).flatMap fun i => djc (f i))
  ok : ∀ i, i < n → DjOk w (f i)

theorem cells3j : Try.prog.cellsOf 3 = 1 := by kernel_rfl
theorem cells30j : Try.prog.cellsOf 35 = 1 := by kernel_rfl
theorem bytes3j : Try.prog.bytesOf 3 = 8 := by kernel_rfl
section
variable {H : Type} {enc : TypeId × Value → H} {W : World}
set_option maxRecDepth 100000 in
theorem open_iz {base fuel : Nat} {cs : List Value} {x : DataW H × List MemPlace} (h : DataW.trod enc Try.prog W base (fun _ => true) true fuel 35 cs = some x) :
    ∃ A n c ps, cs = [.slice A n c] ∧ Rd W 0 A (iz ps) ∧ ps.length = n ∧ n ≤ c ∧ ((x.1.weights Try.prog 35).all (· ≤ reachBytes) = true → c ≤ 17592186044416) := by
  obtain ⟨A, n, c, xs, D, hcs, h1, h2, h3, h4, h5⟩ := open_each Try.underlying35 cells3j (by omega) bytes3j h
  have each : ∀ i, i < n → ∃ y : Int, xs i = [.int .i64 y] := fun i hi => by
    obtain ⟨_, f, Pl, ht⟩ := h4 i hi
    obtain ⟨y, q, _, _⟩ := DataW.trod_int Try.underlying3 ht
    exact ⟨y, q⟩
  obtain ⟨y, hy⟩ := choose_lt each
  refine ⟨A, n, c, (List.range n).map y, hcs, ?_, by simp, h1, fun hw => by have := (h5 hw).1; unfold reachBytes at this; omega⟩
  have : (List.range n).flatMap xs = iz ((List.range n).map y) := by
    have : ∀ l : List Nat, (∀ i ∈ l, i < n) → l.flatMap xs = iz (l.map y) := fun l => by
      induction l with
      | nil => intro _; rfl
      | cons i l ih => intro h; rw [List.flatMap_cons, List.map_cons, ih (fun j hj => h j (by simp [hj])), hy i (h i (by simp))]; rfl
    exact this _ (fun i hi => List.mem_range.1 hi)
  rw [← this]
  exact h3
end
end Go.Proofs.Ytjndopmjlbhajaa
