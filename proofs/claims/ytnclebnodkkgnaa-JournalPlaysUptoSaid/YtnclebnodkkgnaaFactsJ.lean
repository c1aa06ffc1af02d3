/- An argument opened: the deeds of layer 11. No condition. -/
import Derived.Test.YtnclebnodkkgnaaFactsE
import Derived.Test.YtnclebnodkkgnaaDkPower
namespace Go.Proofs.Ytnclebnodkkgnaa
open Go.ChangeShapes Go.WideShapes Go.ChangeAt Go.RowKit Go.Joins Go.Deep

structure Dj where
  K : Int
  dA : Option Addr
  dm : Nat
  dc : Nat
  data : List UInt8
  N : Int
  pA : Option Addr
  pn : Nat
  pc : Nat
  ps : List Int
instance : Inhabited Dj := ⟨⟨0, none, 0, 0, [], 0, none, 0, 0, []⟩⟩
def djc (x : Dj) : List Value := [.int .i64 x.K, .slice x.dA x.dm x.dc, .int .i64 x.N, .slice x.pA x.pn x.pc]
structure DjOk (w : World) (x : Dj) : Prop where
  k : -9223372036854775808 ≤ x.K ∧ x.K ≤ 9223372036854775807
  n : -9223372036854775808 ≤ x.N ∧ x.N ≤ 9223372036854775807
  d : Bs w 0 x.dA x.dm x.dc x.data
  dz : x.dc ≤ 140737488351232
  p : Rd w 0 x.pA (iz x.ps)
  pl : x.ps.length = x.pn
  pz : x.pn ≤ x.pc ∧ x.pc ≤ 17592186044416
/-- deeds that lie in memory -/
structure Djs (w : World) (A : Option Addr) (n : Nat) (f : Nat → Dj) : Prop where
  rd : Rd w 0 A ((List.range n).flatMap fun i => djc (f i))
  ok : ∀ i, i < n → DjOk w (f i)

theorem cells79 : Try.prog.cellsOf 79 = 4 := by kernel_rfl
theorem bytes79 : Try.prog.bytesOf 79 = 64 := by kernel_rfl
theorem cells3j : Try.prog.cellsOf 3 = 1 := by kernel_rfl
theorem cells30j : Try.prog.cellsOf 30 = 1 := by kernel_rfl
theorem bytes3j : Try.prog.bytesOf 3 = 8 := by kernel_rfl
section
variable {H : Type} {enc : TypeId × Value → H} {W : World}
set_option maxRecDepth 100000 in
theorem open_iz {base fuel : Nat} {cs : List Value} {x : DataW H × List MemPlace} (h : DataW.trod enc Try.prog W base (fun _ => true) true fuel 30 cs = some x) :
    ∃ A n c ps, cs = [.slice A n c] ∧ Rd W 0 A (iz ps) ∧ ps.length = n ∧ n ≤ c ∧ ((x.1.weights Try.prog 30).all (· ≤ reachBytes) = true → c ≤ 17592186044416) := by
  obtain ⟨A, n, c, xs, D, hcs, h1, h2, h3, h4, h5⟩ := open_each Try.underlying30 cells3j (by omega) bytes3j h
  have each : ∀ i, i < n → ∃ y : Int, xs i = [.int .i64 y] := fun i hi => by
    obtain ⟨_, f, Pl, ht⟩ := h4 i hi
    obtain ⟨y, q, _, _⟩ := DataW.trod_int Try.underlying3 ht
    exact ⟨y, q⟩
  obtain ⟨y, hy⟩ := choose_lt each
  refine ⟨A, n, c, (List.range n).map y, hcs, ?_, by simp, h1, fun hw => by have := (h5 hw).1; unfold reachBytes at this; omega⟩
  have : (List.range n).flatMap xs = iz ((List.range n).map y) := by
    have : ∀ l : List Nat, (∀ i ∈ l, i < n) → l.flatMap xs = iz (l.map y) := fun l => by
      induction l with
      | nil => intro _; rfl
      | cons i l ih => intro h; rw [List.flatMap_cons, List.map_cons, ih (fun j hj => h j (by simp [hj])), hy i (h i (by simp))]; rfl
    exact this _ (fun i hi => List.mem_range.1 hi)
  rw [← this]
  exact h3
set_option maxRecDepth 100000 in
theorem in_djs {base : Nat} {v : Value} {d : DataW H} {p : List MemPlace} (hv : Value.okWide Try.prog W .any base 74 v) (h : DataW.Trod enc Try.prog W 0 (fun _ => true) true 74 v d p)
    (hw : (d.weights Try.prog 74).all (· ≤ reachBytes) = true) : ∃ A n c f, v = .slice A n c ∧ Djs W A n f ∧ n ≤ c ∧ c ≤ 2199023255552 := by
  obtain ⟨A, n, c, rfl⟩ := okWide_slice Try.underlying74 hv
  obtain ⟨fuel, hf⟩ := h
  obtain ⟨A', n', c', xs, D, hcs, h1, h2, h3, h4, h5⟩ := open_each Try.underlying74 cells79 (by omega) bytes79 hf
  simp [Value.cells] at hcs
  obtain ⟨rfl, rfl, rfl⟩ := hcs
  obtain ⟨h6, h7⟩ := h5 hw
  have each : ∀ i, i < n → ∃ y : Dj, xs i = djc y ∧ DjOk W y := fun i hi => by
    obtain ⟨hl, f, Pl, ht⟩ := h4 i hi
    have hwi := h7 i hi
    obtain ⟨y0, y1, y2, y3, k, hx, _, g0, g1, g2, g3⟩ := trod_struct4 Try.underlying79 ht
    match hxs : xs i, hl with
    | [v0, v1, v2, v3], _ =>
      rw [hxs] at g0 g1 g2 g3
      simp [cells3j, cells33, cells30j] at g0 g1 g2 g3
      have hD : D i = .agg [y0.1, y1.1, y2.1, y3.1] := congrArg Prod.fst hx
      rw [hD] at hwi
      simp only [DataW.weights, Try.underlying79, DataW.weightsEach, List.map, List.append_nil, List.all_append, Bool.and_eq_true] at hwi
      obtain ⟨_, w1, _, w3⟩ := hwi
      obtain ⟨x0, q0, _, z0⟩ := DataW.trod_int Try.underlying3 g0
      obtain ⟨dA, dm, dc, dl, q1, db, dz⟩ := open_bytes Try.underlying33 Try.underlying5 cells5 bytes5 g1
      obtain ⟨x2, q2, _, z2⟩ := DataW.trod_int Try.underlying3 g2
      obtain ⟨pA, pn, pc, pl, q3, pr, pe, pc1, pz⟩ := open_iz g3
      simp at q0 q1 q2 q3
      subst q0 q1 q2 q3
      refine ⟨⟨x0, dA, dm, dc, dl, x2, pA, pn, pc, pl⟩, rfl, ?_, ?_, db, dz w1, pr, pe, pc1, pz w3⟩
      · have := bounds_i64 z0; simp only; omega
      · have := bounds_i64 z2; simp only; omega
  obtain ⟨f, hf⟩ := choose_lt each
  refine ⟨A, n, c, f, rfl, ⟨?_, fun i hi => (hf i hi).2⟩, h1, by unfold reachBytes at h6; omega⟩
  have : (List.range n).flatMap xs = (List.range n).flatMap fun i => djc (f i) := by
    have : ∀ l : List Nat, (∀ i ∈ l, i < n) → l.flatMap xs = l.flatMap fun i => djc (f i) := fun l => by
      induction l with
      | nil => intro _; rfl
      | cons i l ih => intro h; rw [List.flatMap_cons, List.flatMap_cons, ih (fun j hj => h j (by simp [hj])), (hf i (h i (by simp))).1]
    exact this _ (fun i hi => List.mem_range.1 hi)
  rw [← this]
  exact h3
end
end Go.Proofs.Ytnclebnodkkgnaa
