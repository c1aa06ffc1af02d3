/- An argument opened: the deeds of layer 10. No condition. -/
import Derived.Test.YtdbhagnnpjcpmaaFactsS
import Derived.Test.YtdbhagnnpjcpmaaFactsJ
namespace Go.Proofs.Ytdbhagnnpjcpmaa
open Go.ChangeShapes Go.WideShapes Go.ChangeAt Go.RowKit Go.Joins Go.Deep

structure Ds where
  K : Int
  s : Sup
  vA : Option Addr
  vn : Nat
  vc : Nat
  N : Int
  pA : Option Addr
  pn : Nat
  pc : Nat
  ps : List Int
instance : Inhabited Ds := ⟨⟨0, Sup.nil, none, 0, 0, 0, none, 0, 0, []⟩⟩
def dsc (x : Ds) : List Value := [.int .i64 x.K, .int .i64 x.s.gen, .int .i64 x.s.sec, .int .i64 x.s.next, .slice x.vA x.vn x.vc, .int .i64 x.N, .slice x.pA x.pn x.pc]
structure DsOk (w : World) (x : Ds) : Prop where
  k : -9223372036854775808 ≤ x.K ∧ x.K ≤ 9223372036854775807
  n : -9223372036854775808 ≤ x.N ∧ x.N ≤ 9223372036854775807
  v : Vr w 0 x.vA x.vn x.vc x.s.vs
  p : Rd w 0 x.pA (iz x.ps)
  pl : x.ps.length = x.pn
  pz : x.pn ≤ x.pc ∧ x.pc ≤ 17592186044416
/-- deeds that lie in memory -/
structure Dss (w : World) (A : Option Addr) (n : Nat) (f : Nat → Ds) : Prop where
  rd : Rd w 0 A ((List.range n).flatMap fun i => dsc (f i))
  ok : ∀ i, i < n → DsOk w (f i)

theorem cellsDs : Try.prog.cellsOf 35 = 7 := by kernel_rfl
theorem bytesDs : Try.prog.bytesOf 35 = 88 := by kernel_rfl
theorem cells32d : Try.prog.cellsOf 32 = 4 := by kernel_rfl
theorem cellsVl : Try.prog.cellsOf 30 = 1 := by kernel_rfl
section
variable {H : Type} {enc : TypeId × Value → H} {W : World}
set_option maxRecDepth 100000 in
theorem in_dss {base : Nat} {v : Value} {d : DataW H} {p : List MemPlace} (hv : Value.okWide Try.prog W .any base 22 v) (h : DataW.Trod enc Try.prog W 0 (fun _ => true) true 22 v d p)
    (hw : (d.weights Try.prog 22).all (· ≤ reachBytes) = true) : ∃ A n c f, v = .slice A n c ∧ Dss W A n f ∧ n ≤ c ∧ c ≤ 1599289640400 := by
  obtain ⟨A, n, c, rfl⟩ := okWide_slice Try.underlying22 hv
  obtain ⟨fuel, hf⟩ := h
  obtain ⟨A', n', c', xs, D, hcs, h1, h2, h3, h4, h5⟩ := open_each Try.underlying22 cellsDs (by omega) bytesDs hf
  simp [Value.cells] at hcs
  obtain ⟨rfl, rfl, rfl⟩ := hcs
  obtain ⟨h6, h7⟩ := h5 hw
  have each : ∀ i, i < n → ∃ y : Ds, xs i = dsc y ∧ DsOk W y := fun i hi => by
    obtain ⟨hl, f, Pl, ht⟩ := h4 i hi
    have hwi := h7 i hi
    obtain ⟨y0, y1, y2, y3, k, hx, _, g0, g1, g2, g3⟩ := trod_struct4 Try.underlying35 ht
    match hxs : xs i, hl with
    | [v0, v1, v2, v3, v4, v5, v6], _ =>
      rw [hxs] at g0 g1 g2 g3
      simp [cells3j, cells32d, cells30j] at g0 g1 g2 g3
      have hD : D i = .agg [y0.1, y1.1, y2.1, y3.1] := congrArg Prod.fst hx
      rw [hD] at hwi
      simp only [DataW.weights, Try.underlying35, DataW.weightsEach, List.map, List.append_nil, List.all_append, Bool.and_eq_true] at hwi
      obtain ⟨_, _, _, w3⟩ := hwi
      obtain ⟨s0, s1, s2, s3, k2, _, _, e0, e1, e2, e3⟩ := trod_struct4 Try.underlying32 g1
      simp [cells3j, cellsVl] at e0 e1 e2 e3
      obtain ⟨x0, q0, _, z0⟩ := DataW.trod_int Try.underlying3 g0
      obtain ⟨a0, r0, _, _⟩ := DataW.trod_int Try.underlying3 e0
      obtain ⟨a1, r1, _, _⟩ := DataW.trod_int Try.underlying3 e1
      obtain ⟨a2, r2, _, _⟩ := DataW.trod_int Try.underlying3 e2
      obtain ⟨vA, vn, vc, vs, r3, hr⟩ := open_vers e3
      obtain ⟨x2, q2, _, z2⟩ := DataW.trod_int Try.underlying3 g2
      obtain ⟨pA, pn, pc, pl, q3, pr, pe, pc1, pz⟩ := open_iz g3
      simp at q0 q2 q3 r0 r1 r2 r3
      subst q0 q2 q3 r0 r1 r2 r3
      refine ⟨⟨x0, ⟨a0, a1, a2, vs⟩, vA, vn, vc, x2, pA, pn, pc, pl⟩, rfl, ?_, ?_, hr, pr, pe, pc1, pz w3⟩
      · have := bounds_i64 z0; simp only; omega
      · have := bounds_i64 z2; simp only; omega
  obtain ⟨f, hf⟩ := choose_lt each
  refine ⟨A, n, c, f, rfl, ⟨?_, fun i hi => (hf i hi).2⟩, h1, by unfold reachBytes at h6; omega⟩
  have : (List.range n).flatMap xs = (List.range n).flatMap fun i => dsc (f i) := by
    have : ∀ l : List Nat, (∀ i ∈ l, i < n) → l.flatMap xs = l.flatMap fun i => dsc (f i) := fun l => by
      induction l with
      | nil => intro _; rfl
      | cons i l ih => intro h; rw [List.flatMap_cons, List.flatMap_cons, ih (fun j hj => h j (by simp [hj])), (hf i (h i (by simp))).1]
    exact this _ (fun i hi => List.mem_range.1 hi)
  rw [← this]
  exact h3
end
end Go.Proofs.Ytdbhagnnpjcpmaa
namespace Go.Proofs.Ytdbhagnnpjcpmaa
open Go.ChangeShapes Go.WideShapes Go.ChangeAt Go.RowKit Go.Joins Go.Deep

structure Sx where
  s : Sup
  A : Option Addr
  c : Nat
instance : Inhabited Sx := ⟨⟨Sup.nil, none, 0⟩⟩
def sxc (x : Sx) : List Value := [.int .i64 x.s.gen, .int .i64 x.s.sec, .int .i64 x.s.next, .slice x.A x.s.vs.length x.c]
/-- superblocks that lie in memory -/
structure Sups (w : World) (A : Option Addr) (n : Nat) (f : Nat → Sx) : Prop where
  rd : Rd w 0 A ((List.range n).flatMap fun i => sxc (f i))
  ok : ∀ i, i < n → Vr w 0 (f i).A (f i).s.vs.length (f i).c (f i).s.vs
theorem bytes32d : Try.prog.bytesOf 32 = 48 := by kernel_rfl
section
variable {H : Type} {enc : TypeId × Value → H} {W : World}
set_option maxRecDepth 100000 in
theorem in_sups {base : Nat} {v : Value} {d : DataW H} {p : List MemPlace} (hv : Value.okWide Try.prog W .any base 52 v) (h : DataW.Trod enc Try.prog W 0 (fun _ => true) true 52 v d p) :
    ∃ A n c f, v = .slice A n c ∧ Sups W A n f ∧ n ≤ c ∧ c ≤ 9223372036854775807 := by
  obtain ⟨A, n, c, rfl⟩ := okWide_slice Try.underlying52 hv
  obtain ⟨fuel, hf⟩ := h
  obtain ⟨A', n', c', xs, D, hcs, h1, h2, h3, h4, h5⟩ := open_each Try.underlying52 cells32d (by omega) bytes32d hf
  simp [Value.cells] at hcs
  obtain ⟨rfl, rfl, rfl⟩ := hcs
  have each : ∀ i, i < n → ∃ y : Sx, xs i = sxc y ∧ Vr W 0 y.A y.s.vs.length y.c y.s.vs := fun i hi => by
    obtain ⟨hl, f, Pl, ht⟩ := h4 i hi
    obtain ⟨s0, s1, s2, s3, k2, _, _, e0, e1, e2, e3⟩ := trod_struct4 Try.underlying32 ht
    match hxs : xs i, hl with
    | [v0, v1, v2, v3], _ =>
      rw [hxs] at e0 e1 e2 e3
      simp [cells3j, cellsVl] at e0 e1 e2 e3
      obtain ⟨a0, r0, _, _⟩ := DataW.trod_int Try.underlying3 e0
      obtain ⟨a1, r1, _, _⟩ := DataW.trod_int Try.underlying3 e1
      obtain ⟨a2, r2, _, _⟩ := DataW.trod_int Try.underlying3 e2
      obtain ⟨vA, vn, vc, vs, r3, hr⟩ := open_vers e3
      simp at r0 r1 r2 r3
      subst r0 r1 r2 r3
      obtain rfl : vs.length = vn := hr.1
      exact ⟨⟨⟨a0, a1, a2, vs⟩, vA, vc⟩, rfl, hr⟩
  obtain ⟨f, hf⟩ := choose_lt each
  refine ⟨A, n, c, f, rfl, ⟨?_, fun i hi => (hf i hi).2⟩, h1, h2⟩
  have : (List.range n).flatMap xs = (List.range n).flatMap fun i => sxc (f i) := by
    have : ∀ l : List Nat, (∀ i ∈ l, i < n) → l.flatMap xs = l.flatMap fun i => sxc (f i) := fun l => by
      induction l with
      | nil => intro _; rfl
      | cons i l ih => intro h; rw [List.flatMap_cons, List.flatMap_cons, ih (fun j hj => h j (by simp [hj])), (hf i (h i (by simp))).1]
    exact this _ (fun i hi => List.mem_range.1 hi)
  rw [← this]
  exact h3
end
end Go.Proofs.Ytdbhagnnpjcpmaa
