/- An argument opened: the deeds of layer 13. No condition. -/
import Derived.Test.YtjndopmjlbhajaaFactsD
import Derived.Test.YtjndopmjlbhajaaFactsB
namespace Go.Proofs.Ytjndopmjlbhajaa
open Go.ChangeShapes Go.WideShapes Go.ChangeAt Go.RowKit Go.Joins Go.Deep

structure Dc where
  K : Int
  N : Int
  kd : Int
  bA : Option Addr
  bc : Nat
  b : List UInt8
  pA : Option Addr
  pn : Nat
  pc : Nat
  ps : List Int
instance : Inhabited Dc := ⟨⟨0, 0, 0, none, 0, [], none, 0, 0, []⟩⟩
def dcc (x : Dc) : List Value := [.int .i64 x.K, .int .i64 x.N, .int .i64 x.kd, .slice x.bA x.b.length x.bc, .slice x.pA x.pn x.pc]
structure DcOk (w : World) (x : Dc) : Prop where
  k : -9223372036854775808 ≤ x.K ∧ x.K ≤ 9223372036854775807
  n : -9223372036854775808 ≤ x.N ∧ x.N ≤ 9223372036854775807
  b : Bs w 0 x.bA x.b.length x.bc x.b
  p : Rd w 0 x.pA (iz x.ps)
  pl : x.ps.length = x.pn
  pz : x.pn ≤ x.pc ∧ x.pc ≤ 17592186044416
  bz : x.bc ≤ 140737488351232
/-- deeds that lie in memory -/
structure Dcs (w : World) (A : Option Addr) (n : Nat) (f : Nat → Dc) : Prop where
  rd : Rd w 0 A ((List.range n).flatMap fun i => dcc (f i))
  ok : ∀ i, i < n → DcOk w (f i)

theorem cellsDc : Try.prog.cellsOf 37 = 5 := by kernel_rfl
theorem bytesDc : Try.prog.bytesOf 37 = 72 := by kernel_rfl
theorem cells3c : Try.prog.cellsOf 3 = 1 := by kernel_rfl
theorem cellsBl : Try.prog.cellsOf 31 = 1 := by kernel_rfl
theorem cellsIl : Try.prog.cellsOf 35 = 1 := by kernel_rfl
section
variable {H : Type} {enc : TypeId × Value → H} {W : World}
set_option maxRecDepth 100000 in
theorem in_dcs {base : Nat} {v : Value} {d : DataW H} {p : List MemPlace} (hv : Value.okWide Try.prog W .any base 22 v) (h : DataW.Trod enc Try.prog W 0 (fun _ => true) true 22 v d p)
    (hw : (d.weights Try.prog 22).all (· ≤ reachBytes) = true) : ∃ A n c f, v = .slice A n c ∧ Dcs W A n f ∧ n ≤ c ∧ c ≤ 2000000000000 := by
  obtain ⟨A, n, c, rfl⟩ := okWide_slice Try.underlying22 hv
  obtain ⟨fuel, hf⟩ := h
  obtain ⟨A', n', c', xs, D, hcs, h1, h2, h3, h4, h5⟩ := open_each Try.underlying22 cellsDc (by omega) bytesDc hf
  simp [Value.cells] at hcs
  obtain ⟨rfl, rfl, rfl⟩ := hcs
  obtain ⟨h6, h7⟩ := h5 hw
  have each : ∀ i, i < n → ∃ y : Dc, xs i = dcc y ∧ DcOk W y := fun i hi => by
    obtain ⟨hl, f, Pl, ht⟩ := h4 i hi
    have hwi := h7 i hi
    obtain ⟨y0, y1, y2, y3, k, hx, _, g0, g1, g2, g3⟩ := trod_struct4 Try.underlying37 ht
    match hxs : xs i, hl with
    | [v0, v1, v2, v3, v4], _ =>
      rw [hxs] at g0 g1 g2 g3
      simp [cells3c, cells24, cellsIl] at g0 g1 g2 g3
      have hD : D i = .agg [y0.1, y1.1, y2.1, y3.1] := congrArg Prod.fst hx
      rw [hD] at hwi
      simp only [DataW.weights, Try.underlying37, DataW.weightsEach, List.map, List.append_nil, List.all_append, Bool.and_eq_true] at hwi
      obtain ⟨_, _, w2, w3⟩ := hwi
      obtain ⟨ys, k2, _, hy, hl2, hlen2, hf2⟩ := DataW.trod_struct Try.underlying33 g2
      match ys, hlen2 with
      | [b0, b1], _ =>
        have e0 := hf2 0 _ rfl
        have e1 := hf2 1 _ rfl
        simp [cells3c, cellsBl] at e0 e1
        obtain ⟨x0, q0, _, z0⟩ := DataW.trod_int Try.underlying3 g0
        obtain ⟨x1, q1, _, z1⟩ := DataW.trod_int Try.underlying3 g1
        obtain ⟨kd, r0, _, _⟩ := DataW.trod_int Try.underlying3 e0
        obtain ⟨bA, bm, bc, bl, r1, hb, hbz⟩ := open_bytes Try.underlying31 Try.underlying5 cells5 bytes5 e1
        obtain ⟨pA, pn, pc, pl, q3, pr, pe, pc1, pz⟩ := open_iz g3
        simp at q0 q1 q3 r0 r1
        subst q0 q1 q3 r0 r1
        obtain rfl : bl.length = bm := hb.1
        have hy1 : y2.1 = .agg [b0.1, b1.1] := by rw [hy]; rfl
        rw [hy1] at w2
        simp only [DataW.weights, Try.underlying33, DataW.weightsEach, List.map, List.append_nil, List.all_append, Bool.and_eq_true] at w2
        refine ⟨⟨x0, x1, kd, bA, bc, bl, pA, pn, pc, pl⟩, rfl, ?_, ?_, hb, pr, pe, ⟨pc1, pz w3⟩, hbz w2.2⟩
        · have := bounds_i64 z0; simp only; omega
        · have := bounds_i64 z1; simp only; omega
  obtain ⟨f, hf⟩ := choose_lt each
  refine ⟨A, n, c, f, rfl, ⟨?_, fun i hi => (hf i hi).2⟩, h1, by unfold reachBytes at h6; omega⟩
  have : (List.range n).flatMap xs = (List.range n).flatMap fun i => dcc (f i) := by
    have : ∀ l : List Nat, (∀ i ∈ l, i < n) → l.flatMap xs = l.flatMap fun i => dcc (f i) := fun l => by
      induction l with
      | nil => intro _; rfl
      | cons i l ih => intro h; rw [List.flatMap_cons, List.flatMap_cons, ih (fun j hj => h j (by simp [hj])), (hf i (h i (by simp))).1]
    exact this _ (fun i hi => List.mem_range.1 hi)
  rw [← this]
  exact h3
end
end Go.Proofs.Ytjndopmjlbhajaa
