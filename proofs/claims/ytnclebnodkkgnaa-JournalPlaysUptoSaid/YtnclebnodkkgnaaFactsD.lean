/- An argument opened: the deeds of layer 8. No condition. -/
import Derived.Test.YtnclebnodkkgnaaFactsJ
namespace Go.Proofs.Ytnclebnodkkgnaa
open Go.ChangeShapes Go.WideShapes Go.ChangeAt Go.RowKit Go.Joins Go.Deep

structure D8 where
  K : Int
  at_ : Int
  fl : UInt8
  la : UInt8
  sh : Bool
  pA : Option Addr
  pn : Nat
  pc : Nat
  ps : List Int
instance : Inhabited D8 := ⟨⟨0, 0, 0, 0, false, none, 0, 0, []⟩⟩
def d8c (x : D8) : List Value := [.int .i64 x.K, .int .i64 x.at_, .int .u8 (x.fl.toNat : Int), .int .u8 (x.la.toNat : Int), .bool x.sh, .slice x.pA x.pn x.pc]
structure D8Ok (w : World) (x : D8) : Prop where
  k : -9223372036854775808 ≤ x.K ∧ x.K ≤ 9223372036854775807
  a : -9223372036854775808 ≤ x.at_ ∧ x.at_ ≤ 9223372036854775807
  p : Rd w 0 x.pA (iz x.ps)
  pl : x.ps.length = x.pn
  pz : x.pn ≤ x.pc ∧ x.pc ≤ 17592186044416
/-- deeds that lie in memory -/
structure D8s (w : World) (A : Option Addr) (n : Nat) (f : Nat → D8) : Prop where
  rd : Rd w 0 A ((List.range n).flatMap fun i => d8c (f i))
  ok : ∀ i, i < n → D8Ok w (f i)

theorem cellsD8 : Try.prog.cellsOf 48 = 6 := by kernel_rfl
theorem bytesD8 : Try.prog.bytesOf 48 = 48 := by kernel_rfl
theorem cells5j : Try.prog.cellsOf 5 = 1 := by kernel_rfl
theorem cells4j : Try.prog.cellsOf 4 = 1 := by kernel_rfl
section
variable {H : Type} {enc : TypeId × Value → H} {W : World}
theorem trod_struct6 {P : Program} {w : World} {base : Nat} {spare : Nat → Bool} {held : Bool} {t : TypeId} {f0 f1 f2 f3 f4 f5 : Field} {fuel : Nat} {cs : List Value} {x : DataW H × List MemPlace} (ht : P.underlying t = some (.struct #[f0, f1, f2, f3, f4, f5])) (h : DataW.trod enc P w base spare held fuel t cs = some x) :
    ∃ y0 y1 y2 y3 y4 y5 n, x.1 = .agg [y0.1, y1.1, y2.1, y3.1, y4.1, y5.1] ∧ DataW.trod enc P w base spare held n f0.type ((cs.drop f0.offset).take (P.cellsOf f0.type)) = some y0 ∧
      DataW.trod enc P w base spare held n f1.type ((cs.drop f1.offset).take (P.cellsOf f1.type)) = some y1 ∧ DataW.trod enc P w base spare held n f2.type ((cs.drop f2.offset).take (P.cellsOf f2.type)) = some y2 ∧
      DataW.trod enc P w base spare held n f3.type ((cs.drop f3.offset).take (P.cellsOf f3.type)) = some y3 ∧ DataW.trod enc P w base spare held n f4.type ((cs.drop f4.offset).take (P.cellsOf f4.type)) = some y4 ∧
      DataW.trod enc P w base spare held n f5.type ((cs.drop f5.offset).take (P.cellsOf f5.type)) = some y5 := by
  obtain ⟨xs, n, _, rfl, hl, hlen, hf⟩ := DataW.trod_struct ht h
  match xs, hlen with
  | [y0, y1, y2, y3, y4, y5], _ => exact ⟨y0, y1, y2, y3, y4, y5, n, by simp, by simpa using hf 0 f0 rfl, by simpa using hf 1 f1 rfl, by simpa using hf 2 f2 rfl, by simpa using hf 3 f3 rfl, by simpa using hf 4 f4 rfl, by simpa using hf 5 f5 rfl⟩
theorem u8_of {k : Int} (h : 0 ≤ k ∧ k < 256) : ∃ b : UInt8, (b.toNat : Int) = k := by
  refine ⟨UInt8.ofNat k.toNat, ?_⟩
  rw [UInt8.toNat_ofNat']
  omega
set_option maxRecDepth 100000 in
theorem in_d8s {base : Nat} {v : Value} {d : DataW H} {p : List MemPlace} (hv : Value.okWide Try.prog W .any base 45 v) (h : DataW.Trod enc Try.prog W 0 (fun _ => true) true 45 v d p)
    (hw : (d.weights Try.prog 45).all (· ≤ reachBytes) = true) : ∃ A n c f, v = .slice A n c ∧ D8s W A n f ∧ n ≤ c ∧ c ≤ 2932031007403 := by
  obtain ⟨A, n, c, rfl⟩ := okWide_slice Try.underlying45 hv
  obtain ⟨fuel, hf⟩ := h
  obtain ⟨A', n', c', xs, D, hcs, h1, h2, h3, h4, h5⟩ := open_each Try.underlying45 cellsD8 (by omega) bytesD8 hf
  simp [Value.cells] at hcs
  obtain ⟨rfl, rfl, rfl⟩ := hcs
  obtain ⟨h6, h7⟩ := h5 hw
  have each : ∀ i, i < n → ∃ y : D8, xs i = d8c y ∧ D8Ok W y := fun i hi => by
    obtain ⟨hl, f, Pl, ht⟩ := h4 i hi
    have hwi := h7 i hi
    obtain ⟨y0, y1, y2, y3, y4, y5, k, hx, g0, g1, g2, g3, g4, g5⟩ := trod_struct6 Try.underlying48 ht
    match hxs : xs i, hl with
    | [v0, v1, v2, v3, v4, v5], _ =>
      rw [hxs] at g0 g1 g2 g3 g4 g5
      simp [cells3j, cells5j, cells4j, cells30j] at g0 g1 g2 g3 g4 g5
      have hD : D i = .agg [y0.1, y1.1, y2.1, y3.1, y4.1, y5.1] := hx
      rw [hD] at hwi
      simp only [DataW.weights, Try.underlying48, DataW.weightsEach, List.map, List.append_nil, List.all_append, Bool.and_eq_true] at hwi
      obtain ⟨_, _, _, _, _, w5⟩ := hwi
      obtain ⟨x0, q0, _, z0⟩ := DataW.trod_int Try.underlying3 g0
      obtain ⟨x1, q1, _, z1⟩ := DataW.trod_int Try.underlying3 g1
      obtain ⟨x2, q2, _, z2⟩ := DataW.trod_int Try.underlying5 g2
      obtain ⟨x3, q3, _, z3⟩ := DataW.trod_int Try.underlying5 g3
      obtain ⟨x4, q4, _⟩ := DataW.trod_bool Try.underlying4 g4
      obtain ⟨pA, pn, pc, pl, q5, pr, pe, pc1, pz⟩ := open_iz g5
      simp at q0 q1 q2 q3 q4 q5
      subst q0 q1 q2 q3 q4 q5
      obtain ⟨b2, rfl⟩ := u8_of (k := x2) (by have := bounds_u8 z2; omega)
      obtain ⟨b3, rfl⟩ := u8_of (k := x3) (by have := bounds_u8 z3; omega)
      exact ⟨⟨x0, x1, b2, b3, x4, pA, pn, pc, pl⟩, rfl, bounds_i64 z0, bounds_i64 z1, pr, pe, pc1, pz w5⟩
  obtain ⟨f, hf⟩ := choose_lt each
  refine ⟨A, n, c, f, rfl, ⟨?_, fun i hi => (hf i hi).2⟩, h1, by unfold reachBytes at h6; omega⟩
  have : (List.range n).flatMap xs = (List.range n).flatMap fun i => d8c (f i) := by
    have : ∀ l : List Nat, (∀ i ∈ l, i < n) → l.flatMap xs = l.flatMap fun i => d8c (f i) := fun l => by
      induction l with
      | nil => intro _; rfl
      | cons i l ih => intro h; rw [List.flatMap_cons, List.flatMap_cons, ih (fun j hj => h j (by simp [hj])), (hf i (h i (by simp))).1]
    exact this _ (fun i hi => List.mem_range.1 hi)
  rw [← this]
  exact h3
end
end Go.Proofs.Ytnclebnodkkgnaa
