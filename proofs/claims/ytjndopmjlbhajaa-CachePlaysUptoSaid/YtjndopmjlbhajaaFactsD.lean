/- An argument opened: the deeds of layer 8. No condition. -/
import Derived.Test.YtjndopmjlbhajaaFactsJ
namespace Go.Proofs.Ytjndopmjlbhajaa
open Go.ChangeShapes Go.WideShapes Go.ChangeAt Go.RowKit Go.Joins Go.Deep

structure D8 where
  K : Int
  at_ : Int
  fl : UInt8
  la : UInt8
  sh : Bool
  pA : Option Addr
  pn : Nat
  pc : Nat
  ps : List Int
instance : Inhabited D8 := ⟨⟨0, 0, 0, 0, false, none, 0, 0, []⟩⟩
def d8c (x : D8) : List Value := [.int .i64 x.K, .int .i64 x.at_, .int .u8 (x.fl.toNat : Int), .int .u8 (x.la.toNat : Int), .bool x.sh, .slice x.pA x.pn x.pc]
structure D8Ok (w : World) (x : D8) : Prop where
  k : -9223372036854775808 ≤ x.K ∧ x.K ≤ 9223372036854775807
  a : -9223372036854775808 ≤ x.at_ ∧ x.at_ ≤ 9223372036854775807
  p : Rd w 0 x.pA (iz x.ps)
  pl : x.ps.length = x.pn
  pz : x.pn ≤ x.pc ∧ x.pc ≤ 17592186044416
/-- deeds that lie in memory -/
structure D8s (w : World) (A : Option Addr) (n : Nat) (f : Nat → D8) : Prop where
  rd : Rd w 0 A ((List.range n).flatMap fun i => d8c (f i))
  ok : ∀ i, i < n → D8Ok w (f i)

theorem cells5j : Try.prog.cellsOf 5 = 1 := by kernel_rfl
theorem cells4j : Try.prog.cellsOf 4 = 1 := by kernel_rfl
section
variable {H : Type} {enc : TypeId × Value → H} {W : World}
theorem trod_struct6 {P : Program} {w : World} {base : Nat} {spare : Nat → Bool} {held : Bool} {t : TypeId} {f0 f1 f2 f3 f4 f5 : Field} {fuel : Nat} {cs : List Value} {x : DataW H × List MemPlace} (ht : P.underlying t = some (.struct #[f0, f1, f2, f3, f4, f5])) (h : DataW.trod enc P w base spare held fuel t cs = some x) :
    ∃ y0 y1 y2 y3 y4 y5 n, x.1 = .agg [y0.1, y1.1, y2.1, y3.1, y4.1, y5.1] ∧ DataW.trod enc P w base spare held n f0.type ((cs.drop f0.offset).take (P.cellsOf f0.type)) = some y0 ∧
      DataW.trod enc P w base spare held n f1.type ((cs.drop f1.offset).take (P.cellsOf f1.type)) = some y1 ∧ DataW.trod enc P w base spare held n f2.type ((cs.drop f2.offset).take (P.cellsOf f2.type)) = some y2 ∧
      DataW.trod enc P w base spare held n f3.type ((cs.drop f3.offset).take (P.cellsOf f3.type)) = some y3 ∧ DataW.trod enc P w base spare held n f4.type ((cs.drop f4.offset).take (P.cellsOf f4.type)) = some y4 ∧
      DataW.trod enc P w base spare held n f5.type ((cs.drop f5.offset).take (P.cellsOf f5.type)) = some y5 := by
  obtain ⟨xs, n, _, rfl, hl, hlen, hf⟩ := DataW.trod_struct ht h
  match xs, hlen with
  | [y0, y1, y2, y3, y4, y5], _ => exact ⟨y0, y1, y2, y3, y4, y5, n, by simp, by simpa using hf 0 f0 rfl, by simpa using hf 1 f1 rfl, by simpa using hf 2 f2 rfl, by simpa using hf 3 f3 rfl, by simpa using hf 4 f4 rfl, by simpa using hf 5 f5 rfl⟩
theorem u8_of {k : Int} (h : 0 ≤ k ∧ k < 256) : ∃ b : UInt8, (b.toNat : Int) = k := by
  refine ⟨UInt8.ofNat k.toNat, ?_⟩
  rw [UInt8.toNat_ofNat']
  omega
end
end Go.Proofs.Ytjndopmjlbhajaa
