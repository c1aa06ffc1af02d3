/-
  No cell of these rows narrows 'for every input' (looked for: loops, veiled, ifaces, maps, wideKeys, modest, calm, conditions, laid).
  DERIVED. THE GIVEN ROWS OF THIS SEAT. 12 by the template 'for every input the law returns true; each argument reads behind the call as it read before'; 0 by the template 'total and deterministic' (their statements: YtgfmpgflbphpcaaTotals.lean).
  GIVEN WITH THE SEED: the statements are not yours to turn. If you find one false, say at which input.
  Laid BY PROGRAM, IN A SANDBOX (cutbox-rows.mjs): the forced cells as the released guide's own fill.sh prints them over the translation 0da20ec06a01c45c… (all of the seat's roots in one cut). By AI agents, Wed Nov 11 2026. No macro, syntax, notation, axiom, sorry.
-/
import Derived.Test.YtgfmpgflbphpcaaChecked
import GoSem.Claim
import GoSem.ClaimJoined
import GoSem.ClaimMapViews
import Derived.JoinedTies
import Derived.KernelRfl
namespace Go.Proofs.Ytgfmpgflbphpcaa
/- THE CELL 'sum', in the pinned program and in every row, IS THE sha256 OF THE DUMP (.gsa) THAT YtgfmpgflbphpcaaProg.lean LOADS. Nothing in Lean hashes anything: it is a label: what it is worth is what the hold of that sum in a sandbox is worth. -/
noncomputable def Try.pinned : Pinned := { name := "ytgfmpgflbphpcaa", sum := "0da20ec06a01c45c3a1ceb3d134b80c7253548a0f3fff4c869355acc4c80ff2c", checked := Try.checked }
namespace Rows
def none {H : Type} : Left H := { results := [], args := [] }

/-- 'kistlaw05.SumsCrc': WHATEVER THE INPUT: true; the input reads as it did. -/
def sumsCrcSpec : ChangeSpec := { name := "sumsCrc", fn := fun _ => fun
  | [d] => { results := [.lit (.bool true)], args := [d] }
  | _ => none }
def sumsCrcRow : OpenClaim := { program := "ytgfmpgflbphpcaa", sum := "0da20ec06a01c45c3a1ceb3d134b80c7253548a0f3fff4c869355acc4c80ff2c", func := "kist/kistlaw05.SumsCrc", spec := "sumsCrc", apart := false }
def SumsCrcSaid : Prop := sumsCrcRow.holds Try.pinned (OpenSpec.ofChange sumsCrcSpec)

/-- ITS FALSE NEIGHBOUR: 'it returns false'. Refute it at one input. -/
def sumsCrcWrong : ChangeSpec := { name := "sumsCrc", fn := fun _ => fun
  | [d] => { results := [.lit (.bool false)], args := [d] }
  | _ => none }
def SumsCrcWrongFalsely : Prop := sumsCrcRow.holds Try.pinned (OpenSpec.ofChange sumsCrcWrong)

/-- 'kistlaw05.SumsSha': WHATEVER THE INPUT: true; the input reads as it did. -/
def sumsShaSpec : ChangeSpec := { name := "sumsSha", fn := fun _ => fun
  | [d] => { results := [.lit (.bool true)], args := [d] }
  | _ => none }
def sumsShaRow : OpenClaim := { program := "ytgfmpgflbphpcaa", sum := "0da20ec06a01c45c3a1ceb3d134b80c7253548a0f3fff4c869355acc4c80ff2c", func := "kist/kistlaw05.SumsSha", spec := "sumsSha", apart := false }
def SumsShaSaid : Prop := sumsShaRow.holds Try.pinned (OpenSpec.ofChange sumsShaSpec)

/-- ITS FALSE NEIGHBOUR: 'it returns false'. Refute it at one input. -/
def sumsShaWrong : ChangeSpec := { name := "sumsSha", fn := fun _ => fun
  | [d] => { results := [.lit (.bool false)], args := [d] }
  | _ => none }
def SumsShaWrongFalsely : Prop := sumsShaRow.holds Try.pinned (OpenSpec.ofChange sumsShaWrong)

/-- 'kistlaw05.SumsBursts': WHATEVER THE INPUT: true; the input reads as it did. -/
def sumsBurstsSpec : ChangeSpec := { name := "sumsBursts", fn := fun _ => fun
  | [d1, d2, d3] => { results := [.lit (.bool true)], args := [d1, d2, d3] }
  | _ => none }
def sumsBurstsRow : OpenClaim := { program := "ytgfmpgflbphpcaa", sum := "0da20ec06a01c45c3a1ceb3d134b80c7253548a0f3fff4c869355acc4c80ff2c", func := "kist/kistlaw05.SumsBursts", spec := "sumsBursts", apart := false }
def SumsBurstsSaid : Prop := sumsBurstsRow.holds Try.pinned (OpenSpec.ofChange sumsBurstsSpec)

/-- ITS FALSE NEIGHBOUR: 'it returns false'. Refute it at one input. -/
def sumsBurstsWrong : ChangeSpec := { name := "sumsBursts", fn := fun _ => fun
  | [d1, d2, d3] => { results := [.lit (.bool false)], args := [d1, d2, d3] }
  | _ => none }
def SumsBurstsWrongFalsely : Prop := sumsBurstsRow.holds Try.pinned (OpenSpec.ofChange sumsBurstsWrong)

/-- 'kistlaw05.SumsStay': WHATEVER THE INPUT: true; the input reads as it did. -/
def sumsStaySpec : ChangeSpec := { name := "sumsStay", fn := fun _ => fun
  | [d] => { results := [.lit (.bool true)], args := [d] }
  | _ => none }
def sumsStayRow : OpenClaim := { program := "ytgfmpgflbphpcaa", sum := "0da20ec06a01c45c3a1ceb3d134b80c7253548a0f3fff4c869355acc4c80ff2c", func := "kist/kistlaw05.SumsStay", spec := "sumsStay", apart := false }
def SumsStaySaid : Prop := sumsStayRow.holds Try.pinned (OpenSpec.ofChange sumsStaySpec)

/-- ITS FALSE NEIGHBOUR: 'it returns false'. Refute it at one input. -/
def sumsStayWrong : ChangeSpec := { name := "sumsStay", fn := fun _ => fun
  | [d] => { results := [.lit (.bool false)], args := [d] }
  | _ => none }
def SumsStayWrongFalsely : Prop := sumsStayRow.holds Try.pinned (OpenSpec.ofChange sumsStayWrong)

/-- 'kistlaw10.SuperPuts': WHATEVER THE INPUT: true; the input reads as it did. -/
def superPutsSpec : ChangeSpec := { name := "superPuts", fn := fun _ => fun
  | [d] => { results := [.lit (.bool true)], args := [d] }
  | _ => none }
def superPutsRow : OpenClaim := { program := "ytgfmpgflbphpcaa", sum := "0da20ec06a01c45c3a1ceb3d134b80c7253548a0f3fff4c869355acc4c80ff2c", func := "kist/kistlaw10.SuperPuts", spec := "superPuts", apart := false }
def SuperPutsSaid : Prop := superPutsRow.holds Try.pinned (OpenSpec.ofChange superPutsSpec)

/-- ITS FALSE NEIGHBOUR: 'it returns false'. Refute it at one input. -/
def superPutsWrong : ChangeSpec := { name := "superPuts", fn := fun _ => fun
  | [d] => { results := [.lit (.bool false)], args := [d] }
  | _ => none }
def SuperPutsWrongFalsely : Prop := superPutsRow.holds Try.pinned (OpenSpec.ofChange superPutsWrong)

/-- 'kistlaw10.SuperGets': WHATEVER THE INPUT: true; the input reads as it did. -/
def superGetsSpec : ChangeSpec := { name := "superGets", fn := fun _ => fun
  | [d] => { results := [.lit (.bool true)], args := [d] }
  | _ => none }
def superGetsRow : OpenClaim := { program := "ytgfmpgflbphpcaa", sum := "0da20ec06a01c45c3a1ceb3d134b80c7253548a0f3fff4c869355acc4c80ff2c", func := "kist/kistlaw10.SuperGets", spec := "superGets", apart := false }
def SuperGetsSaid : Prop := superGetsRow.holds Try.pinned (OpenSpec.ofChange superGetsSpec)

/-- ITS FALSE NEIGHBOUR: 'it returns false'. Refute it at one input. -/
def superGetsWrong : ChangeSpec := { name := "superGets", fn := fun _ => fun
  | [d] => { results := [.lit (.bool false)], args := [d] }
  | _ => none }
def SuperGetsWrongFalsely : Prop := superGetsRow.holds Try.pinned (OpenSpec.ofChange superGetsWrong)

/-- 'kistlaw10.SuperApart': WHATEVER THE INPUT: true; the input reads as it did. -/
def superApartSpec : ChangeSpec := { name := "superApart", fn := fun _ => fun
  | [d1, d2] => { results := [.lit (.bool true)], args := [d1, d2] }
  | _ => none }
def superApartRow : OpenClaim := { program := "ytgfmpgflbphpcaa", sum := "0da20ec06a01c45c3a1ceb3d134b80c7253548a0f3fff4c869355acc4c80ff2c", func := "kist/kistlaw10.SuperApart", spec := "superApart", apart := false }
def SuperApartSaid : Prop := superApartRow.holds Try.pinned (OpenSpec.ofChange superApartSpec)

/-- ITS FALSE NEIGHBOUR: 'it returns false'. Refute it at one input. -/
def superApartWrong : ChangeSpec := { name := "superApart", fn := fun _ => fun
  | [d1, d2] => { results := [.lit (.bool false)], args := [d1, d2] }
  | _ => none }
def SuperApartWrongFalsely : Prop := superApartRow.holds Try.pinned (OpenSpec.ofChange superApartWrong)

/-- 'kistlaw07.CutCuts': WHATEVER THE INPUT: true; the input reads as it did. -/
def cutCutsSpec : ChangeSpec := { name := "cutCuts", fn := fun _ => fun
  | [d] => { results := [.lit (.bool true)], args := [d] }
  | _ => none }
def cutCutsRow : OpenClaim := { program := "ytgfmpgflbphpcaa", sum := "0da20ec06a01c45c3a1ceb3d134b80c7253548a0f3fff4c869355acc4c80ff2c", func := "kist/kistlaw07.CutCuts", spec := "cutCuts", apart := false }
def CutCutsSaid : Prop := cutCutsRow.holds Try.pinned (OpenSpec.ofChange cutCutsSpec)

/-- ITS FALSE NEIGHBOUR: 'it returns false'. Refute it at one input. -/
def cutCutsWrong : ChangeSpec := { name := "cutCuts", fn := fun _ => fun
  | [d] => { results := [.lit (.bool false)], args := [d] }
  | _ => none }
def CutCutsWrongFalsely : Prop := cutCutsRow.holds Try.pinned (OpenSpec.ofChange cutCutsWrong)

/-- 'kistlaw07.CutGears': WHATEVER THE INPUT: true; the input reads as it did. -/
def cutGearsSpec : ChangeSpec := { name := "cutGears", fn := fun _ => fun
  | [d] => { results := [.lit (.bool true)], args := [d] }
  | _ => none }
def cutGearsRow : OpenClaim := { program := "ytgfmpgflbphpcaa", sum := "0da20ec06a01c45c3a1ceb3d134b80c7253548a0f3fff4c869355acc4c80ff2c", func := "kist/kistlaw07.CutGears", spec := "cutGears", apart := false }
def CutGearsSaid : Prop := cutGearsRow.holds Try.pinned (OpenSpec.ofChange cutGearsSpec)

/-- ITS FALSE NEIGHBOUR: 'it returns false'. Refute it at one input. -/
def cutGearsWrong : ChangeSpec := { name := "cutGears", fn := fun _ => fun
  | [d] => { results := [.lit (.bool false)], args := [d] }
  | _ => none }
def CutGearsWrongFalsely : Prop := cutGearsRow.holds Try.pinned (OpenSpec.ofChange cutGearsWrong)

/-- 'kistlaw07.CutAgain': WHATEVER THE INPUT: true; the input reads as it did. -/
def cutAgainSpec : ChangeSpec := { name := "cutAgain", fn := fun _ => fun
  | [d1, d2] => { results := [.lit (.bool true)], args := [d1, d2] }
  | _ => none }
def cutAgainRow : OpenClaim := { program := "ytgfmpgflbphpcaa", sum := "0da20ec06a01c45c3a1ceb3d134b80c7253548a0f3fff4c869355acc4c80ff2c", func := "kist/kistlaw07.CutAgain", spec := "cutAgain", apart := false }
def CutAgainSaid : Prop := cutAgainRow.holds Try.pinned (OpenSpec.ofChange cutAgainSpec)

/-- ITS FALSE NEIGHBOUR: 'it returns false'. Refute it at one input. -/
def cutAgainWrong : ChangeSpec := { name := "cutAgain", fn := fun _ => fun
  | [d1, d2] => { results := [.lit (.bool false)], args := [d1, d2] }
  | _ => none }
def CutAgainWrongFalsely : Prop := cutAgainRow.holds Try.pinned (OpenSpec.ofChange cutAgainWrong)

/-- 'kistlaw07.CutEnds': WHATEVER THE INPUT: true; the input reads as it did. -/
def cutEndsSpec : ChangeSpec := { name := "cutEnds", fn := fun _ => fun
  | [d1, d2] => { results := [.lit (.bool true)], args := [d1, d2] }
  | _ => none }
def cutEndsRow : OpenClaim := { program := "ytgfmpgflbphpcaa", sum := "0da20ec06a01c45c3a1ceb3d134b80c7253548a0f3fff4c869355acc4c80ff2c", func := "kist/kistlaw07.CutEnds", spec := "cutEnds", apart := false }
def CutEndsSaid : Prop := cutEndsRow.holds Try.pinned (OpenSpec.ofChange cutEndsSpec)

/-- ITS FALSE NEIGHBOUR: 'it returns false'. Refute it at one input. -/
def cutEndsWrong : ChangeSpec := { name := "cutEnds", fn := fun _ => fun
  | [d1, d2] => { results := [.lit (.bool false)], args := [d1, d2] }
  | _ => none }
def CutEndsWrongFalsely : Prop := cutEndsRow.holds Try.pinned (OpenSpec.ofChange cutEndsWrong)

/-- 'kistlaw07.CutWhole': WHATEVER THE INPUT: true; the input reads as it did. -/
def cutWholeSpec : ChangeSpec := { name := "cutWhole", fn := fun _ => fun
  | [d] => { results := [.lit (.bool true)], args := [d] }
  | _ => none }
def cutWholeRow : OpenClaim := { program := "ytgfmpgflbphpcaa", sum := "0da20ec06a01c45c3a1ceb3d134b80c7253548a0f3fff4c869355acc4c80ff2c", func := "kist/kistlaw07.CutWhole", spec := "cutWhole", apart := false }
def CutWholeSaid : Prop := cutWholeRow.holds Try.pinned (OpenSpec.ofChange cutWholeSpec)

/-- ITS FALSE NEIGHBOUR: 'it returns false'. Refute it at one input. -/
def cutWholeWrong : ChangeSpec := { name := "cutWhole", fn := fun _ => fun
  | [d] => { results := [.lit (.bool false)], args := [d] }
  | _ => none }
def CutWholeWrongFalsely : Prop := cutWholeRow.holds Try.pinned (OpenSpec.ofChange cutWholeWrong)

/- THE SECOND FORM. 'bulk': how many values and letters a reading holds, each counted each time it is reached (what is shared counts as often as it is met; a slice's spare places count too). A statement '..UptoSaid' is the law's where the arguments, and the package variables that the reading takes, are together of bulk at most 1048576: NARROWER than '..Said'. Prove '..Said' where nothing that the law and all that it calls make is longer than what came in: it says more and counts as full. Else prove '..UptoSaid'. A law counts once. -/
mutual
def uptoBulk {H : Type} : DataW H → Nat
  | .lit (.string bytes) => bytes.length + 1
  | .lit _ => 1
  | .nil => 1
  | .ptr d => uptoBulk d + 1
  | .slice elems spare => uptoBulkAll elems + uptoBulkAll spare + 1
  | .agg parts => uptoBulkAll parts + 1
  | .iface _ d => uptoBulk d + 1
  | .map entries => uptoBulkEntries entries + 1
  | .held _ => 1
def uptoBulkAll {H : Type} : List (DataW H) → Nat
  | [] => 0
  | d :: r => uptoBulk d + uptoBulkAll r
def uptoBulkEntries {H : Type} : List (Lit × DataW H) → Nat
  | [] => 0
  | x :: r => uptoBulkEntry x + uptoBulkEntries r
def uptoBulkEntry {H : Type} : Lit × DataW H → Nat
  | (.string bytes, d) => bytes.length + uptoBulk d + 1
  | (_, d) => uptoBulk d + 1
 end
def uptoSmall : (H : Type) → List (DataW H) → Bool := fun _ ds => decide (uptoBulkAll ds ≤ 1048576)
def OpenSpec.upto (s : _root_.Go.ChangeSpec) : _root_.Go.OpenSpec := { _root_.Go.OpenSpec.ofChange s with cond := some uptoSmall }

/-- 'kistlaw05.SumsCrc', WHERE WHAT IT READS IS OF BULK AT MOST 1048576: true; the input reads as it did. -/
def sumsCrcUptoRow : OpenClaim := { program := "ytgfmpgflbphpcaa", sum := "0da20ec06a01c45c3a1ceb3d134b80c7253548a0f3fff4c869355acc4c80ff2c", func := "kist/kistlaw05.SumsCrc", spec := "sumsCrc", apart := false, narrowed := true }
def SumsCrcUptoSaid : Prop := sumsCrcUptoRow.holds Try.pinned (OpenSpec.upto sumsCrcSpec)

/-- 'kistlaw05.SumsSha', WHERE WHAT IT READS IS OF BULK AT MOST 1048576: true; the input reads as it did. -/
def sumsShaUptoRow : OpenClaim := { program := "ytgfmpgflbphpcaa", sum := "0da20ec06a01c45c3a1ceb3d134b80c7253548a0f3fff4c869355acc4c80ff2c", func := "kist/kistlaw05.SumsSha", spec := "sumsSha", apart := false, narrowed := true }
def SumsShaUptoSaid : Prop := sumsShaUptoRow.holds Try.pinned (OpenSpec.upto sumsShaSpec)

/-- 'kistlaw05.SumsBursts', WHERE WHAT IT READS IS OF BULK AT MOST 1048576: true; the input reads as it did. -/
def sumsBurstsUptoRow : OpenClaim := { program := "ytgfmpgflbphpcaa", sum := "0da20ec06a01c45c3a1ceb3d134b80c7253548a0f3fff4c869355acc4c80ff2c", func := "kist/kistlaw05.SumsBursts", spec := "sumsBursts", apart := false, narrowed := true }
def SumsBurstsUptoSaid : Prop := sumsBurstsUptoRow.holds Try.pinned (OpenSpec.upto sumsBurstsSpec)

/-- 'kistlaw05.SumsStay', WHERE WHAT IT READS IS OF BULK AT MOST 1048576: true; the input reads as it did. -/
def sumsStayUptoRow : OpenClaim := { program := "ytgfmpgflbphpcaa", sum := "0da20ec06a01c45c3a1ceb3d134b80c7253548a0f3fff4c869355acc4c80ff2c", func := "kist/kistlaw05.SumsStay", spec := "sumsStay", apart := false, narrowed := true }
def SumsStayUptoSaid : Prop := sumsStayUptoRow.holds Try.pinned (OpenSpec.upto sumsStaySpec)

/-- 'kistlaw10.SuperPuts', WHERE WHAT IT READS IS OF BULK AT MOST 1048576: true; the input reads as it did. -/
def superPutsUptoRow : OpenClaim := { program := "ytgfmpgflbphpcaa", sum := "0da20ec06a01c45c3a1ceb3d134b80c7253548a0f3fff4c869355acc4c80ff2c", func := "kist/kistlaw10.SuperPuts", spec := "superPuts", apart := false, narrowed := true }
def SuperPutsUptoSaid : Prop := superPutsUptoRow.holds Try.pinned (OpenSpec.upto superPutsSpec)

/-- 'kistlaw10.SuperGets', WHERE WHAT IT READS IS OF BULK AT MOST 1048576: true; the input reads as it did. -/
def superGetsUptoRow : OpenClaim := { program := "ytgfmpgflbphpcaa", sum := "0da20ec06a01c45c3a1ceb3d134b80c7253548a0f3fff4c869355acc4c80ff2c", func := "kist/kistlaw10.SuperGets", spec := "superGets", apart := false, narrowed := true }
def SuperGetsUptoSaid : Prop := superGetsUptoRow.holds Try.pinned (OpenSpec.upto superGetsSpec)

/-- 'kistlaw10.SuperApart', WHERE WHAT IT READS IS OF BULK AT MOST 1048576: true; the input reads as it did. -/
def superApartUptoRow : OpenClaim := { program := "ytgfmpgflbphpcaa", sum := "0da20ec06a01c45c3a1ceb3d134b80c7253548a0f3fff4c869355acc4c80ff2c", func := "kist/kistlaw10.SuperApart", spec := "superApart", apart := false, narrowed := true }
def SuperApartUptoSaid : Prop := superApartUptoRow.holds Try.pinned (OpenSpec.upto superApartSpec)

/-- 'kistlaw07.CutCuts', WHERE WHAT IT READS IS OF BULK AT MOST 1048576: true; the input reads as it did. -/
def cutCutsUptoRow : OpenClaim := { program := "ytgfmpgflbphpcaa", sum := "0da20ec06a01c45c3a1ceb3d134b80c7253548a0f3fff4c869355acc4c80ff2c", func := "kist/kistlaw07.CutCuts", spec := "cutCuts", apart := false, narrowed := true }
def CutCutsUptoSaid : Prop := cutCutsUptoRow.holds Try.pinned (OpenSpec.upto cutCutsSpec)

/-- 'kistlaw07.CutGears', WHERE WHAT IT READS IS OF BULK AT MOST 1048576: true; the input reads as it did. -/
def cutGearsUptoRow : OpenClaim := { program := "ytgfmpgflbphpcaa", sum := "0da20ec06a01c45c3a1ceb3d134b80c7253548a0f3fff4c869355acc4c80ff2c", func := "kist/kistlaw07.CutGears", spec := "cutGears", apart := false, narrowed := true }
def CutGearsUptoSaid : Prop := cutGearsUptoRow.holds Try.pinned (OpenSpec.upto cutGearsSpec)

/-- 'kistlaw07.CutAgain', WHERE WHAT IT READS IS OF BULK AT MOST 1048576: true; the input reads as it did. -/
def cutAgainUptoRow : OpenClaim := { program := "ytgfmpgflbphpcaa", sum := "0da20ec06a01c45c3a1ceb3d134b80c7253548a0f3fff4c869355acc4c80ff2c", func := "kist/kistlaw07.CutAgain", spec := "cutAgain", apart := false, narrowed := true }
def CutAgainUptoSaid : Prop := cutAgainUptoRow.holds Try.pinned (OpenSpec.upto cutAgainSpec)

/-- 'kistlaw07.CutEnds', WHERE WHAT IT READS IS OF BULK AT MOST 1048576: true; the input reads as it did. -/
def cutEndsUptoRow : OpenClaim := { program := "ytgfmpgflbphpcaa", sum := "0da20ec06a01c45c3a1ceb3d134b80c7253548a0f3fff4c869355acc4c80ff2c", func := "kist/kistlaw07.CutEnds", spec := "cutEnds", apart := false, narrowed := true }
def CutEndsUptoSaid : Prop := cutEndsUptoRow.holds Try.pinned (OpenSpec.upto cutEndsSpec)

/-- 'kistlaw07.CutWhole', WHERE WHAT IT READS IS OF BULK AT MOST 1048576: true; the input reads as it did. -/
def cutWholeUptoRow : OpenClaim := { program := "ytgfmpgflbphpcaa", sum := "0da20ec06a01c45c3a1ceb3d134b80c7253548a0f3fff4c869355acc4c80ff2c", func := "kist/kistlaw07.CutWhole", spec := "cutWhole", apart := false, narrowed := true }
def CutWholeUptoSaid : Prop := cutWholeUptoRow.holds Try.pinned (OpenSpec.upto cutWholeSpec)

end Rows
end Go.Proofs.Ytgfmpgflbphpcaa
