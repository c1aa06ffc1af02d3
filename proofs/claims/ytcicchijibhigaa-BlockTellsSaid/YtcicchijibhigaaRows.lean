/-
  No cell of these rows narrows 'for every input' (looked for: loops, veiled, ifaces, maps, wideKeys, modest, calm, conditions, laid).
  DERIVED. THE GIVEN ROWS OF THIS SEAT. 10 by the template 'for every input the law returns true; each argument reads behind the call as it read before'; 0 by the template 'total and deterministic' (their statements: YtcicchijibhigaaTotals.lean).
  GIVEN WITH THE SEED: the statements are not yours to turn. If you find one false, say at which input.
  Laid BY PROGRAM, IN A SANDBOX (cutbox-rows.mjs): the forced cells as the released guide's own fill.sh prints them over the translation b6b5947d8b52de7f… (all of the seat's roots in one cut). By AI agents, Wed Nov 11 2026. No macro, syntax, notation, axiom, sorry.
-/
import Derived.Test.YtcicchijibhigaaChecked
import GoSem.Claim
import GoSem.ClaimJoined
import GoSem.ClaimMapViews
import Derived.JoinedTies
import Derived.KernelRfl
namespace Go.Proofs.Ytcicchijibhigaa
/- THE CELL 'sum', in the pinned program and in every row, IS THE sha256 OF THE DUMP (.gsa) THAT YtcicchijibhigaaProg.lean LOADS. Nothing in Lean hashes anything: it is a label: what it is worth is what the hold of that sum in a sandbox is worth. -/
noncomputable def Try.pinned : Pinned := { name := "ytcicchijibhigaa", sum := "b6b5947d8b52de7f81a00d24a465eaa967bdd88e9b54d7997613417b9e9e403c", checked := Try.checked }
namespace Rows
def none {H : Type} : Left H := { results := [], args := [] }

/-- 'kistlaw09.BlockPuts': WHATEVER THE INPUT: true; the input reads as it did. -/
def blockPutsSpec : ChangeSpec := { name := "blockPuts", fn := fun _ => fun
  | [d1, d2, d3] => { results := [.lit (.bool true)], args := [d1, d2, d3] }
  | _ => none }
def blockPutsRow : OpenClaim := { program := "ytcicchijibhigaa", sum := "b6b5947d8b52de7f81a00d24a465eaa967bdd88e9b54d7997613417b9e9e403c", func := "kist/kistlaw09.BlockPuts", spec := "blockPuts", apart := false }
def BlockPutsSaid : Prop := blockPutsRow.holds Try.pinned (OpenSpec.ofChange blockPutsSpec)

/-- ITS FALSE NEIGHBOUR: 'it returns false'. Refute it at one input. -/
def blockPutsWrong : ChangeSpec := { name := "blockPuts", fn := fun _ => fun
  | [d1, d2, d3] => { results := [.lit (.bool false)], args := [d1, d2, d3] }
  | _ => none }
def BlockPutsWrongFalsely : Prop := blockPutsRow.holds Try.pinned (OpenSpec.ofChange blockPutsWrong)

/-- 'kistlaw09.BlockGets': WHATEVER THE INPUT: true; the input reads as it did. -/
def blockGetsSpec : ChangeSpec := { name := "blockGets", fn := fun _ => fun
  | [d1, d2] => { results := [.lit (.bool true)], args := [d1, d2] }
  | _ => none }
def blockGetsRow : OpenClaim := { program := "ytcicchijibhigaa", sum := "b6b5947d8b52de7f81a00d24a465eaa967bdd88e9b54d7997613417b9e9e403c", func := "kist/kistlaw09.BlockGets", spec := "blockGets", apart := false }
def BlockGetsSaid : Prop := blockGetsRow.holds Try.pinned (OpenSpec.ofChange blockGetsSpec)

/-- ITS FALSE NEIGHBOUR: 'it returns false'. Refute it at one input. -/
def blockGetsWrong : ChangeSpec := { name := "blockGets", fn := fun _ => fun
  | [d1, d2] => { results := [.lit (.bool false)], args := [d1, d2] }
  | _ => none }
def BlockGetsWrongFalsely : Prop := blockGetsRow.holds Try.pinned (OpenSpec.ofChange blockGetsWrong)

/-- 'kistlaw09.BlockSums': WHATEVER THE INPUT: true; the input reads as it did. -/
def blockSumsSpec : ChangeSpec := { name := "blockSums", fn := fun _ => fun
  | [d1, d2] => { results := [.lit (.bool true)], args := [d1, d2] }
  | _ => none }
def blockSumsRow : OpenClaim := { program := "ytcicchijibhigaa", sum := "b6b5947d8b52de7f81a00d24a465eaa967bdd88e9b54d7997613417b9e9e403c", func := "kist/kistlaw09.BlockSums", spec := "blockSums", apart := false }
def BlockSumsSaid : Prop := blockSumsRow.holds Try.pinned (OpenSpec.ofChange blockSumsSpec)

/-- ITS FALSE NEIGHBOUR: 'it returns false'. Refute it at one input. -/
def blockSumsWrong : ChangeSpec := { name := "blockSums", fn := fun _ => fun
  | [d1, d2] => { results := [.lit (.bool false)], args := [d1, d2] }
  | _ => none }
def BlockSumsWrongFalsely : Prop := blockSumsRow.holds Try.pinned (OpenSpec.ofChange blockSumsWrong)

/-- 'kistlaw09.BlockTells': WHATEVER THE INPUT: true; the input reads as it did. -/
def blockTellsSpec : ChangeSpec := { name := "blockTells", fn := fun _ => fun
  | [d1, d2, d3, d4] => { results := [.lit (.bool true)], args := [d1, d2, d3, d4] }
  | _ => none }
def blockTellsRow : OpenClaim := { program := "ytcicchijibhigaa", sum := "b6b5947d8b52de7f81a00d24a465eaa967bdd88e9b54d7997613417b9e9e403c", func := "kist/kistlaw09.BlockTells", spec := "blockTells", apart := false }
def BlockTellsSaid : Prop := blockTellsRow.holds Try.pinned (OpenSpec.ofChange blockTellsSpec)

/-- ITS FALSE NEIGHBOUR: 'it returns false'. Refute it at one input. -/
def blockTellsWrong : ChangeSpec := { name := "blockTells", fn := fun _ => fun
  | [d1, d2, d3, d4] => { results := [.lit (.bool false)], args := [d1, d2, d3, d4] }
  | _ => none }
def BlockTellsWrongFalsely : Prop := blockTellsRow.holds Try.pinned (OpenSpec.ofChange blockTellsWrong)

/-- 'kistlaw09.BlockOwns': WHATEVER THE INPUT: true; the input reads as it did. -/
def blockOwnsSpec : ChangeSpec := { name := "blockOwns", fn := fun _ => fun
  | [d1, d2] => { results := [.lit (.bool true)], args := [d1, d2] }
  | _ => none }
def blockOwnsRow : OpenClaim := { program := "ytcicchijibhigaa", sum := "b6b5947d8b52de7f81a00d24a465eaa967bdd88e9b54d7997613417b9e9e403c", func := "kist/kistlaw09.BlockOwns", spec := "blockOwns", apart := false }
def BlockOwnsSaid : Prop := blockOwnsRow.holds Try.pinned (OpenSpec.ofChange blockOwnsSpec)

/-- ITS FALSE NEIGHBOUR: 'it returns false'. Refute it at one input. -/
def blockOwnsWrong : ChangeSpec := { name := "blockOwns", fn := fun _ => fun
  | [d1, d2] => { results := [.lit (.bool false)], args := [d1, d2] }
  | _ => none }
def BlockOwnsWrongFalsely : Prop := blockOwnsRow.holds Try.pinned (OpenSpec.ofChange blockOwnsWrong)

/-- 'kistlaw09.BlockApart': WHATEVER THE INPUT: true; the input reads as it did. -/
def blockApartSpec : ChangeSpec := { name := "blockApart", fn := fun _ => fun
  | [d1, d2, d3, d4] => { results := [.lit (.bool true)], args := [d1, d2, d3, d4] }
  | _ => none }
def blockApartRow : OpenClaim := { program := "ytcicchijibhigaa", sum := "b6b5947d8b52de7f81a00d24a465eaa967bdd88e9b54d7997613417b9e9e403c", func := "kist/kistlaw09.BlockApart", spec := "blockApart", apart := false }
def BlockApartSaid : Prop := blockApartRow.holds Try.pinned (OpenSpec.ofChange blockApartSpec)

/-- ITS FALSE NEIGHBOUR: 'it returns false'. Refute it at one input. -/
def blockApartWrong : ChangeSpec := { name := "blockApart", fn := fun _ => fun
  | [d1, d2, d3, d4] => { results := [.lit (.bool false)], args := [d1, d2, d3, d4] }
  | _ => none }
def BlockApartWrongFalsely : Prop := blockApartRow.holds Try.pinned (OpenSpec.ofChange blockApartWrong)

/-- 'kistlaw05.SumsCrc': WHATEVER THE INPUT: true; the input reads as it did. -/
def sumsCrcSpec : ChangeSpec := { name := "sumsCrc", fn := fun _ => fun
  | [d] => { results := [.lit (.bool true)], args := [d] }
  | _ => none }
def sumsCrcRow : OpenClaim := { program := "ytcicchijibhigaa", sum := "b6b5947d8b52de7f81a00d24a465eaa967bdd88e9b54d7997613417b9e9e403c", func := "kist/kistlaw05.SumsCrc", spec := "sumsCrc", apart := false }
def SumsCrcSaid : Prop := sumsCrcRow.holds Try.pinned (OpenSpec.ofChange sumsCrcSpec)

/-- ITS FALSE NEIGHBOUR: 'it returns false'. Refute it at one input. -/
def sumsCrcWrong : ChangeSpec := { name := "sumsCrc", fn := fun _ => fun
  | [d] => { results := [.lit (.bool false)], args := [d] }
  | _ => none }
def SumsCrcWrongFalsely : Prop := sumsCrcRow.holds Try.pinned (OpenSpec.ofChange sumsCrcWrong)

/-- 'kistlaw05.SumsSha': WHATEVER THE INPUT: true; the input reads as it did. -/
def sumsShaSpec : ChangeSpec := { name := "sumsSha", fn := fun _ => fun
  | [d] => { results := [.lit (.bool true)], args := [d] }
  | _ => none }
def sumsShaRow : OpenClaim := { program := "ytcicchijibhigaa", sum := "b6b5947d8b52de7f81a00d24a465eaa967bdd88e9b54d7997613417b9e9e403c", func := "kist/kistlaw05.SumsSha", spec := "sumsSha", apart := false }
def SumsShaSaid : Prop := sumsShaRow.holds Try.pinned (OpenSpec.ofChange sumsShaSpec)

/-- ITS FALSE NEIGHBOUR: 'it returns false'. Refute it at one input. -/
def sumsShaWrong : ChangeSpec := { name := "sumsSha", fn := fun _ => fun
  | [d] => { results := [.lit (.bool false)], args := [d] }
  | _ => none }
def SumsShaWrongFalsely : Prop := sumsShaRow.holds Try.pinned (OpenSpec.ofChange sumsShaWrong)

/-- 'kistlaw05.SumsBursts': WHATEVER THE INPUT: true; the input reads as it did. -/
def sumsBurstsSpec : ChangeSpec := { name := "sumsBursts", fn := fun _ => fun
  | [d1, d2, d3] => { results := [.lit (.bool true)], args := [d1, d2, d3] }
  | _ => none }
def sumsBurstsRow : OpenClaim := { program := "ytcicchijibhigaa", sum := "b6b5947d8b52de7f81a00d24a465eaa967bdd88e9b54d7997613417b9e9e403c", func := "kist/kistlaw05.SumsBursts", spec := "sumsBursts", apart := false }
def SumsBurstsSaid : Prop := sumsBurstsRow.holds Try.pinned (OpenSpec.ofChange sumsBurstsSpec)

/-- ITS FALSE NEIGHBOUR: 'it returns false'. Refute it at one input. -/
def sumsBurstsWrong : ChangeSpec := { name := "sumsBursts", fn := fun _ => fun
  | [d1, d2, d3] => { results := [.lit (.bool false)], args := [d1, d2, d3] }
  | _ => none }
def SumsBurstsWrongFalsely : Prop := sumsBurstsRow.holds Try.pinned (OpenSpec.ofChange sumsBurstsWrong)

/-- 'kistlaw05.SumsStay': WHATEVER THE INPUT: true; the input reads as it did. -/
def sumsStaySpec : ChangeSpec := { name := "sumsStay", fn := fun _ => fun
  | [d] => { results := [.lit (.bool true)], args := [d] }
  | _ => none }
def sumsStayRow : OpenClaim := { program := "ytcicchijibhigaa", sum := "b6b5947d8b52de7f81a00d24a465eaa967bdd88e9b54d7997613417b9e9e403c", func := "kist/kistlaw05.SumsStay", spec := "sumsStay", apart := false }
def SumsStaySaid : Prop := sumsStayRow.holds Try.pinned (OpenSpec.ofChange sumsStaySpec)

/-- ITS FALSE NEIGHBOUR: 'it returns false'. Refute it at one input. -/
def sumsStayWrong : ChangeSpec := { name := "sumsStay", fn := fun _ => fun
  | [d] => { results := [.lit (.bool false)], args := [d] }
  | _ => none }
def SumsStayWrongFalsely : Prop := sumsStayRow.holds Try.pinned (OpenSpec.ofChange sumsStayWrong)

/- THE SECOND FORM. 'bulk': how many values and letters a reading holds, each counted each time it is reached (what is shared counts as often as it is met; a slice's spare places count too). A statement '..UptoSaid' is the law's where the arguments, and the package variables that the reading takes, are together of bulk at most 1048576: NARROWER than '..Said'. Prove '..Said' where nothing that the law and all that it calls make is longer than what came in: it says more and counts as full. Else prove '..UptoSaid'. A law counts once. -/
mutual
def uptoBulk {H : Type} : DataW H → Nat
  | .lit (.string bytes) => bytes.length + 1
  | .lit _ => 1
  | .nil => 1
  | .ptr d => uptoBulk d + 1
  | .slice elems spare => uptoBulkAll elems + uptoBulkAll spare + 1
  | .agg parts => uptoBulkAll parts + 1
  | .iface _ d => uptoBulk d + 1
  | .map entries => uptoBulkEntries entries + 1
  | .held _ => 1
def uptoBulkAll {H : Type} : List (DataW H) → Nat
  | [] => 0
  | d :: r => uptoBulk d + uptoBulkAll r
def uptoBulkEntries {H : Type} : List (Lit × DataW H) → Nat
  | [] => 0
  | x :: r => uptoBulkEntry x + uptoBulkEntries r
def uptoBulkEntry {H : Type} : Lit × DataW H → Nat
  | (.string bytes, d) => bytes.length + uptoBulk d + 1
  | (_, d) => uptoBulk d + 1
 end
def uptoSmall : (H : Type) → List (DataW H) → Bool := fun _ ds => decide (uptoBulkAll ds ≤ 1048576)
def OpenSpec.upto (s : _root_.Go.ChangeSpec) : _root_.Go.OpenSpec := { _root_.Go.OpenSpec.ofChange s with cond := some uptoSmall }

/-- 'kistlaw09.BlockPuts', WHERE WHAT IT READS IS OF BULK AT MOST 1048576: true; the input reads as it did. -/
def blockPutsUptoRow : OpenClaim := { program := "ytcicchijibhigaa", sum := "b6b5947d8b52de7f81a00d24a465eaa967bdd88e9b54d7997613417b9e9e403c", func := "kist/kistlaw09.BlockPuts", spec := "blockPuts", apart := false, narrowed := true }
def BlockPutsUptoSaid : Prop := blockPutsUptoRow.holds Try.pinned (OpenSpec.upto blockPutsSpec)

/-- 'kistlaw09.BlockGets', WHERE WHAT IT READS IS OF BULK AT MOST 1048576: true; the input reads as it did. -/
def blockGetsUptoRow : OpenClaim := { program := "ytcicchijibhigaa", sum := "b6b5947d8b52de7f81a00d24a465eaa967bdd88e9b54d7997613417b9e9e403c", func := "kist/kistlaw09.BlockGets", spec := "blockGets", apart := false, narrowed := true }
def BlockGetsUptoSaid : Prop := blockGetsUptoRow.holds Try.pinned (OpenSpec.upto blockGetsSpec)

/-- 'kistlaw09.BlockSums', WHERE WHAT IT READS IS OF BULK AT MOST 1048576: true; the input reads as it did. -/
def blockSumsUptoRow : OpenClaim := { program := "ytcicchijibhigaa", sum := "b6b5947d8b52de7f81a00d24a465eaa967bdd88e9b54d7997613417b9e9e403c", func := "kist/kistlaw09.BlockSums", spec := "blockSums", apart := false, narrowed := true }
def BlockSumsUptoSaid : Prop := blockSumsUptoRow.holds Try.pinned (OpenSpec.upto blockSumsSpec)

/-- 'kistlaw09.BlockTells', WHERE WHAT IT READS IS OF BULK AT MOST 1048576: true; the input reads as it did. -/
def blockTellsUptoRow : OpenClaim := { program := "ytcicchijibhigaa", sum := "b6b5947d8b52de7f81a00d24a465eaa967bdd88e9b54d7997613417b9e9e403c", func := "kist/kistlaw09.BlockTells", spec := "blockTells", apart := false, narrowed := true }
def BlockTellsUptoSaid : Prop := blockTellsUptoRow.holds Try.pinned (OpenSpec.upto blockTellsSpec)

/-- 'kistlaw09.BlockOwns', WHERE WHAT IT READS IS OF BULK AT MOST 1048576: true; the input reads as it did. -/
def blockOwnsUptoRow : OpenClaim := { program := "ytcicchijibhigaa", sum := "b6b5947d8b52de7f81a00d24a465eaa967bdd88e9b54d7997613417b9e9e403c", func := "kist/kistlaw09.BlockOwns", spec := "blockOwns", apart := false, narrowed := true }
def BlockOwnsUptoSaid : Prop := blockOwnsUptoRow.holds Try.pinned (OpenSpec.upto blockOwnsSpec)

/-- 'kistlaw09.BlockApart', WHERE WHAT IT READS IS OF BULK AT MOST 1048576: true; the input reads as it did. -/
def blockApartUptoRow : OpenClaim := { program := "ytcicchijibhigaa", sum := "b6b5947d8b52de7f81a00d24a465eaa967bdd88e9b54d7997613417b9e9e403c", func := "kist/kistlaw09.BlockApart", spec := "blockApart", apart := false, narrowed := true }
def BlockApartUptoSaid : Prop := blockApartUptoRow.holds Try.pinned (OpenSpec.upto blockApartSpec)

/-- 'kistlaw05.SumsCrc', WHERE WHAT IT READS IS OF BULK AT MOST 1048576: true; the input reads as it did. -/
def sumsCrcUptoRow : OpenClaim := { program := "ytcicchijibhigaa", sum := "b6b5947d8b52de7f81a00d24a465eaa967bdd88e9b54d7997613417b9e9e403c", func := "kist/kistlaw05.SumsCrc", spec := "sumsCrc", apart := false, narrowed := true }
def SumsCrcUptoSaid : Prop := sumsCrcUptoRow.holds Try.pinned (OpenSpec.upto sumsCrcSpec)

/-- 'kistlaw05.SumsSha', WHERE WHAT IT READS IS OF BULK AT MOST 1048576: true; the input reads as it did. -/
def sumsShaUptoRow : OpenClaim := { program := "ytcicchijibhigaa", sum := "b6b5947d8b52de7f81a00d24a465eaa967bdd88e9b54d7997613417b9e9e403c", func := "kist/kistlaw05.SumsSha", spec := "sumsSha", apart := false, narrowed := true }
def SumsShaUptoSaid : Prop := sumsShaUptoRow.holds Try.pinned (OpenSpec.upto sumsShaSpec)

/-- 'kistlaw05.SumsBursts', WHERE WHAT IT READS IS OF BULK AT MOST 1048576: true; the input reads as it did. -/
def sumsBurstsUptoRow : OpenClaim := { program := "ytcicchijibhigaa", sum := "b6b5947d8b52de7f81a00d24a465eaa967bdd88e9b54d7997613417b9e9e403c", func := "kist/kistlaw05.SumsBursts", spec := "sumsBursts", apart := false, narrowed := true }
def SumsBurstsUptoSaid : Prop := sumsBurstsUptoRow.holds Try.pinned (OpenSpec.upto sumsBurstsSpec)

/-- 'kistlaw05.SumsStay', WHERE WHAT IT READS IS OF BULK AT MOST 1048576: true; the input reads as it did. -/
def sumsStayUptoRow : OpenClaim := { program := "ytcicchijibhigaa", sum := "b6b5947d8b52de7f81a00d24a465eaa967bdd88e9b54d7997613417b9e9e403c", func := "kist/kistlaw05.SumsStay", spec := "sumsStay", apart := false, narrowed := true }
def SumsStayUptoSaid : Prop := sumsStayUptoRow.holds Try.pinned (OpenSpec.upto sumsStaySpec)

end Rows
end Go.Proofs.Ytcicchijibhigaa
