/-
  No cell of these rows narrows 'for every input' (looked for: loops, veiled, ifaces, maps, wideKeys, modest, calm, conditions, laid).
  DERIVED. THE GIVEN ROWS OF THIS SEAT. 5 by the template 'for every input the law returns true; each argument reads behind the call as it read before'; 0 by the template 'total and deterministic' (their statements: YtnjpibbmgbiofaaTotals.lean).
  GIVEN WITH THE SEED: the statements are not yours to turn. If you find one false, say at which input.
  Laid BY PROGRAM, IN A SANDBOX (cutbox-rows.mjs): the forced cells as the released guide's own fill.sh prints them over the translation a690b9e9e7963846… (all of the seat's roots in one cut). By AI agents, Wed Nov 11 2026. No macro, syntax, notation, axiom, sorry.
-/
import Derived.Test.YtnjpibbmgbiofaaChecked
import GoSem.Claim
import GoSem.ClaimJoined
import GoSem.ClaimMapViews
import Derived.JoinedTies
import Derived.KernelRfl
namespace Go.Proofs.Ytnjpibbmgbiofaa
/- THE CELL 'sum', in the pinned program and in every row, IS THE sha256 OF THE DUMP (.gsa) THAT YtnjpibbmgbiofaaProg.lean LOADS. Nothing in Lean hashes anything: it is a label: what it is worth is what the hold of that sum in a sandbox is worth. -/
noncomputable def Try.pinned : Pinned := { name := "ytnjpibbmgbiofaa", sum := "a690b9e9e7963846f7ecf78fb012527cd9922b1437a18104f61f5f278ea09b57", checked := Try.checked }
namespace Rows
def none {H : Type} : Left H := { results := [], args := [] }

/-- 'kistlaw14.NodePuts': WHATEVER THE INPUT: true; the input reads as it did. -/
def nodePutsSpec : ChangeSpec := { name := "nodePuts", fn := fun _ => fun
  | [d] => { results := [.lit (.bool true)], args := [d] }
  | _ => none }
def nodePutsRow : OpenClaim := { program := "ytnjpibbmgbiofaa", sum := "a690b9e9e7963846f7ecf78fb012527cd9922b1437a18104f61f5f278ea09b57", func := "kist/kistlaw14.NodePuts", spec := "nodePuts", unfollowed := true, recurses := true, apart := false }
def NodePutsSaid : Prop := nodePutsRow.holds Try.pinned (OpenSpec.ofChange nodePutsSpec)

/-- ITS FALSE NEIGHBOUR: 'it returns false'. Refute it at one input. -/
def nodePutsWrong : ChangeSpec := { name := "nodePuts", fn := fun _ => fun
  | [d] => { results := [.lit (.bool false)], args := [d] }
  | _ => none }
def NodePutsWrongFalsely : Prop := nodePutsRow.holds Try.pinned (OpenSpec.ofChange nodePutsWrong)

/-- 'kistlaw14.NodeGets': WHATEVER THE INPUT: true; the input reads as it did. -/
def nodeGetsSpec : ChangeSpec := { name := "nodeGets", fn := fun _ => fun
  | [d] => { results := [.lit (.bool true)], args := [d] }
  | _ => none }
def nodeGetsRow : OpenClaim := { program := "ytnjpibbmgbiofaa", sum := "a690b9e9e7963846f7ecf78fb012527cd9922b1437a18104f61f5f278ea09b57", func := "kist/kistlaw14.NodeGets", spec := "nodeGets", unfollowed := true, recurses := true, apart := false }
def NodeGetsSaid : Prop := nodeGetsRow.holds Try.pinned (OpenSpec.ofChange nodeGetsSpec)

/-- ITS FALSE NEIGHBOUR: 'it returns false'. Refute it at one input. -/
def nodeGetsWrong : ChangeSpec := { name := "nodeGets", fn := fun _ => fun
  | [d] => { results := [.lit (.bool false)], args := [d] }
  | _ => none }
def NodeGetsWrongFalsely : Prop := nodeGetsRow.holds Try.pinned (OpenSpec.ofChange nodeGetsWrong)

/-- 'kistlaw14.NodeApart': WHATEVER THE INPUT: true; the input reads as it did. -/
def nodeApartSpec : ChangeSpec := { name := "nodeApart", fn := fun _ => fun
  | [d1, d2] => { results := [.lit (.bool true)], args := [d1, d2] }
  | _ => none }
def nodeApartRow : OpenClaim := { program := "ytnjpibbmgbiofaa", sum := "a690b9e9e7963846f7ecf78fb012527cd9922b1437a18104f61f5f278ea09b57", func := "kist/kistlaw14.NodeApart", spec := "nodeApart", unfollowed := true, recurses := true, apart := false }
def NodeApartSaid : Prop := nodeApartRow.holds Try.pinned (OpenSpec.ofChange nodeApartSpec)

/-- ITS FALSE NEIGHBOUR: 'it returns false'. Refute it at one input. -/
def nodeApartWrong : ChangeSpec := { name := "nodeApart", fn := fun _ => fun
  | [d1, d2] => { results := [.lit (.bool false)], args := [d1, d2] }
  | _ => none }
def NodeApartWrongFalsely : Prop := nodeApartRow.holds Try.pinned (OpenSpec.ofChange nodeApartWrong)

/-- 'kistlaw14.NodeHalves': WHATEVER THE INPUT: true; the input reads as it did. -/
def nodeHalvesSpec : ChangeSpec := { name := "nodeHalves", fn := fun _ => fun
  | [d] => { results := [.lit (.bool true)], args := [d] }
  | _ => none }
def nodeHalvesRow : OpenClaim := { program := "ytnjpibbmgbiofaa", sum := "a690b9e9e7963846f7ecf78fb012527cd9922b1437a18104f61f5f278ea09b57", func := "kist/kistlaw14.NodeHalves", spec := "nodeHalves", unfollowed := true, recurses := true, apart := false }
def NodeHalvesSaid : Prop := nodeHalvesRow.holds Try.pinned (OpenSpec.ofChange nodeHalvesSpec)

/-- ITS FALSE NEIGHBOUR: 'it returns false'. Refute it at one input. -/
def nodeHalvesWrong : ChangeSpec := { name := "nodeHalves", fn := fun _ => fun
  | [d] => { results := [.lit (.bool false)], args := [d] }
  | _ => none }
def NodeHalvesWrongFalsely : Prop := nodeHalvesRow.holds Try.pinned (OpenSpec.ofChange nodeHalvesWrong)

/-- 'kistlaw14.NodeSplits': WHATEVER THE INPUT: true; the input reads as it did. -/
def nodeSplitsSpec : ChangeSpec := { name := "nodeSplits", fn := fun _ => fun
  | [d] => { results := [.lit (.bool true)], args := [d] }
  | _ => none }
def nodeSplitsRow : OpenClaim := { program := "ytnjpibbmgbiofaa", sum := "a690b9e9e7963846f7ecf78fb012527cd9922b1437a18104f61f5f278ea09b57", func := "kist/kistlaw14.NodeSplits", spec := "nodeSplits", unfollowed := true, recurses := true, apart := false }
def NodeSplitsSaid : Prop := nodeSplitsRow.holds Try.pinned (OpenSpec.ofChange nodeSplitsSpec)

/-- ITS FALSE NEIGHBOUR: 'it returns false'. Refute it at one input. -/
def nodeSplitsWrong : ChangeSpec := { name := "nodeSplits", fn := fun _ => fun
  | [d] => { results := [.lit (.bool false)], args := [d] }
  | _ => none }
def NodeSplitsWrongFalsely : Prop := nodeSplitsRow.holds Try.pinned (OpenSpec.ofChange nodeSplitsWrong)

/- THE SECOND FORM. 'bulk': how many values and letters a reading holds, each counted each time it is reached (what is shared counts as often as it is met; a slice's spare places count too). A statement '..UptoSaid' is the law's where the arguments, and the package variables that the reading takes, are together of bulk at most 1048576: NARROWER than '..Said'. Prove '..Said' where nothing that the law and all that it calls make is longer than what came in: it says more and counts as full. Else prove '..UptoSaid'. A law counts once. -/
mutual
def uptoBulk {H : Type} : DataW H → Nat
  | .lit (.string bytes) => bytes.length + 1
  | .lit _ => 1
  | .nil => 1
  | .ptr d => uptoBulk d + 1
  | .slice elems spare => uptoBulkAll elems + uptoBulkAll spare + 1
  | .agg parts => uptoBulkAll parts + 1
  | .iface _ d => uptoBulk d + 1
  | .map entries => uptoBulkEntries entries + 1
  | .held _ => 1
def uptoBulkAll {H : Type} : List (DataW H) → Nat
  | [] => 0
  | d :: r => uptoBulk d + uptoBulkAll r
def uptoBulkEntries {H : Type} : List (Lit × DataW H) → Nat
  | [] => 0
  | x :: r => uptoBulkEntry x + uptoBulkEntries r
def uptoBulkEntry {H : Type} : Lit × DataW H → Nat
  | (.string bytes, d) => bytes.length + uptoBulk d + 1
  | (_, d) => uptoBulk d + 1
 end
def uptoSmall : (H : Type) → List (DataW H) → Bool := fun _ ds => decide (uptoBulkAll ds ≤ 1048576)
def OpenSpec.upto (s : _root_.Go.ChangeSpec) : _root_.Go.OpenSpec := { _root_.Go.OpenSpec.ofChange s with cond := some uptoSmall }

/-- 'kistlaw14.NodePuts', WHERE WHAT IT READS IS OF BULK AT MOST 1048576: true; the input reads as it did. -/
def nodePutsUptoRow : OpenClaim := { program := "ytnjpibbmgbiofaa", sum := "a690b9e9e7963846f7ecf78fb012527cd9922b1437a18104f61f5f278ea09b57", func := "kist/kistlaw14.NodePuts", spec := "nodePuts", unfollowed := true, recurses := true, apart := false, narrowed := true }
def NodePutsUptoSaid : Prop := nodePutsUptoRow.holds Try.pinned (OpenSpec.upto nodePutsSpec)

/-- 'kistlaw14.NodeGets', WHERE WHAT IT READS IS OF BULK AT MOST 1048576: true; the input reads as it did. -/
def nodeGetsUptoRow : OpenClaim := { program := "ytnjpibbmgbiofaa", sum := "a690b9e9e7963846f7ecf78fb012527cd9922b1437a18104f61f5f278ea09b57", func := "kist/kistlaw14.NodeGets", spec := "nodeGets", unfollowed := true, recurses := true, apart := false, narrowed := true }
def NodeGetsUptoSaid : Prop := nodeGetsUptoRow.holds Try.pinned (OpenSpec.upto nodeGetsSpec)

/-- 'kistlaw14.NodeApart', WHERE WHAT IT READS IS OF BULK AT MOST 1048576: true; the input reads as it did. -/
def nodeApartUptoRow : OpenClaim := { program := "ytnjpibbmgbiofaa", sum := "a690b9e9e7963846f7ecf78fb012527cd9922b1437a18104f61f5f278ea09b57", func := "kist/kistlaw14.NodeApart", spec := "nodeApart", unfollowed := true, recurses := true, apart := false, narrowed := true }
def NodeApartUptoSaid : Prop := nodeApartUptoRow.holds Try.pinned (OpenSpec.upto nodeApartSpec)

/-- 'kistlaw14.NodeHalves', WHERE WHAT IT READS IS OF BULK AT MOST 1048576: true; the input reads as it did. -/
def nodeHalvesUptoRow : OpenClaim := { program := "ytnjpibbmgbiofaa", sum := "a690b9e9e7963846f7ecf78fb012527cd9922b1437a18104f61f5f278ea09b57", func := "kist/kistlaw14.NodeHalves", spec := "nodeHalves", unfollowed := true, recurses := true, apart := false, narrowed := true }
def NodeHalvesUptoSaid : Prop := nodeHalvesUptoRow.holds Try.pinned (OpenSpec.upto nodeHalvesSpec)

/-- 'kistlaw14.NodeSplits', WHERE WHAT IT READS IS OF BULK AT MOST 1048576: true; the input reads as it did. -/
def nodeSplitsUptoRow : OpenClaim := { program := "ytnjpibbmgbiofaa", sum := "a690b9e9e7963846f7ecf78fb012527cd9922b1437a18104f61f5f278ea09b57", func := "kist/kistlaw14.NodeSplits", spec := "nodeSplits", unfollowed := true, recurses := true, apart := false, narrowed := true }
def NodeSplitsUptoSaid : Prop := nodeSplitsUptoRow.holds Try.pinned (OpenSpec.upto nodeSplitsSpec)

end Rows
end Go.Proofs.Ytnjpibbmgbiofaa
