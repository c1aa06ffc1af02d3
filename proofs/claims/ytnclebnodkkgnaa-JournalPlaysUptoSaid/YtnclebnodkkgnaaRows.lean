/-
  No cell of these rows narrows 'for every input' (looked for: loops, veiled, ifaces, maps, wideKeys, modest, calm, conditions, laid).
  DERIVED. THE GIVEN ROWS OF THIS SEAT. 11 by the template 'for every input the law returns true; each argument reads behind the call as it read before'; 0 by the template 'total and deterministic' (their statements: YtnclebnodkkgnaaTotals.lean).
  GIVEN WITH THE SEED: the statements are not yours to turn. If you find one false, say at which input.
  Laid BY PROGRAM, IN A SANDBOX (cutbox-rows.mjs): the forced cells as the released guide's own fill.sh prints them over the translation 4f832bb4cb805c14… (all of the seat's roots in one cut). By AI agents, Wed Nov 11 2026. No macro, syntax, notation, axiom, sorry.
-/
import Derived.Test.YtnclebnodkkgnaaChecked
import GoSem.Claim
import GoSem.ClaimJoined
import GoSem.ClaimMapViews
import Derived.JoinedTies
import Derived.KernelRfl
namespace Go.Proofs.Ytnclebnodkkgnaa
/- THE CELL 'sum', in the pinned program and in every row, IS THE sha256 OF THE DUMP (.gsa) THAT YtnclebnodkkgnaaProg.lean LOADS. Nothing in Lean hashes anything: it is a label: what it is worth is what the hold of that sum in a sandbox is worth. -/
noncomputable def Try.pinned : Pinned := { name := "ytnclebnodkkgnaa", sum := "4f832bb4cb805c14359345729cd17ad81f1084031e93e44909e249e1531e0c41", checked := Try.checked }
namespace Rows
def none {H : Type} : Left H := { results := [], args := [] }

/-- 'kistlaw11.JournalRots': WHATEVER THE INPUT: true; the input reads as it did. -/
def journalRotsSpec : ChangeSpec := { name := "journalRots", fn := fun _ => fun
  | [d1, d2, d3] => { results := [.lit (.bool true)], args := [d1, d2, d3] }
  | _ => none }
def journalRotsRow : OpenClaim := { program := "ytnclebnodkkgnaa", sum := "4f832bb4cb805c14359345729cd17ad81f1084031e93e44909e249e1531e0c41", func := "kist/kistlaw11.JournalRots", spec := "journalRots", apart := false }
def JournalRotsSaid : Prop := journalRotsRow.holds Try.pinned (OpenSpec.ofChange journalRotsSpec)

/-- ITS FALSE NEIGHBOUR: 'it returns false'. Refute it at one input. -/
def journalRotsWrong : ChangeSpec := { name := "journalRots", fn := fun _ => fun
  | [d1, d2, d3] => { results := [.lit (.bool false)], args := [d1, d2, d3] }
  | _ => none }
def JournalRotsWrongFalsely : Prop := journalRotsRow.holds Try.pinned (OpenSpec.ofChange journalRotsWrong)

/-- 'kistlaw11.JournalForged': WHATEVER THE INPUT: true; the input reads as it did. -/
def journalForgedSpec : ChangeSpec := { name := "journalForged", fn := fun _ => fun
  | [d1, d2, d3, d4] => { results := [.lit (.bool true)], args := [d1, d2, d3, d4] }
  | _ => none }
def journalForgedRow : OpenClaim := { program := "ytnclebnodkkgnaa", sum := "4f832bb4cb805c14359345729cd17ad81f1084031e93e44909e249e1531e0c41", func := "kist/kistlaw11.JournalForged", spec := "journalForged", apart := false }
def JournalForgedSaid : Prop := journalForgedRow.holds Try.pinned (OpenSpec.ofChange journalForgedSpec)

/-- ITS FALSE NEIGHBOUR: 'it returns false'. Refute it at one input. -/
def journalForgedWrong : ChangeSpec := { name := "journalForged", fn := fun _ => fun
  | [d1, d2, d3, d4] => { results := [.lit (.bool false)], args := [d1, d2, d3, d4] }
  | _ => none }
def JournalForgedWrongFalsely : Prop := journalForgedRow.holds Try.pinned (OpenSpec.ofChange journalForgedWrong)

/-- 'kistlaw08.DiskKeeps': WHATEVER THE INPUT: true; the input reads as it did. -/
def diskKeepsSpec : ChangeSpec := { name := "diskKeeps", fn := fun _ => fun
  | [d1, d2, d3] => { results := [.lit (.bool true)], args := [d1, d2, d3] }
  | _ => none }
def diskKeepsRow : OpenClaim := { program := "ytnclebnodkkgnaa", sum := "4f832bb4cb805c14359345729cd17ad81f1084031e93e44909e249e1531e0c41", func := "kist/kistlaw08.DiskKeeps", spec := "diskKeeps", unfollowed := true, recurses := true, apart := false }
def DiskKeepsSaid : Prop := diskKeepsRow.holds Try.pinned (OpenSpec.ofChange diskKeepsSpec)

/-- ITS FALSE NEIGHBOUR: 'it returns false'. Refute it at one input. -/
def diskKeepsWrong : ChangeSpec := { name := "diskKeeps", fn := fun _ => fun
  | [d1, d2, d3] => { results := [.lit (.bool false)], args := [d1, d2, d3] }
  | _ => none }
def DiskKeepsWrongFalsely : Prop := diskKeepsRow.holds Try.pinned (OpenSpec.ofChange diskKeepsWrong)

/-- 'kistlaw08.DiskCuts': WHATEVER THE INPUT: true; the input reads as it did. -/
def diskCutsSpec : ChangeSpec := { name := "diskCuts", fn := fun _ => fun
  | [d1, d2] => { results := [.lit (.bool true)], args := [d1, d2] }
  | _ => none }
def diskCutsRow : OpenClaim := { program := "ytnclebnodkkgnaa", sum := "4f832bb4cb805c14359345729cd17ad81f1084031e93e44909e249e1531e0c41", func := "kist/kistlaw08.DiskCuts", spec := "diskCuts", unfollowed := true, recurses := true, apart := false }
def DiskCutsSaid : Prop := diskCutsRow.holds Try.pinned (OpenSpec.ofChange diskCutsSpec)

/-- ITS FALSE NEIGHBOUR: 'it returns false'. Refute it at one input. -/
def diskCutsWrong : ChangeSpec := { name := "diskCuts", fn := fun _ => fun
  | [d1, d2] => { results := [.lit (.bool false)], args := [d1, d2] }
  | _ => none }
def DiskCutsWrongFalsely : Prop := diskCutsRow.holds Try.pinned (OpenSpec.ofChange diskCutsWrong)

/-- 'kistlaw08.DiskPlays': WHATEVER THE INPUT: true; the input reads as it did. -/
def diskPlaysSpec : ChangeSpec := { name := "diskPlays", fn := fun _ => fun
  | [d1, d2] => { results := [.lit (.bool true)], args := [d1, d2] }
  | _ => none }
def diskPlaysRow : OpenClaim := { program := "ytnclebnodkkgnaa", sum := "4f832bb4cb805c14359345729cd17ad81f1084031e93e44909e249e1531e0c41", func := "kist/kistlaw08.DiskPlays", spec := "diskPlays", unfollowed := true, recurses := true, apart := false }
def DiskPlaysSaid : Prop := diskPlaysRow.holds Try.pinned (OpenSpec.ofChange diskPlaysSpec)

/-- ITS FALSE NEIGHBOUR: 'it returns false'. Refute it at one input. -/
def diskPlaysWrong : ChangeSpec := { name := "diskPlays", fn := fun _ => fun
  | [d1, d2] => { results := [.lit (.bool false)], args := [d1, d2] }
  | _ => none }
def DiskPlaysWrongFalsely : Prop := diskPlaysRow.holds Try.pinned (OpenSpec.ofChange diskPlaysWrong)

/-- 'kistlaw08.DiskElse': WHATEVER THE INPUT: true; the input reads as it did. -/
def diskElseSpec : ChangeSpec := { name := "diskElse", fn := fun _ => fun
  | [d1, d2] => { results := [.lit (.bool true)], args := [d1, d2] }
  | _ => none }
def diskElseRow : OpenClaim := { program := "ytnclebnodkkgnaa", sum := "4f832bb4cb805c14359345729cd17ad81f1084031e93e44909e249e1531e0c41", func := "kist/kistlaw08.DiskElse", spec := "diskElse", unfollowed := true, recurses := true, apart := false }
def DiskElseSaid : Prop := diskElseRow.holds Try.pinned (OpenSpec.ofChange diskElseSpec)

/-- ITS FALSE NEIGHBOUR: 'it returns false'. Refute it at one input. -/
def diskElseWrong : ChangeSpec := { name := "diskElse", fn := fun _ => fun
  | [d1, d2] => { results := [.lit (.bool false)], args := [d1, d2] }
  | _ => none }
def DiskElseWrongFalsely : Prop := diskElseRow.holds Try.pinned (OpenSpec.ofChange diskElseWrong)

/-- 'kistlaw08.DiskApart': WHATEVER THE INPUT: true; the input reads as it did. -/
def diskApartSpec : ChangeSpec := { name := "diskApart", fn := fun _ => fun
  | [d1, d2] => { results := [.lit (.bool true)], args := [d1, d2] }
  | _ => none }
def diskApartRow : OpenClaim := { program := "ytnclebnodkkgnaa", sum := "4f832bb4cb805c14359345729cd17ad81f1084031e93e44909e249e1531e0c41", func := "kist/kistlaw08.DiskApart", spec := "diskApart", unfollowed := true, recurses := true, apart := false }
def DiskApartSaid : Prop := diskApartRow.holds Try.pinned (OpenSpec.ofChange diskApartSpec)

/-- ITS FALSE NEIGHBOUR: 'it returns false'. Refute it at one input. -/
def diskApartWrong : ChangeSpec := { name := "diskApart", fn := fun _ => fun
  | [d1, d2] => { results := [.lit (.bool false)], args := [d1, d2] }
  | _ => none }
def DiskApartWrongFalsely : Prop := diskApartRow.holds Try.pinned (OpenSpec.ofChange diskApartWrong)

/-- 'kistlaw08.DiskAgain': WHATEVER THE INPUT: true; the input reads as it did. -/
def diskAgainSpec : ChangeSpec := { name := "diskAgain", fn := fun _ => fun
  | [d1, d2, d3] => { results := [.lit (.bool true)], args := [d1, d2, d3] }
  | _ => none }
def diskAgainRow : OpenClaim := { program := "ytnclebnodkkgnaa", sum := "4f832bb4cb805c14359345729cd17ad81f1084031e93e44909e249e1531e0c41", func := "kist/kistlaw08.DiskAgain", spec := "diskAgain", unfollowed := true, recurses := true, apart := false }
def DiskAgainSaid : Prop := diskAgainRow.holds Try.pinned (OpenSpec.ofChange diskAgainSpec)

/-- ITS FALSE NEIGHBOUR: 'it returns false'. Refute it at one input. -/
def diskAgainWrong : ChangeSpec := { name := "diskAgain", fn := fun _ => fun
  | [d1, d2, d3] => { results := [.lit (.bool false)], args := [d1, d2, d3] }
  | _ => none }
def DiskAgainWrongFalsely : Prop := diskAgainRow.holds Try.pinned (OpenSpec.ofChange diskAgainWrong)

/-- 'kistlaw11.JournalRoom': WHATEVER THE INPUT: true; the input reads as it did. -/
def journalRoomSpec : ChangeSpec := { name := "journalRoom", fn := fun _ => fun
  | [d] => { results := [.lit (.bool true)], args := [d] }
  | _ => none }
def journalRoomRow : OpenClaim := { program := "ytnclebnodkkgnaa", sum := "4f832bb4cb805c14359345729cd17ad81f1084031e93e44909e249e1531e0c41", func := "kist/kistlaw11.JournalRoom", spec := "journalRoom", unfollowed := true, recurses := true, apart := false }
def JournalRoomSaid : Prop := journalRoomRow.holds Try.pinned (OpenSpec.ofChange journalRoomSpec)

/-- ITS FALSE NEIGHBOUR: 'it returns false'. Refute it at one input. -/
def journalRoomWrong : ChangeSpec := { name := "journalRoom", fn := fun _ => fun
  | [d] => { results := [.lit (.bool false)], args := [d] }
  | _ => none }
def JournalRoomWrongFalsely : Prop := journalRoomRow.holds Try.pinned (OpenSpec.ofChange journalRoomWrong)

/-- 'kistlaw11.JournalPlays': WHATEVER THE INPUT: true; the input reads as it did. -/
def journalPlaysSpec : ChangeSpec := { name := "journalPlays", fn := fun _ => fun
  | [d] => { results := [.lit (.bool true)], args := [d] }
  | _ => none }
def journalPlaysRow : OpenClaim := { program := "ytnclebnodkkgnaa", sum := "4f832bb4cb805c14359345729cd17ad81f1084031e93e44909e249e1531e0c41", func := "kist/kistlaw11.JournalPlays", spec := "journalPlays", unfollowed := true, recurses := true, apart := false }
def JournalPlaysSaid : Prop := journalPlaysRow.holds Try.pinned (OpenSpec.ofChange journalPlaysSpec)

/-- ITS FALSE NEIGHBOUR: 'it returns false'. Refute it at one input. -/
def journalPlaysWrong : ChangeSpec := { name := "journalPlays", fn := fun _ => fun
  | [d] => { results := [.lit (.bool false)], args := [d] }
  | _ => none }
def JournalPlaysWrongFalsely : Prop := journalPlaysRow.holds Try.pinned (OpenSpec.ofChange journalPlaysWrong)

/-- 'kistlaw11.JournalPrefix': WHATEVER THE INPUT: true; the input reads as it did. -/
def journalPrefixSpec : ChangeSpec := { name := "journalPrefix", fn := fun _ => fun
  | [d] => { results := [.lit (.bool true)], args := [d] }
  | _ => none }
def journalPrefixRow : OpenClaim := { program := "ytnclebnodkkgnaa", sum := "4f832bb4cb805c14359345729cd17ad81f1084031e93e44909e249e1531e0c41", func := "kist/kistlaw11.JournalPrefix", spec := "journalPrefix", unfollowed := true, recurses := true, apart := false }
def JournalPrefixSaid : Prop := journalPrefixRow.holds Try.pinned (OpenSpec.ofChange journalPrefixSpec)

/-- ITS FALSE NEIGHBOUR: 'it returns false'. Refute it at one input. -/
def journalPrefixWrong : ChangeSpec := { name := "journalPrefix", fn := fun _ => fun
  | [d] => { results := [.lit (.bool false)], args := [d] }
  | _ => none }
def JournalPrefixWrongFalsely : Prop := journalPrefixRow.holds Try.pinned (OpenSpec.ofChange journalPrefixWrong)

/- THE SECOND FORM. 'bulk': how many values and letters a reading holds, each counted each time it is reached (what is shared counts as often as it is met; a slice's spare places count too). A statement '..UptoSaid' is the law's where the arguments, and the package variables that the reading takes, are together of bulk at most 1048576: NARROWER than '..Said'. Prove '..Said' where nothing that the law and all that it calls make is longer than what came in: it says more and counts as full. Else prove '..UptoSaid'. A law counts once. -/
mutual
def uptoBulk {H : Type} : DataW H → Nat
  | .lit (.string bytes) => bytes.length + 1
  | .lit _ => 1
  | .nil => 1
  | .ptr d => uptoBulk d + 1
  | .slice elems spare => uptoBulkAll elems + uptoBulkAll spare + 1
  | .agg parts => uptoBulkAll parts + 1
  | .iface _ d => uptoBulk d + 1
  | .map entries => uptoBulkEntries entries + 1
  | .held _ => 1
def uptoBulkAll {H : Type} : List (DataW H) → Nat
  | [] => 0
  | d :: r => uptoBulk d + uptoBulkAll r
def uptoBulkEntries {H : Type} : List (Lit × DataW H) → Nat
  | [] => 0
  | x :: r => uptoBulkEntry x + uptoBulkEntries r
def uptoBulkEntry {H : Type} : Lit × DataW H → Nat
  | (.string bytes, d) => bytes.length + uptoBulk d + 1
  | (_, d) => uptoBulk d + 1
 end
def uptoSmall : (H : Type) → List (DataW H) → Bool := fun _ ds => decide (uptoBulkAll ds ≤ 1048576)
def OpenSpec.upto (s : _root_.Go.ChangeSpec) : _root_.Go.OpenSpec := { _root_.Go.OpenSpec.ofChange s with cond := some uptoSmall }

/-- 'kistlaw11.JournalRots', WHERE WHAT IT READS IS OF BULK AT MOST 1048576: true; the input reads as it did. -/
def journalRotsUptoRow : OpenClaim := { program := "ytnclebnodkkgnaa", sum := "4f832bb4cb805c14359345729cd17ad81f1084031e93e44909e249e1531e0c41", func := "kist/kistlaw11.JournalRots", spec := "journalRots", apart := false, narrowed := true }
def JournalRotsUptoSaid : Prop := journalRotsUptoRow.holds Try.pinned (OpenSpec.upto journalRotsSpec)

/-- 'kistlaw11.JournalForged', WHERE WHAT IT READS IS OF BULK AT MOST 1048576: true; the input reads as it did. -/
def journalForgedUptoRow : OpenClaim := { program := "ytnclebnodkkgnaa", sum := "4f832bb4cb805c14359345729cd17ad81f1084031e93e44909e249e1531e0c41", func := "kist/kistlaw11.JournalForged", spec := "journalForged", apart := false, narrowed := true }
def JournalForgedUptoSaid : Prop := journalForgedUptoRow.holds Try.pinned (OpenSpec.upto journalForgedSpec)

/-- 'kistlaw08.DiskKeeps', WHERE WHAT IT READS IS OF BULK AT MOST 1048576: true; the input reads as it did. -/
def diskKeepsUptoRow : OpenClaim := { program := "ytnclebnodkkgnaa", sum := "4f832bb4cb805c14359345729cd17ad81f1084031e93e44909e249e1531e0c41", func := "kist/kistlaw08.DiskKeeps", spec := "diskKeeps", unfollowed := true, recurses := true, apart := false, narrowed := true }
def DiskKeepsUptoSaid : Prop := diskKeepsUptoRow.holds Try.pinned (OpenSpec.upto diskKeepsSpec)

/-- 'kistlaw08.DiskCuts', WHERE WHAT IT READS IS OF BULK AT MOST 1048576: true; the input reads as it did. -/
def diskCutsUptoRow : OpenClaim := { program := "ytnclebnodkkgnaa", sum := "4f832bb4cb805c14359345729cd17ad81f1084031e93e44909e249e1531e0c41", func := "kist/kistlaw08.DiskCuts", spec := "diskCuts", unfollowed := true, recurses := true, apart := false, narrowed := true }
def DiskCutsUptoSaid : Prop := diskCutsUptoRow.holds Try.pinned (OpenSpec.upto diskCutsSpec)

/-- 'kistlaw08.DiskPlays', WHERE WHAT IT READS IS OF BULK AT MOST 1048576: true; the input reads as it did. -/
def diskPlaysUptoRow : OpenClaim := { program := "ytnclebnodkkgnaa", sum := "4f832bb4cb805c14359345729cd17ad81f1084031e93e44909e249e1531e0c41", func := "kist/kistlaw08.DiskPlays", spec := "diskPlays", unfollowed := true, recurses := true, apart := false, narrowed := true }
def DiskPlaysUptoSaid : Prop := diskPlaysUptoRow.holds Try.pinned (OpenSpec.upto diskPlaysSpec)

/-- 'kistlaw08.DiskElse', WHERE WHAT IT READS IS OF BULK AT MOST 1048576: true; the input reads as it did. -/
def diskElseUptoRow : OpenClaim := { program := "ytnclebnodkkgnaa", sum := "4f832bb4cb805c14359345729cd17ad81f1084031e93e44909e249e1531e0c41", func := "kist/kistlaw08.DiskElse", spec := "diskElse", unfollowed := true, recurses := true, apart := false, narrowed := true }
def DiskElseUptoSaid : Prop := diskElseUptoRow.holds Try.pinned (OpenSpec.upto diskElseSpec)

/-- 'kistlaw08.DiskApart', WHERE WHAT IT READS IS OF BULK AT MOST 1048576: true; the input reads as it did. -/
def diskApartUptoRow : OpenClaim := { program := "ytnclebnodkkgnaa", sum := "4f832bb4cb805c14359345729cd17ad81f1084031e93e44909e249e1531e0c41", func := "kist/kistlaw08.DiskApart", spec := "diskApart", unfollowed := true, recurses := true, apart := false, narrowed := true }
def DiskApartUptoSaid : Prop := diskApartUptoRow.holds Try.pinned (OpenSpec.upto diskApartSpec)

/-- 'kistlaw08.DiskAgain', WHERE WHAT IT READS IS OF BULK AT MOST 1048576: true; the input reads as it did. -/
def diskAgainUptoRow : OpenClaim := { program := "ytnclebnodkkgnaa", sum := "4f832bb4cb805c14359345729cd17ad81f1084031e93e44909e249e1531e0c41", func := "kist/kistlaw08.DiskAgain", spec := "diskAgain", unfollowed := true, recurses := true, apart := false, narrowed := true }
def DiskAgainUptoSaid : Prop := diskAgainUptoRow.holds Try.pinned (OpenSpec.upto diskAgainSpec)

/-- 'kistlaw11.JournalRoom', WHERE WHAT IT READS IS OF BULK AT MOST 1048576: true; the input reads as it did. -/
def journalRoomUptoRow : OpenClaim := { program := "ytnclebnodkkgnaa", sum := "4f832bb4cb805c14359345729cd17ad81f1084031e93e44909e249e1531e0c41", func := "kist/kistlaw11.JournalRoom", spec := "journalRoom", unfollowed := true, recurses := true, apart := false, narrowed := true }
def JournalRoomUptoSaid : Prop := journalRoomUptoRow.holds Try.pinned (OpenSpec.upto journalRoomSpec)

/-- 'kistlaw11.JournalPlays', WHERE WHAT IT READS IS OF BULK AT MOST 1048576: true; the input reads as it did. -/
def journalPlaysUptoRow : OpenClaim := { program := "ytnclebnodkkgnaa", sum := "4f832bb4cb805c14359345729cd17ad81f1084031e93e44909e249e1531e0c41", func := "kist/kistlaw11.JournalPlays", spec := "journalPlays", unfollowed := true, recurses := true, apart := false, narrowed := true }
def JournalPlaysUptoSaid : Prop := journalPlaysUptoRow.holds Try.pinned (OpenSpec.upto journalPlaysSpec)

/-- 'kistlaw11.JournalPrefix', WHERE WHAT IT READS IS OF BULK AT MOST 1048576: true; the input reads as it did. -/
def journalPrefixUptoRow : OpenClaim := { program := "ytnclebnodkkgnaa", sum := "4f832bb4cb805c14359345729cd17ad81f1084031e93e44909e249e1531e0c41", func := "kist/kistlaw11.JournalPrefix", spec := "journalPrefix", unfollowed := true, recurses := true, apart := false, narrowed := true }
def JournalPrefixUptoSaid : Prop := journalPrefixUptoRow.holds Try.pinned (OpenSpec.upto journalPrefixSpec)

end Rows
end Go.Proofs.Ytnclebnodkkgnaa
