/-
  No cell of these rows narrows 'for every input' (looked for: loops, veiled, ifaces, maps, wideKeys, modest, calm, conditions, laid).
  DERIVED. THE GIVEN ROWS OF THIS SEAT. 6 by the template 'for every input the law returns true; each argument reads behind the call as it read before'; 0 by the template 'total and deterministic' (their statements: YtnmoccdnkpkhhaaTotals.lean).
  GIVEN WITH THE SEED: the statements are not yours to turn. If you find one false, say at which input.
  Laid BY PROGRAM, IN A SANDBOX (cutbox-rows.mjs): the forced cells as the released guide's own fill.sh prints them over the translation a53dde82efeed692… (all of the seat's roots in one cut). By AI agents, Wed Nov 11 2026. No macro, syntax, notation, axiom, sorry.
-/
import Derived.Test.YtnmoccdnkpkhhaaChecked
import GoSem.Claim
import GoSem.ClaimJoined
import GoSem.ClaimMapViews
import Derived.JoinedTies
import Derived.KernelRfl
namespace Go.Proofs.Ytnmoccdnkpkhhaa
/- THE CELL 'sum', in the pinned program and in every row, IS THE sha256 OF THE DUMP (.gsa) THAT YtnmoccdnkpkhhaaProg.lean LOADS. Nothing in Lean hashes anything: it is a label: what it is worth is what the hold of that sum in a sandbox is worth. -/
noncomputable def Try.pinned : Pinned := { name := "ytnmoccdnkpkhhaa", sum := "a53dde82efeed69227190526cc62548f23144ebf6ddfae22e70084981fe89b8d", checked := Try.checked }
namespace Rows
def none {H : Type} : Left H := { results := [], args := [] }

/-- 'dioramalaw05.LaceWrites': WHATEVER THE INPUT: true; the input reads as it did. -/
def laceWritesSpec : ChangeSpec := { name := "laceWrites", fn := fun _ => fun
  | [d] => { results := [.lit (.bool true)], args := [d] }
  | _ => none }
def laceWritesRow : OpenClaim := { program := "ytnmoccdnkpkhhaa", sum := "a53dde82efeed69227190526cc62548f23144ebf6ddfae22e70084981fe89b8d", func := "diorama/dioramalaw05.LaceWrites", spec := "laceWrites", unfollowed := true, recurses := true, apart := false }
def LaceWritesSaid : Prop := laceWritesRow.holds Try.pinned (OpenSpec.ofChange laceWritesSpec)

/-- ITS FALSE NEIGHBOUR: 'it returns false'. Refute it at one input. -/
def laceWritesWrong : ChangeSpec := { name := "laceWrites", fn := fun _ => fun
  | [d] => { results := [.lit (.bool false)], args := [d] }
  | _ => none }
def LaceWritesWrongFalsely : Prop := laceWritesRow.holds Try.pinned (OpenSpec.ofChange laceWritesWrong)

/-- 'dioramalaw05.LaceBack': WHATEVER THE INPUT: true; the input reads as it did. -/
def laceBackSpec : ChangeSpec := { name := "laceBack", fn := fun _ => fun
  | [d] => { results := [.lit (.bool true)], args := [d] }
  | _ => none }
def laceBackRow : OpenClaim := { program := "ytnmoccdnkpkhhaa", sum := "a53dde82efeed69227190526cc62548f23144ebf6ddfae22e70084981fe89b8d", func := "diorama/dioramalaw05.LaceBack", spec := "laceBack", unfollowed := true, recurses := true, apart := false }
def LaceBackSaid : Prop := laceBackRow.holds Try.pinned (OpenSpec.ofChange laceBackSpec)

/-- ITS FALSE NEIGHBOUR: 'it returns false'. Refute it at one input. -/
def laceBackWrong : ChangeSpec := { name := "laceBack", fn := fun _ => fun
  | [d] => { results := [.lit (.bool false)], args := [d] }
  | _ => none }
def LaceBackWrongFalsely : Prop := laceBackRow.holds Try.pinned (OpenSpec.ofChange laceBackWrong)

/-- 'dioramalaw05.LaceCut': WHATEVER THE INPUT: true; the input reads as it did. -/
def laceCutSpec : ChangeSpec := { name := "laceCut", fn := fun _ => fun
  | [d1, d2] => { results := [.lit (.bool true)], args := [d1, d2] }
  | _ => none }
def laceCutRow : OpenClaim := { program := "ytnmoccdnkpkhhaa", sum := "a53dde82efeed69227190526cc62548f23144ebf6ddfae22e70084981fe89b8d", func := "diorama/dioramalaw05.LaceCut", spec := "laceCut", unfollowed := true, recurses := true, apart := false }
def LaceCutSaid : Prop := laceCutRow.holds Try.pinned (OpenSpec.ofChange laceCutSpec)

/-- ITS FALSE NEIGHBOUR: 'it returns false'. Refute it at one input. -/
def laceCutWrong : ChangeSpec := { name := "laceCut", fn := fun _ => fun
  | [d1, d2] => { results := [.lit (.bool false)], args := [d1, d2] }
  | _ => none }
def LaceCutWrongFalsely : Prop := laceCutRow.holds Try.pinned (OpenSpec.ofChange laceCutWrong)

/-- 'dioramalaw05.LaceReads': WHATEVER THE INPUT: true; the input reads as it did. -/
def laceReadsSpec : ChangeSpec := { name := "laceReads", fn := fun _ => fun
  | [d] => { results := [.lit (.bool true)], args := [d] }
  | _ => none }
def laceReadsRow : OpenClaim := { program := "ytnmoccdnkpkhhaa", sum := "a53dde82efeed69227190526cc62548f23144ebf6ddfae22e70084981fe89b8d", func := "diorama/dioramalaw05.LaceReads", spec := "laceReads", unfollowed := true, recurses := true, apart := false }
def LaceReadsSaid : Prop := laceReadsRow.holds Try.pinned (OpenSpec.ofChange laceReadsSpec)

/-- ITS FALSE NEIGHBOUR: 'it returns false'. Refute it at one input. -/
def laceReadsWrong : ChangeSpec := { name := "laceReads", fn := fun _ => fun
  | [d] => { results := [.lit (.bool false)], args := [d] }
  | _ => none }
def LaceReadsWrongFalsely : Prop := laceReadsRow.holds Try.pinned (OpenSpec.ofChange laceReadsWrong)

/-- 'dioramalaw05.LaceCosts': WHATEVER THE INPUT: true; the input reads as it did. -/
def laceCostsSpec : ChangeSpec := { name := "laceCosts", fn := fun _ => fun
  | [d1, d2] => { results := [.lit (.bool true)], args := [d1, d2] }
  | _ => none }
def laceCostsRow : OpenClaim := { program := "ytnmoccdnkpkhhaa", sum := "a53dde82efeed69227190526cc62548f23144ebf6ddfae22e70084981fe89b8d", func := "diorama/dioramalaw05.LaceCosts", spec := "laceCosts", unfollowed := true, recurses := true, apart := false }
def LaceCostsSaid : Prop := laceCostsRow.holds Try.pinned (OpenSpec.ofChange laceCostsSpec)

/-- ITS FALSE NEIGHBOUR: 'it returns false'. Refute it at one input. -/
def laceCostsWrong : ChangeSpec := { name := "laceCosts", fn := fun _ => fun
  | [d1, d2] => { results := [.lit (.bool false)], args := [d1, d2] }
  | _ => none }
def LaceCostsWrongFalsely : Prop := laceCostsRow.holds Try.pinned (OpenSpec.ofChange laceCostsWrong)

/-- 'dioramalaw05.LaceSplits': WHATEVER THE INPUT: true; the input reads as it did. -/
def laceSplitsSpec : ChangeSpec := { name := "laceSplits", fn := fun _ => fun
  | [d1, d2] => { results := [.lit (.bool true)], args := [d1, d2] }
  | _ => none }
def laceSplitsRow : OpenClaim := { program := "ytnmoccdnkpkhhaa", sum := "a53dde82efeed69227190526cc62548f23144ebf6ddfae22e70084981fe89b8d", func := "diorama/dioramalaw05.LaceSplits", spec := "laceSplits", unfollowed := true, recurses := true, apart := false }
def LaceSplitsSaid : Prop := laceSplitsRow.holds Try.pinned (OpenSpec.ofChange laceSplitsSpec)

/-- ITS FALSE NEIGHBOUR: 'it returns false'. Refute it at one input. -/
def laceSplitsWrong : ChangeSpec := { name := "laceSplits", fn := fun _ => fun
  | [d1, d2] => { results := [.lit (.bool false)], args := [d1, d2] }
  | _ => none }
def LaceSplitsWrongFalsely : Prop := laceSplitsRow.holds Try.pinned (OpenSpec.ofChange laceSplitsWrong)

/- THE SECOND FORM. 'bulk': how many values and letters a reading holds, each counted each time it is reached (what is shared counts as often as it is met; a slice's spare places count too). A statement '..UptoSaid' is the law's where the arguments, and the package variables that the reading takes, are together of bulk at most 1048576: NARROWER than '..Said'. Prove '..Said' where nothing that the law and all that it calls make is longer than what came in: it says more and counts as full. Else prove '..UptoSaid'. A law counts once. -/
mutual
def uptoBulk {H : Type} : DataW H → Nat
  | .lit (.string bytes) => bytes.length + 1
  | .lit _ => 1
  | .nil => 1
  | .ptr d => uptoBulk d + 1
  | .slice elems spare => uptoBulkAll elems + uptoBulkAll spare + 1
  | .agg parts => uptoBulkAll parts + 1
  | .iface _ d => uptoBulk d + 1
  | .map entries => uptoBulkEntries entries + 1
  | .held _ => 1
def uptoBulkAll {H : Type} : List (DataW H) → Nat
  | [] => 0
  | d :: r => uptoBulk d + uptoBulkAll r
def uptoBulkEntries {H : Type} : List (Lit × DataW H) → Nat
  | [] => 0
  | x :: r => uptoBulkEntry x + uptoBulkEntries r
def uptoBulkEntry {H : Type} : Lit × DataW H → Nat
  | (.string bytes, d) => bytes.length + uptoBulk d + 1
  | (_, d) => uptoBulk d + 1
 end
def uptoSmall : (H : Type) → List (DataW H) → Bool := fun _ ds => decide (uptoBulkAll ds ≤ 1048576)
def OpenSpec.upto (s : _root_.Go.ChangeSpec) : _root_.Go.OpenSpec := { _root_.Go.OpenSpec.ofChange s with cond := some uptoSmall }

/-- 'dioramalaw05.LaceWrites', WHERE WHAT IT READS IS OF BULK AT MOST 1048576: true; the input reads as it did. -/
def laceWritesUptoRow : OpenClaim := { program := "ytnmoccdnkpkhhaa", sum := "a53dde82efeed69227190526cc62548f23144ebf6ddfae22e70084981fe89b8d", func := "diorama/dioramalaw05.LaceWrites", spec := "laceWrites", unfollowed := true, recurses := true, apart := false, narrowed := true }
def LaceWritesUptoSaid : Prop := laceWritesUptoRow.holds Try.pinned (OpenSpec.upto laceWritesSpec)

/-- 'dioramalaw05.LaceBack', WHERE WHAT IT READS IS OF BULK AT MOST 1048576: true; the input reads as it did. -/
def laceBackUptoRow : OpenClaim := { program := "ytnmoccdnkpkhhaa", sum := "a53dde82efeed69227190526cc62548f23144ebf6ddfae22e70084981fe89b8d", func := "diorama/dioramalaw05.LaceBack", spec := "laceBack", unfollowed := true, recurses := true, apart := false, narrowed := true }
def LaceBackUptoSaid : Prop := laceBackUptoRow.holds Try.pinned (OpenSpec.upto laceBackSpec)

/-- 'dioramalaw05.LaceCut', WHERE WHAT IT READS IS OF BULK AT MOST 1048576: true; the input reads as it did. -/
def laceCutUptoRow : OpenClaim := { program := "ytnmoccdnkpkhhaa", sum := "a53dde82efeed69227190526cc62548f23144ebf6ddfae22e70084981fe89b8d", func := "diorama/dioramalaw05.LaceCut", spec := "laceCut", unfollowed := true, recurses := true, apart := false, narrowed := true }
def LaceCutUptoSaid : Prop := laceCutUptoRow.holds Try.pinned (OpenSpec.upto laceCutSpec)

/-- 'dioramalaw05.LaceReads', WHERE WHAT IT READS IS OF BULK AT MOST 1048576: true; the input reads as it did. -/
def laceReadsUptoRow : OpenClaim := { program := "ytnmoccdnkpkhhaa", sum := "a53dde82efeed69227190526cc62548f23144ebf6ddfae22e70084981fe89b8d", func := "diorama/dioramalaw05.LaceReads", spec := "laceReads", unfollowed := true, recurses := true, apart := false, narrowed := true }
def LaceReadsUptoSaid : Prop := laceReadsUptoRow.holds Try.pinned (OpenSpec.upto laceReadsSpec)

/-- 'dioramalaw05.LaceCosts', WHERE WHAT IT READS IS OF BULK AT MOST 1048576: true; the input reads as it did. -/
def laceCostsUptoRow : OpenClaim := { program := "ytnmoccdnkpkhhaa", sum := "a53dde82efeed69227190526cc62548f23144ebf6ddfae22e70084981fe89b8d", func := "diorama/dioramalaw05.LaceCosts", spec := "laceCosts", unfollowed := true, recurses := true, apart := false, narrowed := true }
def LaceCostsUptoSaid : Prop := laceCostsUptoRow.holds Try.pinned (OpenSpec.upto laceCostsSpec)

/-- 'dioramalaw05.LaceSplits', WHERE WHAT IT READS IS OF BULK AT MOST 1048576: true; the input reads as it did. -/
def laceSplitsUptoRow : OpenClaim := { program := "ytnmoccdnkpkhhaa", sum := "a53dde82efeed69227190526cc62548f23144ebf6ddfae22e70084981fe89b8d", func := "diorama/dioramalaw05.LaceSplits", spec := "laceSplits", unfollowed := true, recurses := true, apart := false, narrowed := true }
def LaceSplitsUptoSaid : Prop := laceSplitsUptoRow.holds Try.pinned (OpenSpec.upto laceSplitsSpec)

end Rows
end Go.Proofs.Ytnmoccdnkpkhhaa
