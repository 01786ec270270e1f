/-
  NARROWER THAN 'FOR EVERY INPUT', by the rows' own cells (each row's printed sentence says how): ElementNumbers: loops · ElementSizes: loops · ElementVoids: loops · ElementFinds: loops · ElementBehind: loops · ElementWrites: loops · ElementHurt: loops.
  DERIVED. THE GIVEN ROWS OF THIS SEAT. 12 by the template 'for every input the law returns true; each argument reads behind the call as it read before'; 0 by the template 'total and deterministic' (their statements: YtklhjegfkpmdoaaTotals.lean).
  GIVEN WITH THE SEED: the statements are not yours to turn. If you find one false, say at which input.
  Laid BY PROGRAM, IN A SANDBOX (cutbox-rows.mjs): the forced cells as the released guide's own fill.sh prints them over the translation 7d14ef6a85ba7090… (all of the seat's roots in one cut). By AI agents, Wed Nov 11 2026. No macro, syntax, notation, axiom, sorry.
-/
import Derived.Test.YtklhjegfkpmdoaaChecked
import GoSem.Claim
import GoSem.ClaimJoined
import GoSem.ClaimMapViews
import Derived.JoinedTies
import Derived.KernelRfl
namespace Go.Proofs.Ytklhjegfkpmdoaa
/- THE CELL 'sum', in the pinned program and in every row, IS THE sha256 OF THE DUMP (.gsa) THAT YtklhjegfkpmdoaaProg.lean LOADS. Nothing in Lean hashes anything: it is a label: what it is worth is what the hold of that sum in a sandbox is worth. -/
noncomputable def Try.pinned : Pinned := { name := "ytklhjegfkpmdoaa", sum := "7d14ef6a85ba7090c7cb27ab30b859ed8587e1b44044313b4743b767f1173d8c", checked := Try.checked }
namespace Rows
def none {H : Type} : Left H := { results := [], args := [] }

/-- 'dioramalaw04.ElementPads': WHATEVER THE INPUT: true; the input reads as it did. -/
def elementPadsSpec : ChangeSpec := { name := "elementPads", fn := fun _ => fun
  | [d] => { results := [.lit (.bool true)], args := [d] }
  | _ => none }
def elementPadsRow : OpenClaim := { program := "ytklhjegfkpmdoaa", sum := "7d14ef6a85ba7090c7cb27ab30b859ed8587e1b44044313b4743b767f1173d8c", func := "diorama/dioramalaw04.ElementPads", spec := "elementPads", recurses := true, apart := false }
def ElementPadsSaid : Prop := elementPadsRow.holds Try.pinned (OpenSpec.ofChange elementPadsSpec)

/-- ITS FALSE NEIGHBOUR: 'it returns false'. Refute it at one input. -/
def elementPadsWrong : ChangeSpec := { name := "elementPads", fn := fun _ => fun
  | [d] => { results := [.lit (.bool false)], args := [d] }
  | _ => none }
def ElementPadsWrongFalsely : Prop := elementPadsRow.holds Try.pinned (OpenSpec.ofChange elementPadsWrong)

/-- 'dioramalaw04.ElementParses': WHATEVER THE INPUT: true; the input reads as it did. -/
def elementParsesSpec : ChangeSpec := { name := "elementParses", fn := fun _ => fun
  | [d] => { results := [.lit (.bool true)], args := [d] }
  | _ => none }
def elementParsesRow : OpenClaim := { program := "ytklhjegfkpmdoaa", sum := "7d14ef6a85ba7090c7cb27ab30b859ed8587e1b44044313b4743b767f1173d8c", func := "diorama/dioramalaw04.ElementParses", spec := "elementParses", recurses := true, apart := false }
def ElementParsesSaid : Prop := elementParsesRow.holds Try.pinned (OpenSpec.ofChange elementParsesSpec)

/-- ITS FALSE NEIGHBOUR: 'it returns false'. Refute it at one input. -/
def elementParsesWrong : ChangeSpec := { name := "elementParses", fn := fun _ => fun
  | [d] => { results := [.lit (.bool false)], args := [d] }
  | _ => none }
def ElementParsesWrongFalsely : Prop := elementParsesRow.holds Try.pinned (OpenSpec.ofChange elementParsesWrong)

/-- 'dioramalaw04.ElementCovers': WHATEVER THE INPUT: true; the input reads as it did. -/
def elementCoversSpec : ChangeSpec := { name := "elementCovers", fn := fun _ => fun
  | [d] => { results := [.lit (.bool true)], args := [d] }
  | _ => none }
def elementCoversRow : OpenClaim := { program := "ytklhjegfkpmdoaa", sum := "7d14ef6a85ba7090c7cb27ab30b859ed8587e1b44044313b4743b767f1173d8c", func := "diorama/dioramalaw04.ElementCovers", spec := "elementCovers", recurses := true, apart := false }
def ElementCoversSaid : Prop := elementCoversRow.holds Try.pinned (OpenSpec.ofChange elementCoversSpec)

/-- ITS FALSE NEIGHBOUR: 'it returns false'. Refute it at one input. -/
def elementCoversWrong : ChangeSpec := { name := "elementCovers", fn := fun _ => fun
  | [d] => { results := [.lit (.bool false)], args := [d] }
  | _ => none }
def ElementCoversWrongFalsely : Prop := elementCoversRow.holds Try.pinned (OpenSpec.ofChange elementCoversWrong)

/-- 'dioramalaw04.ElementKnows': WHATEVER THE INPUT: true; the input reads as it did. -/
def elementKnowsSpec : ChangeSpec := { name := "elementKnows", fn := fun _ => fun
  | [d] => { results := [.lit (.bool true)], args := [d] }
  | _ => none }
def elementKnowsRow : OpenClaim := { program := "ytklhjegfkpmdoaa", sum := "7d14ef6a85ba7090c7cb27ab30b859ed8587e1b44044313b4743b767f1173d8c", func := "diorama/dioramalaw04.ElementKnows", spec := "elementKnows", recurses := true, apart := false }
def ElementKnowsSaid : Prop := elementKnowsRow.holds Try.pinned (OpenSpec.ofChange elementKnowsSpec)

/-- ITS FALSE NEIGHBOUR: 'it returns false'. Refute it at one input. -/
def elementKnowsWrong : ChangeSpec := { name := "elementKnows", fn := fun _ => fun
  | [d] => { results := [.lit (.bool false)], args := [d] }
  | _ => none }
def ElementKnowsWrongFalsely : Prop := elementKnowsRow.holds Try.pinned (OpenSpec.ofChange elementKnowsWrong)

/-- 'dioramalaw04.ElementIds': WHATEVER THE INPUT: true; the input reads as it did. -/
def elementIdsSpec : ChangeSpec := { name := "elementIds", fn := fun _ => fun
  | [d1, d2] => { results := [.lit (.bool true)], args := [d1, d2] }
  | _ => none }
def elementIdsRow : OpenClaim := { program := "ytklhjegfkpmdoaa", sum := "7d14ef6a85ba7090c7cb27ab30b859ed8587e1b44044313b4743b767f1173d8c", func := "diorama/dioramalaw04.ElementIds", spec := "elementIds", recurses := true, apart := false }
def ElementIdsSaid : Prop := elementIdsRow.holds Try.pinned (OpenSpec.ofChange elementIdsSpec)

/-- ITS FALSE NEIGHBOUR: 'it returns false'. Refute it at one input. -/
def elementIdsWrong : ChangeSpec := { name := "elementIds", fn := fun _ => fun
  | [d1, d2] => { results := [.lit (.bool false)], args := [d1, d2] }
  | _ => none }
def ElementIdsWrongFalsely : Prop := elementIdsRow.holds Try.pinned (OpenSpec.ofChange elementIdsWrong)

/-- 'dioramalaw04.ElementNumbers': WHATEVER THE INPUT: true; the input reads as it did. -/
def elementNumbersSpec : ChangeSpec := { name := "elementNumbers", fn := fun _ => fun
  | [d1, d2] => { results := [.lit (.bool true)], args := [d1, d2] }
  | _ => none }
def elementNumbersRow : OpenClaim := { program := "ytklhjegfkpmdoaa", sum := "7d14ef6a85ba7090c7cb27ab30b859ed8587e1b44044313b4743b767f1173d8c", func := "diorama/dioramalaw04.ElementNumbers", spec := "elementNumbers", recurses := true, loops := true, apart := false }
def ElementNumbersSaid : Prop := elementNumbersRow.holds Try.pinned (OpenSpec.ofChange elementNumbersSpec)

/-- ITS FALSE NEIGHBOUR: 'it returns false'. Refute it at one input. -/
def elementNumbersWrong : ChangeSpec := { name := "elementNumbers", fn := fun _ => fun
  | [d1, d2] => { results := [.lit (.bool false)], args := [d1, d2] }
  | _ => none }
def ElementNumbersWrongFalsely : Prop := elementNumbersRow.holds Try.pinned (OpenSpec.ofChange elementNumbersWrong)

/-- 'dioramalaw04.ElementSizes': WHATEVER THE INPUT: true; the input reads as it did. -/
def elementSizesSpec : ChangeSpec := { name := "elementSizes", fn := fun _ => fun
  | [d] => { results := [.lit (.bool true)], args := [d] }
  | _ => none }
def elementSizesRow : OpenClaim := { program := "ytklhjegfkpmdoaa", sum := "7d14ef6a85ba7090c7cb27ab30b859ed8587e1b44044313b4743b767f1173d8c", func := "diorama/dioramalaw04.ElementSizes", spec := "elementSizes", recurses := true, loops := true, apart := false }
def ElementSizesSaid : Prop := elementSizesRow.holds Try.pinned (OpenSpec.ofChange elementSizesSpec)

/-- ITS FALSE NEIGHBOUR: 'it returns false'. Refute it at one input. -/
def elementSizesWrong : ChangeSpec := { name := "elementSizes", fn := fun _ => fun
  | [d] => { results := [.lit (.bool false)], args := [d] }
  | _ => none }
def ElementSizesWrongFalsely : Prop := elementSizesRow.holds Try.pinned (OpenSpec.ofChange elementSizesWrong)

/-- 'dioramalaw04.ElementVoids': WHATEVER THE INPUT: true; the input reads as it did. -/
def elementVoidsSpec : ChangeSpec := { name := "elementVoids", fn := fun _ => fun
  | [d] => { results := [.lit (.bool true)], args := [d] }
  | _ => none }
def elementVoidsRow : OpenClaim := { program := "ytklhjegfkpmdoaa", sum := "7d14ef6a85ba7090c7cb27ab30b859ed8587e1b44044313b4743b767f1173d8c", func := "diorama/dioramalaw04.ElementVoids", spec := "elementVoids", unfollowed := true, recurses := true, loops := true, apart := false }
def ElementVoidsSaid : Prop := elementVoidsRow.holds Try.pinned (OpenSpec.ofChange elementVoidsSpec)

/-- ITS FALSE NEIGHBOUR: 'it returns false'. Refute it at one input. -/
def elementVoidsWrong : ChangeSpec := { name := "elementVoids", fn := fun _ => fun
  | [d] => { results := [.lit (.bool false)], args := [d] }
  | _ => none }
def ElementVoidsWrongFalsely : Prop := elementVoidsRow.holds Try.pinned (OpenSpec.ofChange elementVoidsWrong)

/-- 'dioramalaw04.ElementFinds': WHATEVER THE INPUT: true; the input reads as it did. -/
def elementFindsSpec : ChangeSpec := { name := "elementFinds", fn := fun _ => fun
  | [d1, d2, d3] => { results := [.lit (.bool true)], args := [d1, d2, d3] }
  | _ => none }
def elementFindsRow : OpenClaim := { program := "ytklhjegfkpmdoaa", sum := "7d14ef6a85ba7090c7cb27ab30b859ed8587e1b44044313b4743b767f1173d8c", func := "diorama/dioramalaw04.ElementFinds", spec := "elementFinds", unfollowed := true, recurses := true, loops := true, apart := false }
def ElementFindsSaid : Prop := elementFindsRow.holds Try.pinned (OpenSpec.ofChange elementFindsSpec)

/-- ITS FALSE NEIGHBOUR: 'it returns false'. Refute it at one input. -/
def elementFindsWrong : ChangeSpec := { name := "elementFinds", fn := fun _ => fun
  | [d1, d2, d3] => { results := [.lit (.bool false)], args := [d1, d2, d3] }
  | _ => none }
def ElementFindsWrongFalsely : Prop := elementFindsRow.holds Try.pinned (OpenSpec.ofChange elementFindsWrong)

/-- 'dioramalaw04.ElementBehind': WHATEVER THE INPUT: true; the input reads as it did. -/
def elementBehindSpec : ChangeSpec := { name := "elementBehind", fn := fun _ => fun
  | [d1, d2] => { results := [.lit (.bool true)], args := [d1, d2] }
  | _ => none }
def elementBehindRow : OpenClaim := { program := "ytklhjegfkpmdoaa", sum := "7d14ef6a85ba7090c7cb27ab30b859ed8587e1b44044313b4743b767f1173d8c", func := "diorama/dioramalaw04.ElementBehind", spec := "elementBehind", unfollowed := true, recurses := true, loops := true, apart := false }
def ElementBehindSaid : Prop := elementBehindRow.holds Try.pinned (OpenSpec.ofChange elementBehindSpec)

/-- ITS FALSE NEIGHBOUR: 'it returns false'. Refute it at one input. -/
def elementBehindWrong : ChangeSpec := { name := "elementBehind", fn := fun _ => fun
  | [d1, d2] => { results := [.lit (.bool false)], args := [d1, d2] }
  | _ => none }
def ElementBehindWrongFalsely : Prop := elementBehindRow.holds Try.pinned (OpenSpec.ofChange elementBehindWrong)

/-- 'dioramalaw04.ElementWrites': WHATEVER THE INPUT: true; the input reads as it did. -/
def elementWritesSpec : ChangeSpec := { name := "elementWrites", fn := fun _ => fun
  | [d1, d2] => { results := [.lit (.bool true)], args := [d1, d2] }
  | _ => none }
def elementWritesRow : OpenClaim := { program := "ytklhjegfkpmdoaa", sum := "7d14ef6a85ba7090c7cb27ab30b859ed8587e1b44044313b4743b767f1173d8c", func := "diorama/dioramalaw04.ElementWrites", spec := "elementWrites", unfollowed := true, recurses := true, loops := true, apart := false }
def ElementWritesSaid : Prop := elementWritesRow.holds Try.pinned (OpenSpec.ofChange elementWritesSpec)

/-- ITS FALSE NEIGHBOUR: 'it returns false'. Refute it at one input. -/
def elementWritesWrong : ChangeSpec := { name := "elementWrites", fn := fun _ => fun
  | [d1, d2] => { results := [.lit (.bool false)], args := [d1, d2] }
  | _ => none }
def ElementWritesWrongFalsely : Prop := elementWritesRow.holds Try.pinned (OpenSpec.ofChange elementWritesWrong)

/-- 'dioramalaw04.ElementHurt': WHATEVER THE INPUT: true; the input reads as it did. -/
def elementHurtSpec : ChangeSpec := { name := "elementHurt", fn := fun _ => fun
  | [d1, d2, d3] => { results := [.lit (.bool true)], args := [d1, d2, d3] }
  | _ => none }
def elementHurtRow : OpenClaim := { program := "ytklhjegfkpmdoaa", sum := "7d14ef6a85ba7090c7cb27ab30b859ed8587e1b44044313b4743b767f1173d8c", func := "diorama/dioramalaw04.ElementHurt", spec := "elementHurt", unfollowed := true, recurses := true, loops := true, apart := false }
def ElementHurtSaid : Prop := elementHurtRow.holds Try.pinned (OpenSpec.ofChange elementHurtSpec)

/-- ITS FALSE NEIGHBOUR: 'it returns false'. Refute it at one input. -/
def elementHurtWrong : ChangeSpec := { name := "elementHurt", fn := fun _ => fun
  | [d1, d2, d3] => { results := [.lit (.bool false)], args := [d1, d2, d3] }
  | _ => none }
def ElementHurtWrongFalsely : Prop := elementHurtRow.holds Try.pinned (OpenSpec.ofChange elementHurtWrong)

/- THE SECOND FORM. 'bulk': how many values and letters a reading holds, each counted each time it is reached (what is shared counts as often as it is met; a slice's spare places count too). A statement '..UptoSaid' is the law's where the arguments, and the package variables that the reading takes, are together of bulk at most 1048576: NARROWER than '..Said'. Prove '..Said' where nothing that the law and all that it calls make is longer than what came in: it says more and counts as full. Else prove '..UptoSaid'. A law counts once. -/
mutual
def uptoBulk {H : Type} : DataW H → Nat
  | .lit (.string bytes) => bytes.length + 1
  | .lit _ => 1
  | .nil => 1
  | .ptr d => uptoBulk d + 1
  | .slice elems spare => uptoBulkAll elems + uptoBulkAll spare + 1
  | .agg parts => uptoBulkAll parts + 1
  | .iface _ d => uptoBulk d + 1
  | .map entries => uptoBulkEntries entries + 1
  | .held _ => 1
def uptoBulkAll {H : Type} : List (DataW H) → Nat
  | [] => 0
  | d :: r => uptoBulk d + uptoBulkAll r
def uptoBulkEntries {H : Type} : List (Lit × DataW H) → Nat
  | [] => 0
  | x :: r => uptoBulkEntry x + uptoBulkEntries r
def uptoBulkEntry {H : Type} : Lit × DataW H → Nat
  | (.string bytes, d) => bytes.length + uptoBulk d + 1
  | (_, d) => uptoBulk d + 1
 end
def uptoSmall : (H : Type) → List (DataW H) → Bool := fun _ ds => decide (uptoBulkAll ds ≤ 1048576)
def OpenSpec.upto (s : _root_.Go.ChangeSpec) : _root_.Go.OpenSpec := { _root_.Go.OpenSpec.ofChange s with cond := some uptoSmall }

/-- 'dioramalaw04.ElementPads', WHERE WHAT IT READS IS OF BULK AT MOST 1048576: true; the input reads as it did. -/
def elementPadsUptoRow : OpenClaim := { program := "ytklhjegfkpmdoaa", sum := "7d14ef6a85ba7090c7cb27ab30b859ed8587e1b44044313b4743b767f1173d8c", func := "diorama/dioramalaw04.ElementPads", spec := "elementPads", recurses := true, apart := false, narrowed := true }
def ElementPadsUptoSaid : Prop := elementPadsUptoRow.holds Try.pinned (OpenSpec.upto elementPadsSpec)

/-- 'dioramalaw04.ElementParses', WHERE WHAT IT READS IS OF BULK AT MOST 1048576: true; the input reads as it did. -/
def elementParsesUptoRow : OpenClaim := { program := "ytklhjegfkpmdoaa", sum := "7d14ef6a85ba7090c7cb27ab30b859ed8587e1b44044313b4743b767f1173d8c", func := "diorama/dioramalaw04.ElementParses", spec := "elementParses", recurses := true, apart := false, narrowed := true }
def ElementParsesUptoSaid : Prop := elementParsesUptoRow.holds Try.pinned (OpenSpec.upto elementParsesSpec)

/-- 'dioramalaw04.ElementCovers', WHERE WHAT IT READS IS OF BULK AT MOST 1048576: true; the input reads as it did. -/
def elementCoversUptoRow : OpenClaim := { program := "ytklhjegfkpmdoaa", sum := "7d14ef6a85ba7090c7cb27ab30b859ed8587e1b44044313b4743b767f1173d8c", func := "diorama/dioramalaw04.ElementCovers", spec := "elementCovers", recurses := true, apart := false, narrowed := true }
def ElementCoversUptoSaid : Prop := elementCoversUptoRow.holds Try.pinned (OpenSpec.upto elementCoversSpec)

/-- 'dioramalaw04.ElementKnows', WHERE WHAT IT READS IS OF BULK AT MOST 1048576: true; the input reads as it did. -/
def elementKnowsUptoRow : OpenClaim := { program := "ytklhjegfkpmdoaa", sum := "7d14ef6a85ba7090c7cb27ab30b859ed8587e1b44044313b4743b767f1173d8c", func := "diorama/dioramalaw04.ElementKnows", spec := "elementKnows", recurses := true, apart := false, narrowed := true }
def ElementKnowsUptoSaid : Prop := elementKnowsUptoRow.holds Try.pinned (OpenSpec.upto elementKnowsSpec)

/-- 'dioramalaw04.ElementIds', WHERE WHAT IT READS IS OF BULK AT MOST 1048576: true; the input reads as it did. -/
def elementIdsUptoRow : OpenClaim := { program := "ytklhjegfkpmdoaa", sum := "7d14ef6a85ba7090c7cb27ab30b859ed8587e1b44044313b4743b767f1173d8c", func := "diorama/dioramalaw04.ElementIds", spec := "elementIds", recurses := true, apart := false, narrowed := true }
def ElementIdsUptoSaid : Prop := elementIdsUptoRow.holds Try.pinned (OpenSpec.upto elementIdsSpec)

/-- 'dioramalaw04.ElementNumbers', WHERE WHAT IT READS IS OF BULK AT MOST 1048576: true; the input reads as it did. -/
def elementNumbersUptoRow : OpenClaim := { program := "ytklhjegfkpmdoaa", sum := "7d14ef6a85ba7090c7cb27ab30b859ed8587e1b44044313b4743b767f1173d8c", func := "diorama/dioramalaw04.ElementNumbers", spec := "elementNumbers", recurses := true, loops := true, apart := false, narrowed := true }
def ElementNumbersUptoSaid : Prop := elementNumbersUptoRow.holds Try.pinned (OpenSpec.upto elementNumbersSpec)

/-- 'dioramalaw04.ElementSizes', WHERE WHAT IT READS IS OF BULK AT MOST 1048576: true; the input reads as it did. -/
def elementSizesUptoRow : OpenClaim := { program := "ytklhjegfkpmdoaa", sum := "7d14ef6a85ba7090c7cb27ab30b859ed8587e1b44044313b4743b767f1173d8c", func := "diorama/dioramalaw04.ElementSizes", spec := "elementSizes", recurses := true, loops := true, apart := false, narrowed := true }
def ElementSizesUptoSaid : Prop := elementSizesUptoRow.holds Try.pinned (OpenSpec.upto elementSizesSpec)

/-- 'dioramalaw04.ElementVoids', WHERE WHAT IT READS IS OF BULK AT MOST 1048576: true; the input reads as it did. -/
def elementVoidsUptoRow : OpenClaim := { program := "ytklhjegfkpmdoaa", sum := "7d14ef6a85ba7090c7cb27ab30b859ed8587e1b44044313b4743b767f1173d8c", func := "diorama/dioramalaw04.ElementVoids", spec := "elementVoids", unfollowed := true, recurses := true, loops := true, apart := false, narrowed := true }
def ElementVoidsUptoSaid : Prop := elementVoidsUptoRow.holds Try.pinned (OpenSpec.upto elementVoidsSpec)

/-- 'dioramalaw04.ElementFinds', WHERE WHAT IT READS IS OF BULK AT MOST 1048576: true; the input reads as it did. -/
def elementFindsUptoRow : OpenClaim := { program := "ytklhjegfkpmdoaa", sum := "7d14ef6a85ba7090c7cb27ab30b859ed8587e1b44044313b4743b767f1173d8c", func := "diorama/dioramalaw04.ElementFinds", spec := "elementFinds", unfollowed := true, recurses := true, loops := true, apart := false, narrowed := true }
def ElementFindsUptoSaid : Prop := elementFindsUptoRow.holds Try.pinned (OpenSpec.upto elementFindsSpec)

/-- 'dioramalaw04.ElementBehind', WHERE WHAT IT READS IS OF BULK AT MOST 1048576: true; the input reads as it did. -/
def elementBehindUptoRow : OpenClaim := { program := "ytklhjegfkpmdoaa", sum := "7d14ef6a85ba7090c7cb27ab30b859ed8587e1b44044313b4743b767f1173d8c", func := "diorama/dioramalaw04.ElementBehind", spec := "elementBehind", unfollowed := true, recurses := true, loops := true, apart := false, narrowed := true }
def ElementBehindUptoSaid : Prop := elementBehindUptoRow.holds Try.pinned (OpenSpec.upto elementBehindSpec)

/-- 'dioramalaw04.ElementWrites', WHERE WHAT IT READS IS OF BULK AT MOST 1048576: true; the input reads as it did. -/
def elementWritesUptoRow : OpenClaim := { program := "ytklhjegfkpmdoaa", sum := "7d14ef6a85ba7090c7cb27ab30b859ed8587e1b44044313b4743b767f1173d8c", func := "diorama/dioramalaw04.ElementWrites", spec := "elementWrites", unfollowed := true, recurses := true, loops := true, apart := false, narrowed := true }
def ElementWritesUptoSaid : Prop := elementWritesUptoRow.holds Try.pinned (OpenSpec.upto elementWritesSpec)

/-- 'dioramalaw04.ElementHurt', WHERE WHAT IT READS IS OF BULK AT MOST 1048576: true; the input reads as it did. -/
def elementHurtUptoRow : OpenClaim := { program := "ytklhjegfkpmdoaa", sum := "7d14ef6a85ba7090c7cb27ab30b859ed8587e1b44044313b4743b767f1173d8c", func := "diorama/dioramalaw04.ElementHurt", spec := "elementHurt", unfollowed := true, recurses := true, loops := true, apart := false, narrowed := true }
def ElementHurtUptoSaid : Prop := elementHurtUptoRow.holds Try.pinned (OpenSpec.upto elementHurtSpec)

end Rows
end Go.Proofs.Ytklhjegfkpmdoaa
