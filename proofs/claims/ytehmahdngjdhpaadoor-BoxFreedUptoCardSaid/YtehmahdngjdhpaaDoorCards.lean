/-
  DERIVED. GIVEN WITH THE SEED: THE CARDS: each row of YtehmahdngjdhpaaDoorRows.lean that lists a variable, with what it lists TIED to the program's text (the seventh form; the later family's looks); each row that meets fmt, with fmt's text TOLD by the authors' own Lean function (tested against real Go, not proved from fmt's source: count such statements apart). THE CARD IS WHAT COUNTS. Prove the row's statement (the work); the ties are given (YtehmahdngjdhpaaDoorTie.lean); close each card by the builder's one call (the guide's Derived/Test/ToyasCard.lean, 'card_holds'). Laid BY PROGRAM, IN A SANDBOX (cutbox-door.mjs). By AI agents, Wed Nov 11 2026. No macro, syntax, notation, axiom, sorry.
-/
import Derived.Test.YtehmahdngjdhpaaDoorRows
import GoSem.ClaimSeven
namespace Go.Proofs.YtehmahdngjdhpaaDoor
namespace Rows

/-- THE TIED CARD OF 'dioramalaw08.BoxParses'. -/
def boxParsesCard : Claim7 := { stood := { row := boxParsesRow, standIns := [], harness := (true, "62728f54ba7c13352756e8c18d1a9236c4542e45b95e420564281ea13de85772"), looks := true }, kinds := [], alts := [], laidByText := true, laidKinds := [.handle, .listed, .data], laidTests := true, laidLooks := .later }
def BoxParsesCardSaid : Prop := Claim7.holds Tryd.pinned (.plain (OpenSpec.ofChange boxParsesSpec)) boxParsesCard

/-- THE TIED CARD OF 'dioramalaw08.BoxSizes'. -/
def boxSizesCard : Claim7 := { stood := { row := boxSizesRow, standIns := [], harness := (true, "62728f54ba7c13352756e8c18d1a9236c4542e45b95e420564281ea13de85772"), looks := true }, kinds := [], alts := [], laidByText := true, laidKinds := [.handle, .listed, .data], laidTests := true, laidLooks := .later }
def BoxSizesCardSaid : Prop := Claim7.holds Tryd.pinned (.plain (OpenSpec.ofChange boxSizesSpec)) boxSizesCard

/-- THE TIED CARD OF 'dioramalaw08.BoxFrees'. -/
def boxFreesCard : Claim7 := { stood := { row := boxFreesRow, standIns := [], harness := (true, "62728f54ba7c13352756e8c18d1a9236c4542e45b95e420564281ea13de85772"), looks := true }, kinds := [], alts := [], laidByText := true, laidKinds := [.handle, .listed, .data], laidTests := true, laidLooks := .later }
def BoxFreesCardSaid : Prop := Claim7.holds Tryd.pinned (.plain (OpenSpec.ofChange boxFreesSpec)) boxFreesCard

/-- THE TIED CARD OF 'dioramalaw08.BoxNames'. -/
def boxNamesCard : Claim7 := { stood := { row := boxNamesRow, standIns := [], harness := (true, "62728f54ba7c13352756e8c18d1a9236c4542e45b95e420564281ea13de85772"), looks := true }, kinds := [], alts := [], laidByText := true, laidKinds := [.handle, .listed, .data], laidTests := true, laidLooks := .later }
def BoxNamesCardSaid : Prop := Claim7.holds Tryd.pinned (.plain (OpenSpec.ofChange boxNamesSpec)) boxNamesCard

/-- THE TIED CARD OF 'dioramalaw08.BoxFull'. -/
def boxFullCard : Claim7 := { stood := { row := boxFullRow, standIns := [], harness := (true, "62728f54ba7c13352756e8c18d1a9236c4542e45b95e420564281ea13de85772"), looks := true }, kinds := [], alts := [], laidByText := true, laidKinds := [.handle, .listed, .data], laidTests := true, laidLooks := .later }
def BoxFullCardSaid : Prop := Claim7.holds Tryd.pinned (.plain (OpenSpec.ofChange boxFullSpec)) boxFullCard

/-- THE TIED CARD OF 'dioramalaw08.BoxCovers'. -/
def boxCoversCard : Claim7 := { stood := { row := boxCoversRow, standIns := [], harness := (true, "62728f54ba7c13352756e8c18d1a9236c4542e45b95e420564281ea13de85772"), looks := true }, kinds := [], alts := [], laidByText := true, laidKinds := [.handle, .listed, .data], laidTests := true, laidLooks := .later }
def BoxCoversCardSaid : Prop := Claim7.holds Tryd.pinned (.plain (OpenSpec.ofChange boxCoversSpec)) boxCoversCard

/-- THE TIED CARD OF 'dioramalaw08.BoxFinds'. -/
def boxFindsCard : Claim7 := { stood := { row := boxFindsRow, standIns := [], harness := (true, "62728f54ba7c13352756e8c18d1a9236c4542e45b95e420564281ea13de85772"), looks := true }, kinds := [], alts := [], laidByText := true, laidKinds := [.handle, .listed, .data], laidTests := true, laidLooks := .later }
def BoxFindsCardSaid : Prop := Claim7.holds Tryd.pinned (.plain (OpenSpec.ofChange boxFindsSpec)) boxFindsCard

/-- THE TIED CARD OF 'dioramalaw08.BoxBegins'. -/
def boxBeginsCard : Claim7 := { stood := { row := boxBeginsRow, standIns := [], harness := (true, "62728f54ba7c13352756e8c18d1a9236c4542e45b95e420564281ea13de85772"), looks := true }, kinds := [], alts := [], laidByText := true, laidKinds := [.handle, .listed, .data], laidTests := true, laidLooks := .later }
def BoxBeginsCardSaid : Prop := Claim7.holds Tryd.pinned (.plain (OpenSpec.ofChange boxBeginsSpec)) boxBeginsCard

/-- THE TIED CARD OF 'dioramalaw08.BoxFreed'. -/
def boxFreedCard : Claim7 := { stood := { row := boxFreedRow, standIns := [], harness := (true, "62728f54ba7c13352756e8c18d1a9236c4542e45b95e420564281ea13de85772"), looks := true }, kinds := [], alts := [], laidByText := true, laidKinds := [.handle, .listed, .data], laidTests := true, laidLooks := .later }
def BoxFreedCardSaid : Prop := Claim7.holds Tryd.pinned (.plain (OpenSpec.ofChange boxFreedSpec)) boxFreedCard

/-- THE TIED CARD OF 'dioramalaw08.BoxWrites'. -/
def boxWritesCard : Claim7 := { stood := { row := boxWritesRow, standIns := [], harness := (true, "62728f54ba7c13352756e8c18d1a9236c4542e45b95e420564281ea13de85772"), looks := true }, kinds := [], alts := [], laidByText := true, laidKinds := [.handle, .listed, .data], laidTests := true, laidLooks := .later }
def BoxWritesCardSaid : Prop := Claim7.holds Tryd.pinned (.plain (OpenSpec.ofChange boxWritesSpec)) boxWritesCard

/-- THE TIED CARD OF 'dioramalaw08.BoxBack'. -/
def boxBackCard : Claim7 := { stood := { row := boxBackRow, standIns := [], harness := (true, "62728f54ba7c13352756e8c18d1a9236c4542e45b95e420564281ea13de85772"), looks := true }, kinds := [], alts := [], laidByText := true, laidKinds := [.handle, .listed, .data], laidTests := true, laidLooks := .later }
def BoxBackCardSaid : Prop := Claim7.holds Tryd.pinned (.plain (OpenSpec.ofChange boxBackSpec)) boxBackCard

/-- THE SECOND FORM's CARD OF 'dioramalaw08.BoxParses'. -/
def boxParsesUptoCard : Claim7 := { stood := { row := boxParsesUptoRow, standIns := [], harness := (true, "62728f54ba7c13352756e8c18d1a9236c4542e45b95e420564281ea13de85772"), looks := true }, kinds := [], alts := [], laidByText := true, laidKinds := [.handle, .listed, .data], laidTests := true, laidLooks := .later }
def BoxParsesUptoCardSaid : Prop := Claim7.holds Tryd.pinned (.plain (OpenSpec.upto boxParsesSpec)) boxParsesUptoCard

/-- THE SECOND FORM's CARD OF 'dioramalaw08.BoxSizes'. -/
def boxSizesUptoCard : Claim7 := { stood := { row := boxSizesUptoRow, standIns := [], harness := (true, "62728f54ba7c13352756e8c18d1a9236c4542e45b95e420564281ea13de85772"), looks := true }, kinds := [], alts := [], laidByText := true, laidKinds := [.handle, .listed, .data], laidTests := true, laidLooks := .later }
def BoxSizesUptoCardSaid : Prop := Claim7.holds Tryd.pinned (.plain (OpenSpec.upto boxSizesSpec)) boxSizesUptoCard

/-- THE SECOND FORM's CARD OF 'dioramalaw08.BoxFrees'. -/
def boxFreesUptoCard : Claim7 := { stood := { row := boxFreesUptoRow, standIns := [], harness := (true, "62728f54ba7c13352756e8c18d1a9236c4542e45b95e420564281ea13de85772"), looks := true }, kinds := [], alts := [], laidByText := true, laidKinds := [.handle, .listed, .data], laidTests := true, laidLooks := .later }
def BoxFreesUptoCardSaid : Prop := Claim7.holds Tryd.pinned (.plain (OpenSpec.upto boxFreesSpec)) boxFreesUptoCard

/-- THE SECOND FORM's CARD OF 'dioramalaw08.BoxNames'. -/
def boxNamesUptoCard : Claim7 := { stood := { row := boxNamesUptoRow, standIns := [], harness := (true, "62728f54ba7c13352756e8c18d1a9236c4542e45b95e420564281ea13de85772"), looks := true }, kinds := [], alts := [], laidByText := true, laidKinds := [.handle, .listed, .data], laidTests := true, laidLooks := .later }
def BoxNamesUptoCardSaid : Prop := Claim7.holds Tryd.pinned (.plain (OpenSpec.upto boxNamesSpec)) boxNamesUptoCard

/-- THE SECOND FORM's CARD OF 'dioramalaw08.BoxFull'. -/
def boxFullUptoCard : Claim7 := { stood := { row := boxFullUptoRow, standIns := [], harness := (true, "62728f54ba7c13352756e8c18d1a9236c4542e45b95e420564281ea13de85772"), looks := true }, kinds := [], alts := [], laidByText := true, laidKinds := [.handle, .listed, .data], laidTests := true, laidLooks := .later }
def BoxFullUptoCardSaid : Prop := Claim7.holds Tryd.pinned (.plain (OpenSpec.upto boxFullSpec)) boxFullUptoCard

/-- THE SECOND FORM's CARD OF 'dioramalaw08.BoxCovers'. -/
def boxCoversUptoCard : Claim7 := { stood := { row := boxCoversUptoRow, standIns := [], harness := (true, "62728f54ba7c13352756e8c18d1a9236c4542e45b95e420564281ea13de85772"), looks := true }, kinds := [], alts := [], laidByText := true, laidKinds := [.handle, .listed, .data], laidTests := true, laidLooks := .later }
def BoxCoversUptoCardSaid : Prop := Claim7.holds Tryd.pinned (.plain (OpenSpec.upto boxCoversSpec)) boxCoversUptoCard

/-- THE SECOND FORM's CARD OF 'dioramalaw08.BoxFinds'. -/
def boxFindsUptoCard : Claim7 := { stood := { row := boxFindsUptoRow, standIns := [], harness := (true, "62728f54ba7c13352756e8c18d1a9236c4542e45b95e420564281ea13de85772"), looks := true }, kinds := [], alts := [], laidByText := true, laidKinds := [.handle, .listed, .data], laidTests := true, laidLooks := .later }
def BoxFindsUptoCardSaid : Prop := Claim7.holds Tryd.pinned (.plain (OpenSpec.upto boxFindsSpec)) boxFindsUptoCard

/-- THE SECOND FORM's CARD OF 'dioramalaw08.BoxBegins'. -/
def boxBeginsUptoCard : Claim7 := { stood := { row := boxBeginsUptoRow, standIns := [], harness := (true, "62728f54ba7c13352756e8c18d1a9236c4542e45b95e420564281ea13de85772"), looks := true }, kinds := [], alts := [], laidByText := true, laidKinds := [.handle, .listed, .data], laidTests := true, laidLooks := .later }
def BoxBeginsUptoCardSaid : Prop := Claim7.holds Tryd.pinned (.plain (OpenSpec.upto boxBeginsSpec)) boxBeginsUptoCard

/-- THE SECOND FORM's CARD OF 'dioramalaw08.BoxFreed'. -/
def boxFreedUptoCard : Claim7 := { stood := { row := boxFreedUptoRow, standIns := [], harness := (true, "62728f54ba7c13352756e8c18d1a9236c4542e45b95e420564281ea13de85772"), looks := true }, kinds := [], alts := [], laidByText := true, laidKinds := [.handle, .listed, .data], laidTests := true, laidLooks := .later }
def BoxFreedUptoCardSaid : Prop := Claim7.holds Tryd.pinned (.plain (OpenSpec.upto boxFreedSpec)) boxFreedUptoCard

/-- THE SECOND FORM's CARD OF 'dioramalaw08.BoxWrites'. -/
def boxWritesUptoCard : Claim7 := { stood := { row := boxWritesUptoRow, standIns := [], harness := (true, "62728f54ba7c13352756e8c18d1a9236c4542e45b95e420564281ea13de85772"), looks := true }, kinds := [], alts := [], laidByText := true, laidKinds := [.handle, .listed, .data], laidTests := true, laidLooks := .later }
def BoxWritesUptoCardSaid : Prop := Claim7.holds Tryd.pinned (.plain (OpenSpec.upto boxWritesSpec)) boxWritesUptoCard

/-- THE SECOND FORM's CARD OF 'dioramalaw08.BoxBack'. -/
def boxBackUptoCard : Claim7 := { stood := { row := boxBackUptoRow, standIns := [], harness := (true, "62728f54ba7c13352756e8c18d1a9236c4542e45b95e420564281ea13de85772"), looks := true }, kinds := [], alts := [], laidByText := true, laidKinds := [.handle, .listed, .data], laidTests := true, laidLooks := .later }
def BoxBackUptoCardSaid : Prop := Claim7.holds Tryd.pinned (.plain (OpenSpec.upto boxBackSpec)) boxBackUptoCard
end Rows
end Go.Proofs.YtehmahdngjdhpaaDoor
