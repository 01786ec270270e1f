/-
  NARROWER THAN 'FOR EVERY INPUT', by the rows' own cells (each row's printed sentence says how): BoxParses: laid · BoxSizes: loops, laid · BoxFrees: laid · BoxNames: laid · BoxFull: loops, laid · BoxCovers: laid · BoxFinds: loops, laid · BoxBegins: loops, laid · BoxFreed: loops, laid · BoxWrites: loops, laid · BoxBack: loops, laid.
  DERIVED. THE GIVEN ROWS OF THIS SEAT. 11 by the template 'for every input the law returns true; each argument reads behind the call as it read before'; 0 by the template 'total and deterministic' (their statements: YtehmahdngjdhpaaDoorTotals.lean).
  GIVEN WITH THE SEED: the statements are not yours to turn. If you find one false, say at which input.
  Laid BY PROGRAM, IN A SANDBOX (cutbox-rows.mjs): the forced cells as the released guide's own fill.sh prints them over the translation 2e5533fb06ce9626… (all of the seat's roots in one cut). By AI agents, Wed Nov 11 2026. No macro, syntax, notation, axiom, sorry.
-/
import Derived.Test.YtehmahdngjdhpaaDoorChecked
import GoSem.Claim
import GoSem.ClaimJoined
import GoSem.ClaimMapViews
import Derived.JoinedTies
import Derived.KernelRfl
namespace Go.Proofs.YtehmahdngjdhpaaDoor
/- THE CELL 'sum', in the pinned program and in every row, IS THE sha256 OF THE DUMP (.gsa) THAT YtehmahdngjdhpaaDoorProg.lean LOADS. Nothing in Lean hashes anything: it is a label: what it is worth is what the hold of that sum in a sandbox is worth. -/
noncomputable def Tryd.pinned : Pinned := { name := "ytehmahdngjdhpaadoor", sum := "2e5533fb06ce962635dcc9d274ace862ac239948eb0d1bbfac5aa96743bb8028", checked := Tryd.checked }
namespace Rows
def none {H : Type} : Left H := { results := [], args := [] }

/- WHAT THE LISTED PACKAGE-LEVEL VARIABLES READ AS WHEN THE CALL BEGINS. Each datum BY PROGRAM (the guide's laid-datum.mjs) off the statement by which the dump's own 'gosem.cut.vars' lays the variable. In a bare row this is a premise. The card (YtehmahdngjdhpaaDoorCards.lean) ties it to the program's text. -/
def laid_errors_errorType {H : Type} : DataW H := .iface "internal/reflectlite.rtype" (.agg [.ptr (.lit (.string [101, 114, 114, 111, 114]))])
def laid_unicode_White_Space {H : Type} : DataW H := .ptr (.agg [.slice [.agg [.lit (.int .u16 9), .lit (.int .u16 13), .lit (.int .u16 1)], .agg [.lit (.int .u16 32), .lit (.int .u16 133), .lit (.int .u16 101)], .agg [.lit (.int .u16 160), .lit (.int .u16 5760), .lit (.int .u16 5600)], .agg [.lit (.int .u16 8192), .lit (.int .u16 8202), .lit (.int .u16 1)], .agg [.lit (.int .u16 8232), .lit (.int .u16 8233), .lit (.int .u16 1)], .agg [.lit (.int .u16 8239), .lit (.int .u16 8287), .lit (.int .u16 48)], .agg [.lit (.int .u16 12288), .lit (.int .u16 12288), .lit (.int .u16 1)]] [], .nil, .lit (.int .i64 2)])
def laid_strings_asciiSpace {H : Type} : DataW H := .agg [.lit (.int .u8 0), .lit (.int .u8 0), .lit (.int .u8 0), .lit (.int .u8 0), .lit (.int .u8 0), .lit (.int .u8 0), .lit (.int .u8 0), .lit (.int .u8 0), .lit (.int .u8 0), .lit (.int .u8 1), .lit (.int .u8 1), .lit (.int .u8 1), .lit (.int .u8 1), .lit (.int .u8 1), .lit (.int .u8 0), .lit (.int .u8 0), .lit (.int .u8 0), .lit (.int .u8 0), .lit (.int .u8 0), .lit (.int .u8 0), .lit (.int .u8 0), .lit (.int .u8 0), .lit (.int .u8 0), .lit (.int .u8 0), .lit (.int .u8 0), .lit (.int .u8 0), .lit (.int .u8 0), .lit (.int .u8 0), .lit (.int .u8 0), .lit (.int .u8 0), .lit (.int .u8 0), .lit (.int .u8 0), .lit (.int .u8 1), .lit (.int .u8 0), .lit (.int .u8 0), .lit (.int .u8 0), .lit (.int .u8 0), .lit (.int .u8 0), .lit (.int .u8 0), .lit (.int .u8 0), .lit (.int .u8 0), .lit (.int .u8 0), .lit (.int .u8 0), .lit (.int .u8 0), .lit (.int .u8 0), .lit (.int .u8 0), .lit (.int .u8 0), .lit (.int .u8 0), .lit (.int .u8 0), .lit (.int .u8 0), .lit (.int .u8 0), .lit (.int .u8 0), .lit (.int .u8 0), .lit (.int .u8 0), .lit (.int .u8 0), .lit (.int .u8 0), .lit (.int .u8 0), .lit (.int .u8 0), .lit (.int .u8 0), .lit (.int .u8 0), .lit (.int .u8 0), .lit (.int .u8 0), .lit (.int .u8 0), .lit (.int .u8 0), .lit (.int .u8 0), .lit (.int .u8 0), .lit (.int .u8 0), .lit (.int .u8 0), .lit (.int .u8 0), .lit (.int .u8 0), .lit (.int .u8 0), .lit (.int .u8 0), .lit (.int .u8 0), .lit (.int .u8 0), .lit (.int .u8 0), .lit (.int .u8 0), .lit (.int .u8 0), .lit (.int .u8 0), .lit (.int .u8 0), .lit (.int .u8 0), .lit (.int .u8 0), .lit (.int .u8 0), .lit (.int .u8 0), .lit (.int .u8 0), .lit (.int .u8 0), .lit (.int .u8 0), .lit (.int .u8 0), .lit (.int .u8 0), .lit (.int .u8 0), .lit (.int .u8 0), .lit (.int .u8 0), .lit (.int .u8 0), .lit (.int .u8 0), .lit (.int .u8 0), .lit (.int .u8 0), .lit (.int .u8 0), .lit (.int .u8 0), .lit (.int .u8 0), .lit (.int .u8 0), .lit (.int .u8 0), .lit (.int .u8 0), .lit (.int .u8 0), .lit (.int .u8 0), .lit (.int .u8 0), .lit (.int .u8 0), .lit (.int .u8 0), .lit (.int .u8 0), .lit (.int .u8 0), .lit (.int .u8 0), .lit (.int .u8 0), .lit (.int .u8 0), .lit (.int .u8 0), .lit (.int .u8 0), .lit (.int .u8 0), .lit (.int .u8 0), .lit (.int .u8 0), .lit (.int .u8 0), .lit (.int .u8 0), .lit (.int .u8 0), .lit (.int .u8 0), .lit (.int .u8 0), .lit (.int .u8 0), .lit (.int .u8 0), .lit (.int .u8 0), .lit (.int .u8 0), .lit (.int .u8 0), .lit (.int .u8 0), .lit (.int .u8 0), .lit (.int .u8 0), .lit (.int .u8 0), .lit (.int .u8 0), .lit (.int .u8 0), .lit (.int .u8 0), .lit (.int .u8 0), .lit (.int .u8 0), .lit (.int .u8 0), .lit (.int .u8 0), .lit (.int .u8 0), .lit (.int .u8 0), .lit (.int .u8 0), .lit (.int .u8 0), .lit (.int .u8 0), .lit (.int .u8 0), .lit (.int .u8 0), .lit (.int .u8 0), .lit (.int .u8 0), .lit (.int .u8 0), .lit (.int .u8 0), .lit (.int .u8 0), .lit (.int .u8 0), .lit (.int .u8 0), .lit (.int .u8 0), .lit (.int .u8 0), .lit (.int .u8 0), .lit (.int .u8 0), .lit (.int .u8 0), .lit (.int .u8 0), .lit (.int .u8 0), .lit (.int .u8 0), .lit (.int .u8 0), .lit (.int .u8 0), .lit (.int .u8 0), .lit (.int .u8 0), .lit (.int .u8 0), .lit (.int .u8 0), .lit (.int .u8 0), .lit (.int .u8 0), .lit (.int .u8 0), .lit (.int .u8 0), .lit (.int .u8 0), .lit (.int .u8 0), .lit (.int .u8 0), .lit (.int .u8 0), .lit (.int .u8 0), .lit (.int .u8 0), .lit (.int .u8 0), .lit (.int .u8 0), .lit (.int .u8 0), .lit (.int .u8 0), .lit (.int .u8 0), .lit (.int .u8 0), .lit (.int .u8 0), .lit (.int .u8 0), .lit (.int .u8 0), .lit (.int .u8 0), .lit (.int .u8 0), .lit (.int .u8 0), .lit (.int .u8 0), .lit (.int .u8 0), .lit (.int .u8 0), .lit (.int .u8 0), .lit (.int .u8 0), .lit (.int .u8 0), .lit (.int .u8 0), .lit (.int .u8 0), .lit (.int .u8 0), .lit (.int .u8 0), .lit (.int .u8 0), .lit (.int .u8 0), .lit (.int .u8 0), .lit (.int .u8 0), .lit (.int .u8 0), .lit (.int .u8 0), .lit (.int .u8 0), .lit (.int .u8 0), .lit (.int .u8 0), .lit (.int .u8 0), .lit (.int .u8 0), .lit (.int .u8 0), .lit (.int .u8 0), .lit (.int .u8 0), .lit (.int .u8 0), .lit (.int .u8 0), .lit (.int .u8 0), .lit (.int .u8 0), .lit (.int .u8 0), .lit (.int .u8 0), .lit (.int .u8 0), .lit (.int .u8 0), .lit (.int .u8 0), .lit (.int .u8 0), .lit (.int .u8 0), .lit (.int .u8 0), .lit (.int .u8 0), .lit (.int .u8 0), .lit (.int .u8 0), .lit (.int .u8 0), .lit (.int .u8 0), .lit (.int .u8 0), .lit (.int .u8 0), .lit (.int .u8 0), .lit (.int .u8 0), .lit (.int .u8 0), .lit (.int .u8 0), .lit (.int .u8 0), .lit (.int .u8 0), .lit (.int .u8 0), .lit (.int .u8 0), .lit (.int .u8 0), .lit (.int .u8 0), .lit (.int .u8 0), .lit (.int .u8 0), .lit (.int .u8 0), .lit (.int .u8 0), .lit (.int .u8 0), .lit (.int .u8 0), .lit (.int .u8 0), .lit (.int .u8 0), .lit (.int .u8 0), .lit (.int .u8 0), .lit (.int .u8 0), .lit (.int .u8 0), .lit (.int .u8 0), .lit (.int .u8 0), .lit (.int .u8 0), .lit (.int .u8 0)]

/-- 'dioramalaw08.BoxParses': WHATEVER THE INPUT: true; the input reads as it did. -/
def boxParsesSpec : ChangeSpec := { name := "boxParses", fn := fun _ => fun
  | [d] => { results := [.lit (.bool true)], args := [d] }
  | _ => none }
def boxParsesRow : OpenClaim := { program := "ytehmahdngjdhpaadoor", sum := "2e5533fb06ce962635dcc9d274ace862ac239948eb0d1bbfac5aa96743bb8028", func := "diorama/dioramalaw08.BoxParses", spec := "boxParses", inPlace := ["internal/reflectlite.ValueOf", "(internal/reflectlite.Value).Type", "(internal/reflectlite.Value).IsNil", "internal/reflectlite.TypeOf", "(internal/reflectlite.Value).Elem", "(internal/reflectlite.Value).Set"], unfollowed := true, recurses := true, named := ["strings.asciiSpace", "unicode.White_Space", "errors.errorType"], apart := false, laid := [("errors.errorType", laid_errors_errorType), ("unicode.White_Space", laid_unicode_White_Space), ("strings.asciiSpace", laid_strings_asciiSpace)] }
def BoxParsesSaid : Prop := boxParsesRow.holds Tryd.pinned (OpenSpec.ofChange boxParsesSpec)

/-- ITS FALSE NEIGHBOUR: 'it returns false'. Refute it at one input. -/
def boxParsesWrong : ChangeSpec := { name := "boxParses", fn := fun _ => fun
  | [d] => { results := [.lit (.bool false)], args := [d] }
  | _ => none }
def BoxParsesWrongFalsely : Prop := boxParsesRow.holds Tryd.pinned (OpenSpec.ofChange boxParsesWrong)

/-- 'dioramalaw08.BoxSizes': WHATEVER THE INPUT: true; the input reads as it did. -/
def boxSizesSpec : ChangeSpec := { name := "boxSizes", fn := fun _ => fun
  | [d] => { results := [.lit (.bool true)], args := [d] }
  | _ => none }
def boxSizesRow : OpenClaim := { program := "ytehmahdngjdhpaadoor", sum := "2e5533fb06ce962635dcc9d274ace862ac239948eb0d1bbfac5aa96743bb8028", func := "diorama/dioramalaw08.BoxSizes", spec := "boxSizes", inPlace := ["internal/reflectlite.ValueOf", "(internal/reflectlite.Value).Type", "(internal/reflectlite.Value).IsNil", "internal/reflectlite.TypeOf", "(internal/reflectlite.Value).Elem", "(internal/reflectlite.Value).Set"], unfollowed := true, recurses := true, named := ["strings.asciiSpace", "unicode.White_Space", "errors.errorType"], loops := true, apart := false, laid := [("errors.errorType", laid_errors_errorType), ("unicode.White_Space", laid_unicode_White_Space), ("strings.asciiSpace", laid_strings_asciiSpace)] }
def BoxSizesSaid : Prop := boxSizesRow.holds Tryd.pinned (OpenSpec.ofChange boxSizesSpec)

/-- ITS FALSE NEIGHBOUR: 'it returns false'. Refute it at one input. -/
def boxSizesWrong : ChangeSpec := { name := "boxSizes", fn := fun _ => fun
  | [d] => { results := [.lit (.bool false)], args := [d] }
  | _ => none }
def BoxSizesWrongFalsely : Prop := boxSizesRow.holds Tryd.pinned (OpenSpec.ofChange boxSizesWrong)

/-- 'dioramalaw08.BoxFrees': WHATEVER THE INPUT: true; the input reads as it did. -/
def boxFreesSpec : ChangeSpec := { name := "boxFrees", fn := fun _ => fun
  | [d] => { results := [.lit (.bool true)], args := [d] }
  | _ => none }
def boxFreesRow : OpenClaim := { program := "ytehmahdngjdhpaadoor", sum := "2e5533fb06ce962635dcc9d274ace862ac239948eb0d1bbfac5aa96743bb8028", func := "diorama/dioramalaw08.BoxFrees", spec := "boxFrees", inPlace := ["internal/reflectlite.ValueOf", "(internal/reflectlite.Value).Type", "(internal/reflectlite.Value).IsNil", "internal/reflectlite.TypeOf", "(internal/reflectlite.Value).Elem", "(internal/reflectlite.Value).Set"], unfollowed := true, recurses := true, named := ["strings.asciiSpace", "unicode.White_Space", "errors.errorType"], apart := false, laid := [("errors.errorType", laid_errors_errorType), ("unicode.White_Space", laid_unicode_White_Space), ("strings.asciiSpace", laid_strings_asciiSpace)] }
def BoxFreesSaid : Prop := boxFreesRow.holds Tryd.pinned (OpenSpec.ofChange boxFreesSpec)

/-- ITS FALSE NEIGHBOUR: 'it returns false'. Refute it at one input. -/
def boxFreesWrong : ChangeSpec := { name := "boxFrees", fn := fun _ => fun
  | [d] => { results := [.lit (.bool false)], args := [d] }
  | _ => none }
def BoxFreesWrongFalsely : Prop := boxFreesRow.holds Tryd.pinned (OpenSpec.ofChange boxFreesWrong)

/-- 'dioramalaw08.BoxNames': WHATEVER THE INPUT: true; the input reads as it did. -/
def boxNamesSpec : ChangeSpec := { name := "boxNames", fn := fun _ => fun
  | [d1, d2] => { results := [.lit (.bool true)], args := [d1, d2] }
  | _ => none }
def boxNamesRow : OpenClaim := { program := "ytehmahdngjdhpaadoor", sum := "2e5533fb06ce962635dcc9d274ace862ac239948eb0d1bbfac5aa96743bb8028", func := "diorama/dioramalaw08.BoxNames", spec := "boxNames", inPlace := ["internal/reflectlite.ValueOf", "(internal/reflectlite.Value).Type", "(internal/reflectlite.Value).IsNil", "internal/reflectlite.TypeOf", "(internal/reflectlite.Value).Elem", "(internal/reflectlite.Value).Set"], unfollowed := true, recurses := true, named := ["strings.asciiSpace", "unicode.White_Space", "errors.errorType"], apart := false, laid := [("errors.errorType", laid_errors_errorType), ("unicode.White_Space", laid_unicode_White_Space), ("strings.asciiSpace", laid_strings_asciiSpace)] }
def BoxNamesSaid : Prop := boxNamesRow.holds Tryd.pinned (OpenSpec.ofChange boxNamesSpec)

/-- ITS FALSE NEIGHBOUR: 'it returns false'. Refute it at one input. -/
def boxNamesWrong : ChangeSpec := { name := "boxNames", fn := fun _ => fun
  | [d1, d2] => { results := [.lit (.bool false)], args := [d1, d2] }
  | _ => none }
def BoxNamesWrongFalsely : Prop := boxNamesRow.holds Tryd.pinned (OpenSpec.ofChange boxNamesWrong)

/-- 'dioramalaw08.BoxFull': WHATEVER THE INPUT: true; the input reads as it did. -/
def boxFullSpec : ChangeSpec := { name := "boxFull", fn := fun _ => fun
  | [d1, d2] => { results := [.lit (.bool true)], args := [d1, d2] }
  | _ => none }
def boxFullRow : OpenClaim := { program := "ytehmahdngjdhpaadoor", sum := "2e5533fb06ce962635dcc9d274ace862ac239948eb0d1bbfac5aa96743bb8028", func := "diorama/dioramalaw08.BoxFull", spec := "boxFull", inPlace := ["internal/reflectlite.ValueOf", "(internal/reflectlite.Value).Type", "(internal/reflectlite.Value).IsNil", "internal/reflectlite.TypeOf", "(internal/reflectlite.Value).Elem", "(internal/reflectlite.Value).Set"], unfollowed := true, recurses := true, named := ["strings.asciiSpace", "unicode.White_Space", "errors.errorType"], loops := true, apart := false, laid := [("errors.errorType", laid_errors_errorType), ("unicode.White_Space", laid_unicode_White_Space), ("strings.asciiSpace", laid_strings_asciiSpace)] }
def BoxFullSaid : Prop := boxFullRow.holds Tryd.pinned (OpenSpec.ofChange boxFullSpec)

/-- ITS FALSE NEIGHBOUR: 'it returns false'. Refute it at one input. -/
def boxFullWrong : ChangeSpec := { name := "boxFull", fn := fun _ => fun
  | [d1, d2] => { results := [.lit (.bool false)], args := [d1, d2] }
  | _ => none }
def BoxFullWrongFalsely : Prop := boxFullRow.holds Tryd.pinned (OpenSpec.ofChange boxFullWrong)

/-- 'dioramalaw08.BoxCovers': WHATEVER THE INPUT: true; the input reads as it did. -/
def boxCoversSpec : ChangeSpec := { name := "boxCovers", fn := fun _ => fun
  | [d] => { results := [.lit (.bool true)], args := [d] }
  | _ => none }
def boxCoversRow : OpenClaim := { program := "ytehmahdngjdhpaadoor", sum := "2e5533fb06ce962635dcc9d274ace862ac239948eb0d1bbfac5aa96743bb8028", func := "diorama/dioramalaw08.BoxCovers", spec := "boxCovers", inPlace := ["internal/reflectlite.ValueOf", "(internal/reflectlite.Value).Type", "(internal/reflectlite.Value).IsNil", "internal/reflectlite.TypeOf", "(internal/reflectlite.Value).Elem", "(internal/reflectlite.Value).Set"], unfollowed := true, recurses := true, named := ["strings.asciiSpace", "unicode.White_Space", "errors.errorType"], apart := false, laid := [("errors.errorType", laid_errors_errorType), ("unicode.White_Space", laid_unicode_White_Space), ("strings.asciiSpace", laid_strings_asciiSpace)] }
def BoxCoversSaid : Prop := boxCoversRow.holds Tryd.pinned (OpenSpec.ofChange boxCoversSpec)

/-- ITS FALSE NEIGHBOUR: 'it returns false'. Refute it at one input. -/
def boxCoversWrong : ChangeSpec := { name := "boxCovers", fn := fun _ => fun
  | [d] => { results := [.lit (.bool false)], args := [d] }
  | _ => none }
def BoxCoversWrongFalsely : Prop := boxCoversRow.holds Tryd.pinned (OpenSpec.ofChange boxCoversWrong)

/-- 'dioramalaw08.BoxFinds': WHATEVER THE INPUT: true; the input reads as it did. -/
def boxFindsSpec : ChangeSpec := { name := "boxFinds", fn := fun _ => fun
  | [d1, d2, d3] => { results := [.lit (.bool true)], args := [d1, d2, d3] }
  | _ => none }
def boxFindsRow : OpenClaim := { program := "ytehmahdngjdhpaadoor", sum := "2e5533fb06ce962635dcc9d274ace862ac239948eb0d1bbfac5aa96743bb8028", func := "diorama/dioramalaw08.BoxFinds", spec := "boxFinds", inPlace := ["internal/reflectlite.ValueOf", "(internal/reflectlite.Value).Type", "(internal/reflectlite.Value).IsNil", "internal/reflectlite.TypeOf", "(internal/reflectlite.Value).Elem", "(internal/reflectlite.Value).Set"], unfollowed := true, recurses := true, named := ["strings.asciiSpace", "unicode.White_Space", "errors.errorType"], loops := true, apart := false, laid := [("errors.errorType", laid_errors_errorType), ("unicode.White_Space", laid_unicode_White_Space), ("strings.asciiSpace", laid_strings_asciiSpace)] }
def BoxFindsSaid : Prop := boxFindsRow.holds Tryd.pinned (OpenSpec.ofChange boxFindsSpec)

/-- ITS FALSE NEIGHBOUR: 'it returns false'. Refute it at one input. -/
def boxFindsWrong : ChangeSpec := { name := "boxFinds", fn := fun _ => fun
  | [d1, d2, d3] => { results := [.lit (.bool false)], args := [d1, d2, d3] }
  | _ => none }
def BoxFindsWrongFalsely : Prop := boxFindsRow.holds Tryd.pinned (OpenSpec.ofChange boxFindsWrong)

/-- 'dioramalaw08.BoxBegins': WHATEVER THE INPUT: true; the input reads as it did. -/
def boxBeginsSpec : ChangeSpec := { name := "boxBegins", fn := fun _ => fun
  | [d1, d2, d3] => { results := [.lit (.bool true)], args := [d1, d2, d3] }
  | _ => none }
def boxBeginsRow : OpenClaim := { program := "ytehmahdngjdhpaadoor", sum := "2e5533fb06ce962635dcc9d274ace862ac239948eb0d1bbfac5aa96743bb8028", func := "diorama/dioramalaw08.BoxBegins", spec := "boxBegins", inPlace := ["internal/reflectlite.ValueOf", "(internal/reflectlite.Value).Type", "(internal/reflectlite.Value).IsNil", "internal/reflectlite.TypeOf", "(internal/reflectlite.Value).Elem", "(internal/reflectlite.Value).Set"], unfollowed := true, recurses := true, named := ["strings.asciiSpace", "unicode.White_Space", "errors.errorType"], loops := true, apart := false, laid := [("errors.errorType", laid_errors_errorType), ("unicode.White_Space", laid_unicode_White_Space), ("strings.asciiSpace", laid_strings_asciiSpace)] }
def BoxBeginsSaid : Prop := boxBeginsRow.holds Tryd.pinned (OpenSpec.ofChange boxBeginsSpec)

/-- ITS FALSE NEIGHBOUR: 'it returns false'. Refute it at one input. -/
def boxBeginsWrong : ChangeSpec := { name := "boxBegins", fn := fun _ => fun
  | [d1, d2, d3] => { results := [.lit (.bool false)], args := [d1, d2, d3] }
  | _ => none }
def BoxBeginsWrongFalsely : Prop := boxBeginsRow.holds Tryd.pinned (OpenSpec.ofChange boxBeginsWrong)

/-- 'dioramalaw08.BoxFreed': WHATEVER THE INPUT: true; the input reads as it did. -/
def boxFreedSpec : ChangeSpec := { name := "boxFreed", fn := fun _ => fun
  | [d1, d2, d3] => { results := [.lit (.bool true)], args := [d1, d2, d3] }
  | _ => none }
def boxFreedRow : OpenClaim := { program := "ytehmahdngjdhpaadoor", sum := "2e5533fb06ce962635dcc9d274ace862ac239948eb0d1bbfac5aa96743bb8028", func := "diorama/dioramalaw08.BoxFreed", spec := "boxFreed", inPlace := ["internal/reflectlite.ValueOf", "(internal/reflectlite.Value).Type", "(internal/reflectlite.Value).IsNil", "internal/reflectlite.TypeOf", "(internal/reflectlite.Value).Elem", "(internal/reflectlite.Value).Set"], unfollowed := true, recurses := true, named := ["strings.asciiSpace", "unicode.White_Space", "errors.errorType"], loops := true, apart := false, laid := [("errors.errorType", laid_errors_errorType), ("unicode.White_Space", laid_unicode_White_Space), ("strings.asciiSpace", laid_strings_asciiSpace)] }
def BoxFreedSaid : Prop := boxFreedRow.holds Tryd.pinned (OpenSpec.ofChange boxFreedSpec)

/-- ITS FALSE NEIGHBOUR: 'it returns false'. Refute it at one input. -/
def boxFreedWrong : ChangeSpec := { name := "boxFreed", fn := fun _ => fun
  | [d1, d2, d3] => { results := [.lit (.bool false)], args := [d1, d2, d3] }
  | _ => none }
def BoxFreedWrongFalsely : Prop := boxFreedRow.holds Tryd.pinned (OpenSpec.ofChange boxFreedWrong)

/-- 'dioramalaw08.BoxWrites': WHATEVER THE INPUT: true; the input reads as it did. -/
def boxWritesSpec : ChangeSpec := { name := "boxWrites", fn := fun _ => fun
  | [d] => { results := [.lit (.bool true)], args := [d] }
  | _ => none }
def boxWritesRow : OpenClaim := { program := "ytehmahdngjdhpaadoor", sum := "2e5533fb06ce962635dcc9d274ace862ac239948eb0d1bbfac5aa96743bb8028", func := "diorama/dioramalaw08.BoxWrites", spec := "boxWrites", inPlace := ["internal/reflectlite.ValueOf", "(internal/reflectlite.Value).Type", "(internal/reflectlite.Value).IsNil", "internal/reflectlite.TypeOf", "(internal/reflectlite.Value).Elem", "(internal/reflectlite.Value).Set"], unfollowed := true, recurses := true, named := ["strings.asciiSpace", "unicode.White_Space", "errors.errorType"], loops := true, apart := false, laid := [("errors.errorType", laid_errors_errorType), ("unicode.White_Space", laid_unicode_White_Space), ("strings.asciiSpace", laid_strings_asciiSpace)] }
def BoxWritesSaid : Prop := boxWritesRow.holds Tryd.pinned (OpenSpec.ofChange boxWritesSpec)

/-- ITS FALSE NEIGHBOUR: 'it returns false'. Refute it at one input. -/
def boxWritesWrong : ChangeSpec := { name := "boxWrites", fn := fun _ => fun
  | [d] => { results := [.lit (.bool false)], args := [d] }
  | _ => none }
def BoxWritesWrongFalsely : Prop := boxWritesRow.holds Tryd.pinned (OpenSpec.ofChange boxWritesWrong)

/-- 'dioramalaw08.BoxBack': WHATEVER THE INPUT: true; the input reads as it did. -/
def boxBackSpec : ChangeSpec := { name := "boxBack", fn := fun _ => fun
  | [d] => { results := [.lit (.bool true)], args := [d] }
  | _ => none }
def boxBackRow : OpenClaim := { program := "ytehmahdngjdhpaadoor", sum := "2e5533fb06ce962635dcc9d274ace862ac239948eb0d1bbfac5aa96743bb8028", func := "diorama/dioramalaw08.BoxBack", spec := "boxBack", inPlace := ["internal/reflectlite.ValueOf", "(internal/reflectlite.Value).Type", "(internal/reflectlite.Value).IsNil", "internal/reflectlite.TypeOf", "(internal/reflectlite.Value).Elem", "(internal/reflectlite.Value).Set"], unfollowed := true, recurses := true, named := ["strings.asciiSpace", "unicode.White_Space", "errors.errorType"], loops := true, apart := false, laid := [("errors.errorType", laid_errors_errorType), ("unicode.White_Space", laid_unicode_White_Space), ("strings.asciiSpace", laid_strings_asciiSpace)] }
def BoxBackSaid : Prop := boxBackRow.holds Tryd.pinned (OpenSpec.ofChange boxBackSpec)

/-- ITS FALSE NEIGHBOUR: 'it returns false'. Refute it at one input. -/
def boxBackWrong : ChangeSpec := { name := "boxBack", fn := fun _ => fun
  | [d] => { results := [.lit (.bool false)], args := [d] }
  | _ => none }
def BoxBackWrongFalsely : Prop := boxBackRow.holds Tryd.pinned (OpenSpec.ofChange boxBackWrong)

/- THE SECOND FORM. 'bulk': how many values and letters a reading holds, each counted each time it is reached (what is shared counts as often as it is met; a slice's spare places count too). A statement '..UptoSaid' is the law's where the arguments, and the package variables that the reading takes, are together of bulk at most 1048576: NARROWER than '..Said'. Prove '..Said' where nothing that the law and all that it calls make is longer than what came in: it says more and counts as full. Else prove '..UptoSaid'. A law counts once. -/
mutual
def uptoBulk {H : Type} : DataW H → Nat
  | .lit (.string bytes) => bytes.length + 1
  | .lit _ => 1
  | .nil => 1
  | .ptr d => uptoBulk d + 1
  | .slice elems spare => uptoBulkAll elems + uptoBulkAll spare + 1
  | .agg parts => uptoBulkAll parts + 1
  | .iface _ d => uptoBulk d + 1
  | .map entries => uptoBulkEntries entries + 1
  | .held _ => 1
def uptoBulkAll {H : Type} : List (DataW H) → Nat
  | [] => 0
  | d :: r => uptoBulk d + uptoBulkAll r
def uptoBulkEntries {H : Type} : List (Lit × DataW H) → Nat
  | [] => 0
  | x :: r => uptoBulkEntry x + uptoBulkEntries r
def uptoBulkEntry {H : Type} : Lit × DataW H → Nat
  | (.string bytes, d) => bytes.length + uptoBulk d + 1
  | (_, d) => uptoBulk d + 1
 end
def uptoSmall : (H : Type) → List (DataW H) → Bool := fun _ ds => decide (uptoBulkAll ds ≤ 1048576)
def OpenSpec.upto (s : _root_.Go.ChangeSpec) : _root_.Go.OpenSpec := { _root_.Go.OpenSpec.ofChange s with cond := some uptoSmall }

/-- 'dioramalaw08.BoxParses', WHERE WHAT IT READS IS OF BULK AT MOST 1048576: true; the input reads as it did. -/
def boxParsesUptoRow : OpenClaim := { program := "ytehmahdngjdhpaadoor", sum := "2e5533fb06ce962635dcc9d274ace862ac239948eb0d1bbfac5aa96743bb8028", func := "diorama/dioramalaw08.BoxParses", spec := "boxParses", inPlace := ["internal/reflectlite.ValueOf", "(internal/reflectlite.Value).Type", "(internal/reflectlite.Value).IsNil", "internal/reflectlite.TypeOf", "(internal/reflectlite.Value).Elem", "(internal/reflectlite.Value).Set"], unfollowed := true, recurses := true, named := ["strings.asciiSpace", "unicode.White_Space", "errors.errorType"], apart := false, laid := [("errors.errorType", laid_errors_errorType), ("unicode.White_Space", laid_unicode_White_Space), ("strings.asciiSpace", laid_strings_asciiSpace)], narrowed := true }
def BoxParsesUptoSaid : Prop := boxParsesUptoRow.holds Tryd.pinned (OpenSpec.upto boxParsesSpec)

/-- 'dioramalaw08.BoxSizes', WHERE WHAT IT READS IS OF BULK AT MOST 1048576: true; the input reads as it did. -/
def boxSizesUptoRow : OpenClaim := { program := "ytehmahdngjdhpaadoor", sum := "2e5533fb06ce962635dcc9d274ace862ac239948eb0d1bbfac5aa96743bb8028", func := "diorama/dioramalaw08.BoxSizes", spec := "boxSizes", inPlace := ["internal/reflectlite.ValueOf", "(internal/reflectlite.Value).Type", "(internal/reflectlite.Value).IsNil", "internal/reflectlite.TypeOf", "(internal/reflectlite.Value).Elem", "(internal/reflectlite.Value).Set"], unfollowed := true, recurses := true, named := ["strings.asciiSpace", "unicode.White_Space", "errors.errorType"], loops := true, apart := false, laid := [("errors.errorType", laid_errors_errorType), ("unicode.White_Space", laid_unicode_White_Space), ("strings.asciiSpace", laid_strings_asciiSpace)], narrowed := true }
def BoxSizesUptoSaid : Prop := boxSizesUptoRow.holds Tryd.pinned (OpenSpec.upto boxSizesSpec)

/-- 'dioramalaw08.BoxFrees', WHERE WHAT IT READS IS OF BULK AT MOST 1048576: true; the input reads as it did. -/
def boxFreesUptoRow : OpenClaim := { program := "ytehmahdngjdhpaadoor", sum := "2e5533fb06ce962635dcc9d274ace862ac239948eb0d1bbfac5aa96743bb8028", func := "diorama/dioramalaw08.BoxFrees", spec := "boxFrees", inPlace := ["internal/reflectlite.ValueOf", "(internal/reflectlite.Value).Type", "(internal/reflectlite.Value).IsNil", "internal/reflectlite.TypeOf", "(internal/reflectlite.Value).Elem", "(internal/reflectlite.Value).Set"], unfollowed := true, recurses := true, named := ["strings.asciiSpace", "unicode.White_Space", "errors.errorType"], apart := false, laid := [("errors.errorType", laid_errors_errorType), ("unicode.White_Space", laid_unicode_White_Space), ("strings.asciiSpace", laid_strings_asciiSpace)], narrowed := true }
def BoxFreesUptoSaid : Prop := boxFreesUptoRow.holds Tryd.pinned (OpenSpec.upto boxFreesSpec)

/-- 'dioramalaw08.BoxNames', WHERE WHAT IT READS IS OF BULK AT MOST 1048576: true; the input reads as it did. -/
def boxNamesUptoRow : OpenClaim := { program := "ytehmahdngjdhpaadoor", sum := "2e5533fb06ce962635dcc9d274ace862ac239948eb0d1bbfac5aa96743bb8028", func := "diorama/dioramalaw08.BoxNames", spec := "boxNames", inPlace := ["internal/reflectlite.ValueOf", "(internal/reflectlite.Value).Type", "(internal/reflectlite.Value).IsNil", "internal/reflectlite.TypeOf", "(internal/reflectlite.Value).Elem", "(internal/reflectlite.Value).Set"], unfollowed := true, recurses := true, named := ["strings.asciiSpace", "unicode.White_Space", "errors.errorType"], apart := false, laid := [("errors.errorType", laid_errors_errorType), ("unicode.White_Space", laid_unicode_White_Space), ("strings.asciiSpace", laid_strings_asciiSpace)], narrowed := true }
def BoxNamesUptoSaid : Prop := boxNamesUptoRow.holds Tryd.pinned (OpenSpec.upto boxNamesSpec)

/-- 'dioramalaw08.BoxFull', WHERE WHAT IT READS IS OF BULK AT MOST 1048576: true; the input reads as it did. -/
def boxFullUptoRow : OpenClaim := { program := "ytehmahdngjdhpaadoor", sum := "2e5533fb06ce962635dcc9d274ace862ac239948eb0d1bbfac5aa96743bb8028", func := "diorama/dioramalaw08.BoxFull", spec := "boxFull", inPlace := ["internal/reflectlite.ValueOf", "(internal/reflectlite.Value).Type", "(internal/reflectlite.Value).IsNil", "internal/reflectlite.TypeOf", "(internal/reflectlite.Value).Elem", "(internal/reflectlite.Value).Set"], unfollowed := true, recurses := true, named := ["strings.asciiSpace", "unicode.White_Space", "errors.errorType"], loops := true, apart := false, laid := [("errors.errorType", laid_errors_errorType), ("unicode.White_Space", laid_unicode_White_Space), ("strings.asciiSpace", laid_strings_asciiSpace)], narrowed := true }
def BoxFullUptoSaid : Prop := boxFullUptoRow.holds Tryd.pinned (OpenSpec.upto boxFullSpec)

/-- 'dioramalaw08.BoxCovers', WHERE WHAT IT READS IS OF BULK AT MOST 1048576: true; the input reads as it did. -/
def boxCoversUptoRow : OpenClaim := { program := "ytehmahdngjdhpaadoor", sum := "2e5533fb06ce962635dcc9d274ace862ac239948eb0d1bbfac5aa96743bb8028", func := "diorama/dioramalaw08.BoxCovers", spec := "boxCovers", inPlace := ["internal/reflectlite.ValueOf", "(internal/reflectlite.Value).Type", "(internal/reflectlite.Value).IsNil", "internal/reflectlite.TypeOf", "(internal/reflectlite.Value).Elem", "(internal/reflectlite.Value).Set"], unfollowed := true, recurses := true, named := ["strings.asciiSpace", "unicode.White_Space", "errors.errorType"], apart := false, laid := [("errors.errorType", laid_errors_errorType), ("unicode.White_Space", laid_unicode_White_Space), ("strings.asciiSpace", laid_strings_asciiSpace)], narrowed := true }
def BoxCoversUptoSaid : Prop := boxCoversUptoRow.holds Tryd.pinned (OpenSpec.upto boxCoversSpec)

/-- 'dioramalaw08.BoxFinds', WHERE WHAT IT READS IS OF BULK AT MOST 1048576: true; the input reads as it did. -/
def boxFindsUptoRow : OpenClaim := { program := "ytehmahdngjdhpaadoor", sum := "2e5533fb06ce962635dcc9d274ace862ac239948eb0d1bbfac5aa96743bb8028", func := "diorama/dioramalaw08.BoxFinds", spec := "boxFinds", inPlace := ["internal/reflectlite.ValueOf", "(internal/reflectlite.Value).Type", "(internal/reflectlite.Value).IsNil", "internal/reflectlite.TypeOf", "(internal/reflectlite.Value).Elem", "(internal/reflectlite.Value).Set"], unfollowed := true, recurses := true, named := ["strings.asciiSpace", "unicode.White_Space", "errors.errorType"], loops := true, apart := false, laid := [("errors.errorType", laid_errors_errorType), ("unicode.White_Space", laid_unicode_White_Space), ("strings.asciiSpace", laid_strings_asciiSpace)], narrowed := true }
def BoxFindsUptoSaid : Prop := boxFindsUptoRow.holds Tryd.pinned (OpenSpec.upto boxFindsSpec)

/-- 'dioramalaw08.BoxBegins', WHERE WHAT IT READS IS OF BULK AT MOST 1048576: true; the input reads as it did. -/
def boxBeginsUptoRow : OpenClaim := { program := "ytehmahdngjdhpaadoor", sum := "2e5533fb06ce962635dcc9d274ace862ac239948eb0d1bbfac5aa96743bb8028", func := "diorama/dioramalaw08.BoxBegins", spec := "boxBegins", inPlace := ["internal/reflectlite.ValueOf", "(internal/reflectlite.Value).Type", "(internal/reflectlite.Value).IsNil", "internal/reflectlite.TypeOf", "(internal/reflectlite.Value).Elem", "(internal/reflectlite.Value).Set"], unfollowed := true, recurses := true, named := ["strings.asciiSpace", "unicode.White_Space", "errors.errorType"], loops := true, apart := false, laid := [("errors.errorType", laid_errors_errorType), ("unicode.White_Space", laid_unicode_White_Space), ("strings.asciiSpace", laid_strings_asciiSpace)], narrowed := true }
def BoxBeginsUptoSaid : Prop := boxBeginsUptoRow.holds Tryd.pinned (OpenSpec.upto boxBeginsSpec)

/-- 'dioramalaw08.BoxFreed', WHERE WHAT IT READS IS OF BULK AT MOST 1048576: true; the input reads as it did. -/
def boxFreedUptoRow : OpenClaim := { program := "ytehmahdngjdhpaadoor", sum := "2e5533fb06ce962635dcc9d274ace862ac239948eb0d1bbfac5aa96743bb8028", func := "diorama/dioramalaw08.BoxFreed", spec := "boxFreed", inPlace := ["internal/reflectlite.ValueOf", "(internal/reflectlite.Value).Type", "(internal/reflectlite.Value).IsNil", "internal/reflectlite.TypeOf", "(internal/reflectlite.Value).Elem", "(internal/reflectlite.Value).Set"], unfollowed := true, recurses := true, named := ["strings.asciiSpace", "unicode.White_Space", "errors.errorType"], loops := true, apart := false, laid := [("errors.errorType", laid_errors_errorType), ("unicode.White_Space", laid_unicode_White_Space), ("strings.asciiSpace", laid_strings_asciiSpace)], narrowed := true }
def BoxFreedUptoSaid : Prop := boxFreedUptoRow.holds Tryd.pinned (OpenSpec.upto boxFreedSpec)

/-- 'dioramalaw08.BoxWrites', WHERE WHAT IT READS IS OF BULK AT MOST 1048576: true; the input reads as it did. -/
def boxWritesUptoRow : OpenClaim := { program := "ytehmahdngjdhpaadoor", sum := "2e5533fb06ce962635dcc9d274ace862ac239948eb0d1bbfac5aa96743bb8028", func := "diorama/dioramalaw08.BoxWrites", spec := "boxWrites", inPlace := ["internal/reflectlite.ValueOf", "(internal/reflectlite.Value).Type", "(internal/reflectlite.Value).IsNil", "internal/reflectlite.TypeOf", "(internal/reflectlite.Value).Elem", "(internal/reflectlite.Value).Set"], unfollowed := true, recurses := true, named := ["strings.asciiSpace", "unicode.White_Space", "errors.errorType"], loops := true, apart := false, laid := [("errors.errorType", laid_errors_errorType), ("unicode.White_Space", laid_unicode_White_Space), ("strings.asciiSpace", laid_strings_asciiSpace)], narrowed := true }
def BoxWritesUptoSaid : Prop := boxWritesUptoRow.holds Tryd.pinned (OpenSpec.upto boxWritesSpec)

/-- 'dioramalaw08.BoxBack', WHERE WHAT IT READS IS OF BULK AT MOST 1048576: true; the input reads as it did. -/
def boxBackUptoRow : OpenClaim := { program := "ytehmahdngjdhpaadoor", sum := "2e5533fb06ce962635dcc9d274ace862ac239948eb0d1bbfac5aa96743bb8028", func := "diorama/dioramalaw08.BoxBack", spec := "boxBack", inPlace := ["internal/reflectlite.ValueOf", "(internal/reflectlite.Value).Type", "(internal/reflectlite.Value).IsNil", "internal/reflectlite.TypeOf", "(internal/reflectlite.Value).Elem", "(internal/reflectlite.Value).Set"], unfollowed := true, recurses := true, named := ["strings.asciiSpace", "unicode.White_Space", "errors.errorType"], loops := true, apart := false, laid := [("errors.errorType", laid_errors_errorType), ("unicode.White_Space", laid_unicode_White_Space), ("strings.asciiSpace", laid_strings_asciiSpace)], narrowed := true }
def BoxBackUptoSaid : Prop := boxBackUptoRow.holds Tryd.pinned (OpenSpec.upto boxBackSpec)

end Rows
end Go.Proofs.YtehmahdngjdhpaaDoor
