/-
  DERIVED. GIVEN WITH THE SEED: THE PROGRAM's TIES (one call each: nine closed facts by the kernel) AND EACH ROW's TIE, after the 31st guide's Derived/Test/Toyas{Tie, Card}.lean. No idea stands in it: it is a product of the set-up. Laid BY PROGRAM, IN A SANDBOX (cutbox-door.mjs). By AI agents, Wed Nov 11 2026. No macro, syntax, notation, axiom, sorry.
-/
import Derived.Test.YtehmahdngjdhpaaDoorRows
import Derived.LaidByTextLater
import Derived.SevenTiedAt
import Derived.LaidSub
import Derived.LaidOnce
namespace Go.Proofs.YtehmahdngjdhpaaDoor
open Go
set_option maxRecDepth 100000
theorem seatTie1 : Tryd.prog.laidByTextLater [("errors.errorType", Rows.laid_errors_errorType), ("unicode.White_Space", Rows.laid_unicode_White_Space), ("strings.asciiSpace", Rows.laid_strings_asciiSpace)] [.handle, .listed, .data] true :=
  Program.laidByTextLater_by_one 40 8 257 (by kernel_rfl) (by kernel_rfl) (by kernel_rfl) (by kernel_rfl) (by kernel_rfl) (by kernel_rfl) (fun _ _ => by kernel_rfl)
theorem noOwnUnsafe : Tryd.pinned.checked.prog.headLifts.contains "ownunsafe" = false := by kernel_rfl
theorem tie : Tryd.prog.laidByTextLater [("errors.errorType", Rows.laid_errors_errorType), ("unicode.White_Space", Rows.laid_unicode_White_Space), ("strings.asciiSpace", Rows.laid_strings_asciiSpace)] [.handle, .listed, .data] true :=
  Program.laidByTextLater.sub seatTie1 ["errors.errorType", "unicode.White_Space", "strings.asciiSpace"] (by kernel_rfl) (by kernel_rfl)
theorem boxParses_row_tie : Rows.boxParsesRow.laidByTextAt .later Tryd.pinned [.handle, .listed, .data] true :=
  OpenClaim.laidByTextAt_later rfl rfl tie noOwnUnsafe
theorem boxSizes_row_tie : Rows.boxSizesRow.laidByTextAt .later Tryd.pinned [.handle, .listed, .data] true :=
  OpenClaim.laidByTextAt_later rfl rfl tie noOwnUnsafe
theorem boxFrees_row_tie : Rows.boxFreesRow.laidByTextAt .later Tryd.pinned [.handle, .listed, .data] true :=
  OpenClaim.laidByTextAt_later rfl rfl tie noOwnUnsafe
theorem boxNames_row_tie : Rows.boxNamesRow.laidByTextAt .later Tryd.pinned [.handle, .listed, .data] true :=
  OpenClaim.laidByTextAt_later rfl rfl tie noOwnUnsafe
theorem boxFull_row_tie : Rows.boxFullRow.laidByTextAt .later Tryd.pinned [.handle, .listed, .data] true :=
  OpenClaim.laidByTextAt_later rfl rfl tie noOwnUnsafe
theorem boxCovers_row_tie : Rows.boxCoversRow.laidByTextAt .later Tryd.pinned [.handle, .listed, .data] true :=
  OpenClaim.laidByTextAt_later rfl rfl tie noOwnUnsafe
theorem boxFinds_row_tie : Rows.boxFindsRow.laidByTextAt .later Tryd.pinned [.handle, .listed, .data] true :=
  OpenClaim.laidByTextAt_later rfl rfl tie noOwnUnsafe
theorem boxBegins_row_tie : Rows.boxBeginsRow.laidByTextAt .later Tryd.pinned [.handle, .listed, .data] true :=
  OpenClaim.laidByTextAt_later rfl rfl tie noOwnUnsafe
theorem boxFreed_row_tie : Rows.boxFreedRow.laidByTextAt .later Tryd.pinned [.handle, .listed, .data] true :=
  OpenClaim.laidByTextAt_later rfl rfl tie noOwnUnsafe
theorem boxWrites_row_tie : Rows.boxWritesRow.laidByTextAt .later Tryd.pinned [.handle, .listed, .data] true :=
  OpenClaim.laidByTextAt_later rfl rfl tie noOwnUnsafe
theorem boxBack_row_tie : Rows.boxBackRow.laidByTextAt .later Tryd.pinned [.handle, .listed, .data] true :=
  OpenClaim.laidByTextAt_later rfl rfl tie noOwnUnsafe
theorem boxParsesUpto_row_tie : Rows.boxParsesUptoRow.laidByTextAt .later Tryd.pinned [.handle, .listed, .data] true :=
  OpenClaim.laidByTextAt_later rfl rfl tie noOwnUnsafe
theorem boxSizesUpto_row_tie : Rows.boxSizesUptoRow.laidByTextAt .later Tryd.pinned [.handle, .listed, .data] true :=
  OpenClaim.laidByTextAt_later rfl rfl tie noOwnUnsafe
theorem boxFreesUpto_row_tie : Rows.boxFreesUptoRow.laidByTextAt .later Tryd.pinned [.handle, .listed, .data] true :=
  OpenClaim.laidByTextAt_later rfl rfl tie noOwnUnsafe
theorem boxNamesUpto_row_tie : Rows.boxNamesUptoRow.laidByTextAt .later Tryd.pinned [.handle, .listed, .data] true :=
  OpenClaim.laidByTextAt_later rfl rfl tie noOwnUnsafe
theorem boxFullUpto_row_tie : Rows.boxFullUptoRow.laidByTextAt .later Tryd.pinned [.handle, .listed, .data] true :=
  OpenClaim.laidByTextAt_later rfl rfl tie noOwnUnsafe
theorem boxCoversUpto_row_tie : Rows.boxCoversUptoRow.laidByTextAt .later Tryd.pinned [.handle, .listed, .data] true :=
  OpenClaim.laidByTextAt_later rfl rfl tie noOwnUnsafe
theorem boxFindsUpto_row_tie : Rows.boxFindsUptoRow.laidByTextAt .later Tryd.pinned [.handle, .listed, .data] true :=
  OpenClaim.laidByTextAt_later rfl rfl tie noOwnUnsafe
theorem boxBeginsUpto_row_tie : Rows.boxBeginsUptoRow.laidByTextAt .later Tryd.pinned [.handle, .listed, .data] true :=
  OpenClaim.laidByTextAt_later rfl rfl tie noOwnUnsafe
theorem boxFreedUpto_row_tie : Rows.boxFreedUptoRow.laidByTextAt .later Tryd.pinned [.handle, .listed, .data] true :=
  OpenClaim.laidByTextAt_later rfl rfl tie noOwnUnsafe
theorem boxWritesUpto_row_tie : Rows.boxWritesUptoRow.laidByTextAt .later Tryd.pinned [.handle, .listed, .data] true :=
  OpenClaim.laidByTextAt_later rfl rfl tie noOwnUnsafe
theorem boxBackUpto_row_tie : Rows.boxBackUptoRow.laidByTextAt .later Tryd.pinned [.handle, .listed, .data] true :=
  OpenClaim.laidByTextAt_later rfl rfl tie noOwnUnsafe
end Go.Proofs.YtehmahdngjdhpaaDoor
