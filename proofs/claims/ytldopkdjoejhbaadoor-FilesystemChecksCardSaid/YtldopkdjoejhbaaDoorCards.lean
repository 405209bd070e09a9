/-
  DERIVED. GIVEN WITH THE SEED: THE CARDS: each row of YtldopkdjoejhbaaDoorRows.lean that lists a variable, with what it lists TIED to the program's text (the seventh form; the later family's looks); each row that meets fmt, with fmt's text TOLD by the authors' own Lean function (tested against real Go, not proved from fmt's source: count such statements apart). THE CARD IS WHAT COUNTS. Prove the row's statement (the work); the ties are given (YtldopkdjoejhbaaDoorTie.lean); close each card by the builder's one call (the guide's Derived/Test/ToyasCard.lean, 'card_holds'). Laid BY PROGRAM, IN A SANDBOX (cutbox-door.mjs). By AI agents, Wed Nov 11 2026. No macro, syntax, notation, axiom, sorry.
-/
import Derived.Test.YtldopkdjoejhbaaDoorRows
import GoSem.ClaimSeven
namespace Go.Proofs.YtldopkdjoejhbaaDoor
namespace Rows

/-- THE TIED CARD OF 'logtidelaw07.FilesystemCopies'. -/
def filesystemCopiesCard : Claim7 := { stood := { row := filesystemCopiesRow, standIns := [], harness := (true, "625693a3bfe62f213cf4a05b3595be254779cb3ab03ba8aee48ec30ca2ba4349"), looks := false }, kinds := [], alts := [], laidByText := true, laidKinds := [.funcs], laidTests := true, laidLooks := .later }
def FilesystemCopiesCardSaid : Prop := Claim7.holds Tryd.pinned (.plain (OpenSpec.ofChange filesystemCopiesSpec)) filesystemCopiesCard

/-- THE TIED CARD OF 'logtidelaw07.FilesystemLines'. -/
def filesystemLinesCard : Claim7 := { stood := { row := filesystemLinesRow, standIns := [], harness := (true, "625693a3bfe62f213cf4a05b3595be254779cb3ab03ba8aee48ec30ca2ba4349"), looks := false }, kinds := [], alts := [], laidByText := true, laidKinds := [.funcs], laidTests := true, laidLooks := .later }
def FilesystemLinesCardSaid : Prop := Claim7.holds Tryd.pinned (.plain (OpenSpec.ofChange filesystemLinesSpec)) filesystemLinesCard

/-- THE TIED CARD OF 'logtidelaw07.FilesystemRenames'. -/
def filesystemRenamesCard : Claim7 := { stood := { row := filesystemRenamesRow, standIns := [], harness := (true, "625693a3bfe62f213cf4a05b3595be254779cb3ab03ba8aee48ec30ca2ba4349"), looks := false }, kinds := [], alts := [], laidByText := true, laidKinds := [.funcs], laidTests := true, laidLooks := .later }
def FilesystemRenamesCardSaid : Prop := Claim7.holds Tryd.pinned (.plain (OpenSpec.ofChange filesystemRenamesSpec)) filesystemRenamesCard

/-- THE TIED CARD OF 'logtidelaw07.FilesystemChanges'. -/
def filesystemChangesCard : Claim7 := { stood := { row := filesystemChangesRow, standIns := [], harness := (true, "625693a3bfe62f213cf4a05b3595be254779cb3ab03ba8aee48ec30ca2ba4349"), looks := false }, kinds := [], alts := [], laidByText := true, laidKinds := [.funcs], laidTests := true, laidLooks := .later }
def FilesystemChangesCardSaid : Prop := Claim7.holds Tryd.pinned (.plain (OpenSpec.ofChange filesystemChangesSpec)) filesystemChangesCard

/-- THE TIED CARD OF 'logtidelaw07.FilesystemChecks'. -/
def filesystemChecksCard : Claim7 := { stood := { row := filesystemChecksRow, standIns := [], harness := (true, "625693a3bfe62f213cf4a05b3595be254779cb3ab03ba8aee48ec30ca2ba4349"), looks := false }, kinds := [], alts := [], laidByText := true, laidKinds := [.funcs], laidTests := true, laidLooks := .later }
def FilesystemChecksCardSaid : Prop := Claim7.holds Tryd.pinned (.plain (OpenSpec.ofChange filesystemChecksSpec)) filesystemChecksCard

/-- THE TIED CARD OF 'logtidelaw07.FilesystemRuns'. -/
def filesystemRunsCard : Claim7 := { stood := { row := filesystemRunsRow, standIns := [], harness := (true, "625693a3bfe62f213cf4a05b3595be254779cb3ab03ba8aee48ec30ca2ba4349"), looks := false }, kinds := [], alts := [], laidByText := true, laidKinds := [.funcs], laidTests := true, laidLooks := .later }
def FilesystemRunsCardSaid : Prop := Claim7.holds Tryd.pinned (.plain (OpenSpec.ofChange filesystemRunsSpec)) filesystemRunsCard

/-- THE SECOND FORM's CARD OF 'logtidelaw07.FilesystemCopies'. -/
def filesystemCopiesUptoCard : Claim7 := { stood := { row := filesystemCopiesUptoRow, standIns := [], harness := (true, "625693a3bfe62f213cf4a05b3595be254779cb3ab03ba8aee48ec30ca2ba4349"), looks := false }, kinds := [], alts := [], laidByText := true, laidKinds := [.funcs], laidTests := true, laidLooks := .later }
def FilesystemCopiesUptoCardSaid : Prop := Claim7.holds Tryd.pinned (.plain (OpenSpec.upto filesystemCopiesSpec)) filesystemCopiesUptoCard

/-- THE SECOND FORM's CARD OF 'logtidelaw07.FilesystemLines'. -/
def filesystemLinesUptoCard : Claim7 := { stood := { row := filesystemLinesUptoRow, standIns := [], harness := (true, "625693a3bfe62f213cf4a05b3595be254779cb3ab03ba8aee48ec30ca2ba4349"), looks := false }, kinds := [], alts := [], laidByText := true, laidKinds := [.funcs], laidTests := true, laidLooks := .later }
def FilesystemLinesUptoCardSaid : Prop := Claim7.holds Tryd.pinned (.plain (OpenSpec.upto filesystemLinesSpec)) filesystemLinesUptoCard

/-- THE SECOND FORM's CARD OF 'logtidelaw07.FilesystemRenames'. -/
def filesystemRenamesUptoCard : Claim7 := { stood := { row := filesystemRenamesUptoRow, standIns := [], harness := (true, "625693a3bfe62f213cf4a05b3595be254779cb3ab03ba8aee48ec30ca2ba4349"), looks := false }, kinds := [], alts := [], laidByText := true, laidKinds := [.funcs], laidTests := true, laidLooks := .later }
def FilesystemRenamesUptoCardSaid : Prop := Claim7.holds Tryd.pinned (.plain (OpenSpec.upto filesystemRenamesSpec)) filesystemRenamesUptoCard

/-- THE SECOND FORM's CARD OF 'logtidelaw07.FilesystemChanges'. -/
def filesystemChangesUptoCard : Claim7 := { stood := { row := filesystemChangesUptoRow, standIns := [], harness := (true, "625693a3bfe62f213cf4a05b3595be254779cb3ab03ba8aee48ec30ca2ba4349"), looks := false }, kinds := [], alts := [], laidByText := true, laidKinds := [.funcs], laidTests := true, laidLooks := .later }
def FilesystemChangesUptoCardSaid : Prop := Claim7.holds Tryd.pinned (.plain (OpenSpec.upto filesystemChangesSpec)) filesystemChangesUptoCard

/-- THE SECOND FORM's CARD OF 'logtidelaw07.FilesystemChecks'. -/
def filesystemChecksUptoCard : Claim7 := { stood := { row := filesystemChecksUptoRow, standIns := [], harness := (true, "625693a3bfe62f213cf4a05b3595be254779cb3ab03ba8aee48ec30ca2ba4349"), looks := false }, kinds := [], alts := [], laidByText := true, laidKinds := [.funcs], laidTests := true, laidLooks := .later }
def FilesystemChecksUptoCardSaid : Prop := Claim7.holds Tryd.pinned (.plain (OpenSpec.upto filesystemChecksSpec)) filesystemChecksUptoCard

/-- THE SECOND FORM's CARD OF 'logtidelaw07.FilesystemRuns'. -/
def filesystemRunsUptoCard : Claim7 := { stood := { row := filesystemRunsUptoRow, standIns := [], harness := (true, "625693a3bfe62f213cf4a05b3595be254779cb3ab03ba8aee48ec30ca2ba4349"), looks := false }, kinds := [], alts := [], laidByText := true, laidKinds := [.funcs], laidTests := true, laidLooks := .later }
def FilesystemRunsUptoCardSaid : Prop := Claim7.holds Tryd.pinned (.plain (OpenSpec.upto filesystemRunsSpec)) filesystemRunsUptoCard
end Rows
end Go.Proofs.YtldopkdjoejhbaaDoor
