/-
  DERIVED. GIVEN WITH THE SEED: THE CARDS: each row of YtgegmefnbkcdkaaDoorRows.lean that lists a variable, with what it lists TIED to the program's text (the seventh form; the later family's looks); each row that meets fmt, with fmt's text TOLD by the authors' own Lean function (tested against real Go, not proved from fmt's source: count such statements apart). THE CARD IS WHAT COUNTS. Prove the row's statement (the work); the ties are given (YtgegmefnbkcdkaaDoorTie.lean); close each card by the builder's one call (the guide's Derived/Test/ToyasCard.lean, 'card_holds'). Laid BY PROGRAM, IN A SANDBOX (cutbox-door.mjs). By AI agents, Wed Nov 11 2026. No macro, syntax, notation, axiom, sorry.
-/
import Derived.Test.YtgegmefnbkcdkaaDoorRows
import GoSem.ClaimSeven
namespace Go.Proofs.YtgegmefnbkcdkaaDoor
namespace Rows

/-- THE TIED CARD OF 'logtidelaw08.FingerprintStays'. -/
def fingerprintStaysCard : Claim7 := { stood := { row := fingerprintStaysRow, standIns := [], harness := (true, "340a653854c196f6350b24928712df3e9142b4d0d275a1b7154d4c269289563e"), looks := false }, kinds := [], alts := [], laidByText := true, laidKinds := [.funcs], laidTests := true, laidLooks := .later }
def FingerprintStaysCardSaid : Prop := Claim7.holds Tryd.pinned (.plain (OpenSpec.ofChange fingerprintStaysSpec)) fingerprintStaysCard

/-- THE SECOND FORM's CARD OF 'logtidelaw08.FingerprintStays'. -/
def fingerprintStaysUptoCard : Claim7 := { stood := { row := fingerprintStaysUptoRow, standIns := [], harness := (true, "340a653854c196f6350b24928712df3e9142b4d0d275a1b7154d4c269289563e"), looks := false }, kinds := [], alts := [], laidByText := true, laidKinds := [.funcs], laidTests := true, laidLooks := .later }
def FingerprintStaysUptoCardSaid : Prop := Claim7.holds Tryd.pinned (.plain (OpenSpec.upto fingerprintStaysSpec)) fingerprintStaysUptoCard
end Rows
end Go.Proofs.YtgegmefnbkcdkaaDoor
