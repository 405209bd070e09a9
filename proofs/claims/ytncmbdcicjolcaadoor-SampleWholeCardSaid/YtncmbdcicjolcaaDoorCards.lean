/-
  DERIVED. GIVEN WITH THE SEED: THE CARDS: each row of YtncmbdcicjolcaaDoorRows.lean that lists a variable, with what it lists TIED to the program's text (the seventh form; the later family's looks); each row that meets fmt, with fmt's text TOLD by the authors' own Lean function (tested against real Go, not proved from fmt's source: count such statements apart). THE CARD IS WHAT COUNTS. Prove the row's statement (the work); the ties are given (YtncmbdcicjolcaaDoorTie.lean); close each card by the builder's one call (the guide's Derived/Test/ToyasCard.lean, 'card_holds'). Laid BY PROGRAM, IN A SANDBOX (cutbox-door.mjs). By AI agents, Wed Nov 11 2026. No macro, syntax, notation, axiom, sorry.
-/
import Derived.Test.YtncmbdcicjolcaaDoorRows
import GoSem.ClaimSeven
namespace Go.Proofs.YtncmbdcicjolcaaDoor
namespace Rows

/-- THE TIED CARD OF 'logtidelaw17.SampleCounts'. -/
def sampleCountsCard : Claim7 := { stood := { row := sampleCountsRow, standIns := [], harness := (true, "81ad266a6b74911d6ced234d2b99306991e6a2a71708894737b1e53941143987"), looks := false }, kinds := [], alts := [], laidByText := true, laidKinds := [.widerDeep], laidTests := true, laidLooks := .later }
def SampleCountsCardSaid : Prop := Claim7.holds Tryd.pinned (.plain (OpenSpec.ofChange sampleCountsSpec)) sampleCountsCard

/-- THE TIED CARD OF 'logtidelaw17.SampleDecides'. -/
def sampleDecidesCard : Claim7 := { stood := { row := sampleDecidesRow, standIns := [], harness := (true, "81ad266a6b74911d6ced234d2b99306991e6a2a71708894737b1e53941143987"), looks := false }, kinds := [], alts := [], laidByText := true, laidKinds := [.widerDeep], laidTests := true, laidLooks := .later }
def SampleDecidesCardSaid : Prop := Claim7.holds Tryd.pinned (.plain (OpenSpec.ofChange sampleDecidesSpec)) sampleDecidesCard

/-- THE TIED CARD OF 'logtidelaw17.SampleWhole'. -/
def sampleWholeCard : Claim7 := { stood := { row := sampleWholeRow, standIns := [], harness := (true, "81ad266a6b74911d6ced234d2b99306991e6a2a71708894737b1e53941143987"), looks := false }, kinds := [], alts := [], laidByText := true, laidKinds := [.widerDeep], laidTests := true, laidLooks := .later }
def SampleWholeCardSaid : Prop := Claim7.holds Tryd.pinned (.plain (OpenSpec.ofChange sampleWholeSpec)) sampleWholeCard

/-- THE TIED CARD OF 'logtidelaw17.SampleApplies'. -/
def sampleAppliesCard : Claim7 := { stood := { row := sampleAppliesRow, standIns := [], harness := (true, "81ad266a6b74911d6ced234d2b99306991e6a2a71708894737b1e53941143987"), looks := false }, kinds := [], alts := [], laidByText := true, laidKinds := [.widerDeep], laidTests := true, laidLooks := .later }
def SampleAppliesCardSaid : Prop := Claim7.holds Tryd.pinned (.plain (OpenSpec.ofChange sampleAppliesSpec)) sampleAppliesCard

/-- THE TIED CARD OF 'logtidelaw17.SampleExpects'. -/
def sampleExpectsCard : Claim7 := { stood := { row := sampleExpectsRow, standIns := [], harness := (true, "81ad266a6b74911d6ced234d2b99306991e6a2a71708894737b1e53941143987"), looks := false }, kinds := [], alts := [], laidByText := true, laidKinds := [.widerDeep], laidTests := true, laidLooks := .later }
def SampleExpectsCardSaid : Prop := Claim7.holds Tryd.pinned (.plain (OpenSpec.ofChange sampleExpectsSpec)) sampleExpectsCard

/-- THE SECOND FORM's CARD OF 'logtidelaw17.SampleCounts'. -/
def sampleCountsUptoCard : Claim7 := { stood := { row := sampleCountsUptoRow, standIns := [], harness := (true, "81ad266a6b74911d6ced234d2b99306991e6a2a71708894737b1e53941143987"), looks := false }, kinds := [], alts := [], laidByText := true, laidKinds := [.widerDeep], laidTests := true, laidLooks := .later }
def SampleCountsUptoCardSaid : Prop := Claim7.holds Tryd.pinned (.plain (OpenSpec.upto sampleCountsSpec)) sampleCountsUptoCard

/-- THE SECOND FORM's CARD OF 'logtidelaw17.SampleDecides'. -/
def sampleDecidesUptoCard : Claim7 := { stood := { row := sampleDecidesUptoRow, standIns := [], harness := (true, "81ad266a6b74911d6ced234d2b99306991e6a2a71708894737b1e53941143987"), looks := false }, kinds := [], alts := [], laidByText := true, laidKinds := [.widerDeep], laidTests := true, laidLooks := .later }
def SampleDecidesUptoCardSaid : Prop := Claim7.holds Tryd.pinned (.plain (OpenSpec.upto sampleDecidesSpec)) sampleDecidesUptoCard

/-- THE SECOND FORM's CARD OF 'logtidelaw17.SampleWhole'. -/
def sampleWholeUptoCard : Claim7 := { stood := { row := sampleWholeUptoRow, standIns := [], harness := (true, "81ad266a6b74911d6ced234d2b99306991e6a2a71708894737b1e53941143987"), looks := false }, kinds := [], alts := [], laidByText := true, laidKinds := [.widerDeep], laidTests := true, laidLooks := .later }
def SampleWholeUptoCardSaid : Prop := Claim7.holds Tryd.pinned (.plain (OpenSpec.upto sampleWholeSpec)) sampleWholeUptoCard

/-- THE SECOND FORM's CARD OF 'logtidelaw17.SampleApplies'. -/
def sampleAppliesUptoCard : Claim7 := { stood := { row := sampleAppliesUptoRow, standIns := [], harness := (true, "81ad266a6b74911d6ced234d2b99306991e6a2a71708894737b1e53941143987"), looks := false }, kinds := [], alts := [], laidByText := true, laidKinds := [.widerDeep], laidTests := true, laidLooks := .later }
def SampleAppliesUptoCardSaid : Prop := Claim7.holds Tryd.pinned (.plain (OpenSpec.upto sampleAppliesSpec)) sampleAppliesUptoCard

/-- THE SECOND FORM's CARD OF 'logtidelaw17.SampleExpects'. -/
def sampleExpectsUptoCard : Claim7 := { stood := { row := sampleExpectsUptoRow, standIns := [], harness := (true, "81ad266a6b74911d6ced234d2b99306991e6a2a71708894737b1e53941143987"), looks := false }, kinds := [], alts := [], laidByText := true, laidKinds := [.widerDeep], laidTests := true, laidLooks := .later }
def SampleExpectsUptoCardSaid : Prop := Claim7.holds Tryd.pinned (.plain (OpenSpec.upto sampleExpectsSpec)) sampleExpectsUptoCard
end Rows
end Go.Proofs.YtncmbdcicjolcaaDoor
