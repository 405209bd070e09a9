/-
  No cell of these rows narrows 'for every input' (looked for: loops, veiled, ifaces, maps, wideKeys, modest, calm, conditions, laid).
  DERIVED. THE GIVEN ROWS OF THIS SEAT. 3 by the template 'for every input the law returns true; each argument reads behind the call as it read before'; 0 by the template 'total and deterministic' (their statements: YtgegmefnbkcdkaaTotals.lean).
  GIVEN WITH THE SEED: the statements are not yours to turn. If you find one false, say at which input.
  Laid BY PROGRAM, IN A SANDBOX (cutbox-rows.mjs): the forced cells as the released guide's own fill.sh prints them over the translation a7b4ce265fda90a7… (all of the seat's roots in one cut). By AI agents, Wed Nov 11 2026. No macro, syntax, notation, axiom, sorry.
-/
import Derived.Test.YtgegmefnbkcdkaaChecked
import GoSem.Claim
import GoSem.ClaimJoined
import GoSem.ClaimMapViews
import Derived.JoinedTies
import Derived.KernelRfl
namespace Go.Proofs.Ytgegmefnbkcdkaa
/- THE CELL 'sum', in the pinned program and in every row, IS THE sha256 OF THE DUMP (.gsa) THAT YtgegmefnbkcdkaaProg.lean LOADS. Nothing in Lean hashes anything: it is a label: what it is worth is what the hold of that sum in a sandbox is worth. -/
noncomputable def Try.pinned : Pinned := { name := "ytgegmefnbkcdkaa", sum := "a7b4ce265fda90a72a4212004eebb004cd04d7fc8030b2c18d16defac45adabc", checked := Try.checked }
namespace Rows
def none {H : Type} : Left H := { results := [], args := [] }

/-- 'logtidelaw08.FingerprintNumbers': WHATEVER THE INPUT: true; the input reads as it did. -/
def fingerprintNumbersSpec : ChangeSpec := { name := "fingerprintNumbers", fn := fun _ => fun
  | [d1, d2, d3] => { results := [.lit (.bool true)], args := [d1, d2, d3] }
  | _ => none }
def fingerprintNumbersRow : OpenClaim := { program := "ytgegmefnbkcdkaa", sum := "a7b4ce265fda90a72a4212004eebb004cd04d7fc8030b2c18d16defac45adabc", func := "logtide/logtidelaw08.FingerprintNumbers", spec := "fingerprintNumbers", apart := false }
def FingerprintNumbersSaid : Prop := fingerprintNumbersRow.holds Try.pinned (OpenSpec.ofChange fingerprintNumbersSpec)

/-- ITS FALSE NEIGHBOUR: 'it returns false'. Refute it at one input. -/
def fingerprintNumbersWrong : ChangeSpec := { name := "fingerprintNumbers", fn := fun _ => fun
  | [d1, d2, d3] => { results := [.lit (.bool false)], args := [d1, d2, d3] }
  | _ => none }
def FingerprintNumbersWrongFalsely : Prop := fingerprintNumbersRow.holds Try.pinned (OpenSpec.ofChange fingerprintNumbersWrong)

/-- 'logtidelaw08.FingerprintPremise': WHATEVER THE INPUT: true; the input reads as it did. -/
def fingerprintPremiseSpec : ChangeSpec := { name := "fingerprintPremise", fn := fun _ => fun
  | [d1, d2, d3] => { results := [.lit (.bool true)], args := [d1, d2, d3] }
  | _ => none }
def fingerprintPremiseRow : OpenClaim := { program := "ytgegmefnbkcdkaa", sum := "a7b4ce265fda90a72a4212004eebb004cd04d7fc8030b2c18d16defac45adabc", func := "logtide/logtidelaw08.FingerprintPremise", spec := "fingerprintPremise", apart := false }
def FingerprintPremiseSaid : Prop := fingerprintPremiseRow.holds Try.pinned (OpenSpec.ofChange fingerprintPremiseSpec)

/-- ITS FALSE NEIGHBOUR: 'it returns false'. Refute it at one input. -/
def fingerprintPremiseWrong : ChangeSpec := { name := "fingerprintPremise", fn := fun _ => fun
  | [d1, d2, d3] => { results := [.lit (.bool false)], args := [d1, d2, d3] }
  | _ => none }
def FingerprintPremiseWrongFalsely : Prop := fingerprintPremiseRow.holds Try.pinned (OpenSpec.ofChange fingerprintPremiseWrong)

/-- 'logtidelaw08.FingerprintScans': WHATEVER THE INPUT: true; the input reads as it did. -/
def fingerprintScansSpec : ChangeSpec := { name := "fingerprintScans", fn := fun _ => fun
  | [d1, d2, d3, d4] => { results := [.lit (.bool true)], args := [d1, d2, d3, d4] }
  | _ => none }
def fingerprintScansRow : OpenClaim := { program := "ytgegmefnbkcdkaa", sum := "a7b4ce265fda90a72a4212004eebb004cd04d7fc8030b2c18d16defac45adabc", func := "logtide/logtidelaw08.FingerprintScans", spec := "fingerprintScans", unfollowed := true, recurses := true, apart := false }
def FingerprintScansSaid : Prop := fingerprintScansRow.holds Try.pinned (OpenSpec.ofChange fingerprintScansSpec)

/-- ITS FALSE NEIGHBOUR: 'it returns false'. Refute it at one input. -/
def fingerprintScansWrong : ChangeSpec := { name := "fingerprintScans", fn := fun _ => fun
  | [d1, d2, d3, d4] => { results := [.lit (.bool false)], args := [d1, d2, d3, d4] }
  | _ => none }
def FingerprintScansWrongFalsely : Prop := fingerprintScansRow.holds Try.pinned (OpenSpec.ofChange fingerprintScansWrong)

/- THE SECOND FORM. 'bulk': how many values and letters a reading holds, each counted each time it is reached (what is shared counts as often as it is met; a slice's spare places count too). A statement '..UptoSaid' is the law's where the arguments, and the package variables that the reading takes, are together of bulk at most 1048576: NARROWER than '..Said'. Prove '..Said' where nothing that the law and all that it calls make is longer than what came in: it says more and counts as full. Else prove '..UptoSaid'. A law counts once. -/
mutual
def uptoBulk {H : Type} : DataW H → Nat
  | .lit (.string bytes) => bytes.length + 1
  | .lit _ => 1
  | .nil => 1
  | .ptr d => uptoBulk d + 1
  | .slice elems spare => uptoBulkAll elems + uptoBulkAll spare + 1
  | .agg parts => uptoBulkAll parts + 1
  | .iface _ d => uptoBulk d + 1
  | .map entries => uptoBulkEntries entries + 1
  | .held _ => 1
def uptoBulkAll {H : Type} : List (DataW H) → Nat
  | [] => 0
  | d :: r => uptoBulk d + uptoBulkAll r
def uptoBulkEntries {H : Type} : List (Lit × DataW H) → Nat
  | [] => 0
  | x :: r => uptoBulkEntry x + uptoBulkEntries r
def uptoBulkEntry {H : Type} : Lit × DataW H → Nat
  | (.string bytes, d) => bytes.length + uptoBulk d + 1
  | (_, d) => uptoBulk d + 1
 end
def uptoSmall : (H : Type) → List (DataW H) → Bool := fun _ ds => decide (uptoBulkAll ds ≤ 1048576)
def OpenSpec.upto (s : _root_.Go.ChangeSpec) : _root_.Go.OpenSpec := { _root_.Go.OpenSpec.ofChange s with cond := some uptoSmall }

/-- 'logtidelaw08.FingerprintNumbers', WHERE WHAT IT READS IS OF BULK AT MOST 1048576: true; the input reads as it did. -/
def fingerprintNumbersUptoRow : OpenClaim := { program := "ytgegmefnbkcdkaa", sum := "a7b4ce265fda90a72a4212004eebb004cd04d7fc8030b2c18d16defac45adabc", func := "logtide/logtidelaw08.FingerprintNumbers", spec := "fingerprintNumbers", apart := false, narrowed := true }
def FingerprintNumbersUptoSaid : Prop := fingerprintNumbersUptoRow.holds Try.pinned (OpenSpec.upto fingerprintNumbersSpec)

/-- 'logtidelaw08.FingerprintPremise', WHERE WHAT IT READS IS OF BULK AT MOST 1048576: true; the input reads as it did. -/
def fingerprintPremiseUptoRow : OpenClaim := { program := "ytgegmefnbkcdkaa", sum := "a7b4ce265fda90a72a4212004eebb004cd04d7fc8030b2c18d16defac45adabc", func := "logtide/logtidelaw08.FingerprintPremise", spec := "fingerprintPremise", apart := false, narrowed := true }
def FingerprintPremiseUptoSaid : Prop := fingerprintPremiseUptoRow.holds Try.pinned (OpenSpec.upto fingerprintPremiseSpec)

/-- 'logtidelaw08.FingerprintScans', WHERE WHAT IT READS IS OF BULK AT MOST 1048576: true; the input reads as it did. -/
def fingerprintScansUptoRow : OpenClaim := { program := "ytgegmefnbkcdkaa", sum := "a7b4ce265fda90a72a4212004eebb004cd04d7fc8030b2c18d16defac45adabc", func := "logtide/logtidelaw08.FingerprintScans", spec := "fingerprintScans", unfollowed := true, recurses := true, apart := false, narrowed := true }
def FingerprintScansUptoSaid : Prop := fingerprintScansUptoRow.holds Try.pinned (OpenSpec.upto fingerprintScansSpec)

end Rows
end Go.Proofs.Ytgegmefnbkcdkaa
