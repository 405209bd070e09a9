/-
  NARROWER THAN 'FOR EVERY INPUT', by the rows' own cells (each row's printed sentence says how): FingerprintStays: laid.
  DERIVED. THE GIVEN ROWS OF THIS SEAT. 1 by the template 'for every input the law returns true; each argument reads behind the call as it read before'; 0 by the template 'total and deterministic' (their statements: YtgegmefnbkcdkaaDoorTotals.lean).
  GIVEN WITH THE SEED: the statements are not yours to turn. If you find one false, say at which input.
  Laid BY PROGRAM, IN A SANDBOX (cutbox-rows.mjs): the forced cells as the released guide's own fill.sh prints them over the translation 036d9ced70a0b1f2… (all of the seat's roots in one cut). By AI agents, Wed Nov 11 2026. No macro, syntax, notation, axiom, sorry.
-/
import Derived.Test.YtgegmefnbkcdkaaDoorChecked
import GoSem.Claim
import GoSem.ClaimJoined
import GoSem.ClaimMapViews
import Derived.JoinedTies
import Derived.KernelRfl
namespace Go.Proofs.YtgegmefnbkcdkaaDoor
/- THE CELL 'sum', in the pinned program and in every row, IS THE sha256 OF THE DUMP (.gsa) THAT YtgegmefnbkcdkaaDoorProg.lean LOADS. Nothing in Lean hashes anything: it is a label: what it is worth is what the hold of that sum in a sandbox is worth. -/
noncomputable def Tryd.pinned : Pinned := { name := "ytgegmefnbkcdkaadoor", sum := "036d9ced70a0b1f2ce4d30a889b5a09cbaf6e4e97104934f8490038e806f9778", checked := Tryd.checked }
namespace Rows
def none {H : Type} : Left H := { results := [], args := [] }

/- WHAT THE LISTED PACKAGE-LEVEL VARIABLES READ AS WHEN THE CALL BEGINS. Each datum BY PROGRAM (the guide's laid-datum.mjs) off the statement by which the dump's own 'gosem.cut.vars' lays the variable. In a bare row this is a premise. The card (YtgegmefnbkcdkaaDoorCards.lean) ties it to the program's text. -/
def laid_logtide_filesystem_changes {H : Type} : DataW H := .iface "func table" (.agg [.nil, .iface "func" (.lit (.string [40, 42, 108, 111, 103, 116, 105, 100, 101, 47, 102, 105, 108, 101, 115, 121, 115, 116, 101, 109, 46, 100, 105, 114, 101, 99, 116, 111, 114, 121, 41, 46, 99, 114, 101, 97, 116, 101])), .iface "func" (.lit (.string [40, 42, 108, 111, 103, 116, 105, 100, 101, 47, 102, 105, 108, 101, 115, 121, 115, 116, 101, 109, 46, 100, 105, 114, 101, 99, 116, 111, 114, 121, 41, 46, 97, 112, 112, 101, 110, 100])), .iface "func" (.lit (.string [40, 42, 108, 111, 103, 116, 105, 100, 101, 47, 102, 105, 108, 101, 115, 121, 115, 116, 101, 109, 46, 100, 105, 114, 101, 99, 116, 111, 114, 121, 41, 46, 116, 114, 117, 110, 99, 97, 116, 101])), .iface "func" (.lit (.string [40, 42, 108, 111, 103, 116, 105, 100, 101, 47, 102, 105, 108, 101, 115, 121, 115, 116, 101, 109, 46, 100, 105, 114, 101, 99, 116, 111, 114, 121, 41, 46, 114, 101, 110, 97, 109, 101])), .iface "func" (.lit (.string [40, 42, 108, 111, 103, 116, 105, 100, 101, 47, 102, 105, 108, 101, 115, 121, 115, 116, 101, 109, 46, 100, 105, 114, 101, 99, 116, 111, 114, 121, 41, 46, 115, 116, 97, 114, 116, 67, 111, 112, 121])), .iface "func" (.lit (.string [40, 42, 108, 111, 103, 116, 105, 100, 101, 47, 102, 105, 108, 101, 115, 121, 115, 116, 101, 109, 46, 100, 105, 114, 101, 99, 116, 111, 114, 121, 41, 46, 99, 111, 112, 121, 77, 111, 114, 101])), .iface "func" (.lit (.string [40, 42, 108, 111, 103, 116, 105, 100, 101, 47, 102, 105, 108, 101, 115, 121, 115, 116, 101, 109, 46, 100, 105, 114, 101, 99, 116, 111, 114, 121, 41, 46, 114, 101, 109, 111, 118, 101])), .iface "func" (.lit (.string [40, 42, 108, 111, 103, 116, 105, 100, 101, 47, 102, 105, 108, 101, 115, 121, 115, 116, 101, 109, 46, 100, 105, 114, 101, 99, 116, 111, 114, 121, 41, 46, 114, 101, 112, 108, 97, 99, 101]))])

/-- 'logtidelaw08.FingerprintStays': WHATEVER THE INPUT: true; the input reads as it did. -/
def fingerprintStaysSpec : ChangeSpec := { name := "fingerprintStays", fn := fun _ => fun
  | [d1, d2, d3] => { results := [.lit (.bool true)], args := [d1, d2, d3] }
  | _ => none }
def fingerprintStaysRow : OpenClaim := { program := "ytgegmefnbkcdkaadoor", sum := "036d9ced70a0b1f2ce4d30a889b5a09cbaf6e4e97104934f8490038e806f9778", func := "logtide/logtidelaw08.FingerprintStays", spec := "fingerprintStays", unfollowed := true, recurses := true, named := ["logtide/filesystem.changes"], apart := false, laid := [("logtide/filesystem.changes", laid_logtide_filesystem_changes)] }
def FingerprintStaysSaid : Prop := fingerprintStaysRow.holds Tryd.pinned (OpenSpec.ofChange fingerprintStaysSpec)

/-- ITS FALSE NEIGHBOUR: 'it returns false'. Refute it at one input. -/
def fingerprintStaysWrong : ChangeSpec := { name := "fingerprintStays", fn := fun _ => fun
  | [d1, d2, d3] => { results := [.lit (.bool false)], args := [d1, d2, d3] }
  | _ => none }
def FingerprintStaysWrongFalsely : Prop := fingerprintStaysRow.holds Tryd.pinned (OpenSpec.ofChange fingerprintStaysWrong)

/- THE SECOND FORM. 'bulk': how many values and letters a reading holds, each counted each time it is reached (what is shared counts as often as it is met; a slice's spare places count too). A statement '..UptoSaid' is the law's where the arguments, and the package variables that the reading takes, are together of bulk at most 1048576: NARROWER than '..Said'. Prove '..Said' where nothing that the law and all that it calls make is longer than what came in: it says more and counts as full. Else prove '..UptoSaid'. A law counts once. -/
mutual
def uptoBulk {H : Type} : DataW H → Nat
  | .lit (.string bytes) => bytes.length + 1
  | .lit _ => 1
  | .nil => 1
  | .ptr d => uptoBulk d + 1
  | .slice elems spare => uptoBulkAll elems + uptoBulkAll spare + 1
  | .agg parts => uptoBulkAll parts + 1
  | .iface _ d => uptoBulk d + 1
  | .map entries => uptoBulkEntries entries + 1
  | .held _ => 1
def uptoBulkAll {H : Type} : List (DataW H) → Nat
  | [] => 0
  | d :: r => uptoBulk d + uptoBulkAll r
def uptoBulkEntries {H : Type} : List (Lit × DataW H) → Nat
  | [] => 0
  | x :: r => uptoBulkEntry x + uptoBulkEntries r
def uptoBulkEntry {H : Type} : Lit × DataW H → Nat
  | (.string bytes, d) => bytes.length + uptoBulk d + 1
  | (_, d) => uptoBulk d + 1
 end
def uptoSmall : (H : Type) → List (DataW H) → Bool := fun _ ds => decide (uptoBulkAll ds ≤ 1048576)
def OpenSpec.upto (s : _root_.Go.ChangeSpec) : _root_.Go.OpenSpec := { _root_.Go.OpenSpec.ofChange s with cond := some uptoSmall }

/-- 'logtidelaw08.FingerprintStays', WHERE WHAT IT READS IS OF BULK AT MOST 1048576: true; the input reads as it did. -/
def fingerprintStaysUptoRow : OpenClaim := { program := "ytgegmefnbkcdkaadoor", sum := "036d9ced70a0b1f2ce4d30a889b5a09cbaf6e4e97104934f8490038e806f9778", func := "logtide/logtidelaw08.FingerprintStays", spec := "fingerprintStays", unfollowed := true, recurses := true, named := ["logtide/filesystem.changes"], apart := false, laid := [("logtide/filesystem.changes", laid_logtide_filesystem_changes)], narrowed := true }
def FingerprintStaysUptoSaid : Prop := fingerprintStaysUptoRow.holds Tryd.pinned (OpenSpec.upto fingerprintStaysSpec)

end Rows
end Go.Proofs.YtgegmefnbkcdkaaDoor
