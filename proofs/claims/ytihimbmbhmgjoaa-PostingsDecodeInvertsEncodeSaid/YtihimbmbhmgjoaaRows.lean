/-
  No cell of these rows narrows 'for every input' (looked for: loops, veiled, ifaces, maps, wideKeys, modest, calm, conditions, laid).
  DERIVED. THE GIVEN ROWS OF THIS SEAT. 7 by the template 'for every input the law returns true; each argument reads behind the call as it read before'; 0 by the template 'total and deterministic' (their statements: YtihimbmbhmgjoaaTotals.lean).
  GIVEN WITH THE SEED: the statements are not yours to turn. If you find one false, say at which input.
  Laid BY PROGRAM, IN A SANDBOX (cutbox-rows.mjs): the forced cells as the released guide's own fill.sh prints them over the translation 30ad36aea2ae9464… (all of the seat's roots in one cut). By AI agents, Wed Nov 11 2026. No macro, syntax, notation, axiom, sorry.
-/
import Derived.Test.YtihimbmbhmgjoaaChecked
import GoSem.Claim
import GoSem.ClaimJoined
import GoSem.ClaimMapViews
import Derived.JoinedTies
import Derived.KernelRfl
namespace Go.Proofs.Ytihimbmbhmgjoaa
/- THE CELL 'sum', in the pinned program and in every row, IS THE sha256 OF THE DUMP (.gsa) THAT YtihimbmbhmgjoaaProg.lean LOADS. Nothing in Lean hashes anything: it is a label: what it is worth is what the hold of that sum in a sandbox is worth. -/
noncomputable def Try.pinned : Pinned := { name := "ytihimbmbhmgjoaa", sum := "30ad36aea2ae94648291594ad088cd0015a89ae9011aa43fd4f7de5c1841dfe3", checked := Try.checked }
namespace Rows
def none {H : Type} : Left H := { results := [], args := [] }

/-- 'logtidelaw25.PostingsLattice': WHATEVER THE INPUT: true; the input reads as it did. -/
def postingsLatticeSpec : ChangeSpec := { name := "postingsLattice", fn := fun _ => fun
  | [d] => { results := [.lit (.bool true)], args := [d] }
  | _ => none }
def postingsLatticeRow : OpenClaim := { program := "ytihimbmbhmgjoaa", sum := "30ad36aea2ae94648291594ad088cd0015a89ae9011aa43fd4f7de5c1841dfe3", func := "logtide/logtidelaw25.PostingsLattice", spec := "postingsLattice", unfollowed := true, recurses := true, apart := false }
def PostingsLatticeSaid : Prop := postingsLatticeRow.holds Try.pinned (OpenSpec.ofChange postingsLatticeSpec)

/-- ITS FALSE NEIGHBOUR: 'it returns false'. Refute it at one input. -/
def postingsLatticeWrong : ChangeSpec := { name := "postingsLattice", fn := fun _ => fun
  | [d] => { results := [.lit (.bool false)], args := [d] }
  | _ => none }
def PostingsLatticeWrongFalsely : Prop := postingsLatticeRow.holds Try.pinned (OpenSpec.ofChange postingsLatticeWrong)

/-- 'logtidelaw25.PostingsCheck': WHATEVER THE INPUT: true; the input reads as it did. -/
def postingsCheckSpec : ChangeSpec := { name := "postingsCheck", fn := fun _ => fun
  | [d1, d2] => { results := [.lit (.bool true)], args := [d1, d2] }
  | _ => none }
def postingsCheckRow : OpenClaim := { program := "ytihimbmbhmgjoaa", sum := "30ad36aea2ae94648291594ad088cd0015a89ae9011aa43fd4f7de5c1841dfe3", func := "logtide/logtidelaw25.PostingsCheck", spec := "postingsCheck", unfollowed := true, recurses := true, apart := false }
def PostingsCheckSaid : Prop := postingsCheckRow.holds Try.pinned (OpenSpec.ofChange postingsCheckSpec)

/-- ITS FALSE NEIGHBOUR: 'it returns false'. Refute it at one input. -/
def postingsCheckWrong : ChangeSpec := { name := "postingsCheck", fn := fun _ => fun
  | [d1, d2] => { results := [.lit (.bool false)], args := [d1, d2] }
  | _ => none }
def PostingsCheckWrongFalsely : Prop := postingsCheckRow.holds Try.pinned (OpenSpec.ofChange postingsCheckWrong)

/-- 'logtidelaw25.PostingsOperations': WHATEVER THE INPUT: true; the input reads as it did. -/
def postingsOperationsSpec : ChangeSpec := { name := "postingsOperations", fn := fun _ => fun
  | [d1, d2] => { results := [.lit (.bool true)], args := [d1, d2] }
  | _ => none }
def postingsOperationsRow : OpenClaim := { program := "ytihimbmbhmgjoaa", sum := "30ad36aea2ae94648291594ad088cd0015a89ae9011aa43fd4f7de5c1841dfe3", func := "logtide/logtidelaw25.PostingsOperations", spec := "postingsOperations", unfollowed := true, recurses := true, apart := false }
def PostingsOperationsSaid : Prop := postingsOperationsRow.holds Try.pinned (OpenSpec.ofChange postingsOperationsSpec)

/-- ITS FALSE NEIGHBOUR: 'it returns false'. Refute it at one input. -/
def postingsOperationsWrong : ChangeSpec := { name := "postingsOperations", fn := fun _ => fun
  | [d1, d2] => { results := [.lit (.bool false)], args := [d1, d2] }
  | _ => none }
def PostingsOperationsWrongFalsely : Prop := postingsOperationsRow.holds Try.pinned (OpenSpec.ofChange postingsOperationsWrong)

/-- 'logtidelaw25.PostingsEncode': WHATEVER THE INPUT: true; the input reads as it did. -/
def postingsEncodeSpec : ChangeSpec := { name := "postingsEncode", fn := fun _ => fun
  | [d1, d2] => { results := [.lit (.bool true)], args := [d1, d2] }
  | _ => none }
def postingsEncodeRow : OpenClaim := { program := "ytihimbmbhmgjoaa", sum := "30ad36aea2ae94648291594ad088cd0015a89ae9011aa43fd4f7de5c1841dfe3", func := "logtide/logtidelaw25.PostingsEncode", spec := "postingsEncode", unfollowed := true, recurses := true, apart := false }
def PostingsEncodeSaid : Prop := postingsEncodeRow.holds Try.pinned (OpenSpec.ofChange postingsEncodeSpec)

/-- ITS FALSE NEIGHBOUR: 'it returns false'. Refute it at one input. -/
def postingsEncodeWrong : ChangeSpec := { name := "postingsEncode", fn := fun _ => fun
  | [d1, d2] => { results := [.lit (.bool false)], args := [d1, d2] }
  | _ => none }
def PostingsEncodeWrongFalsely : Prop := postingsEncodeRow.holds Try.pinned (OpenSpec.ofChange postingsEncodeWrong)

/-- 'logtidelaw25.PostingsDecode': WHATEVER THE INPUT: true; the input reads as it did. -/
def postingsDecodeSpec : ChangeSpec := { name := "postingsDecode", fn := fun _ => fun
  | [d1, d2, d3, d4] => { results := [.lit (.bool true)], args := [d1, d2, d3, d4] }
  | _ => none }
def postingsDecodeRow : OpenClaim := { program := "ytihimbmbhmgjoaa", sum := "30ad36aea2ae94648291594ad088cd0015a89ae9011aa43fd4f7de5c1841dfe3", func := "logtide/logtidelaw25.PostingsDecode", spec := "postingsDecode", unfollowed := true, recurses := true, apart := false }
def PostingsDecodeSaid : Prop := postingsDecodeRow.holds Try.pinned (OpenSpec.ofChange postingsDecodeSpec)

/-- ITS FALSE NEIGHBOUR: 'it returns false'. Refute it at one input. -/
def postingsDecodeWrong : ChangeSpec := { name := "postingsDecode", fn := fun _ => fun
  | [d1, d2, d3, d4] => { results := [.lit (.bool false)], args := [d1, d2, d3, d4] }
  | _ => none }
def PostingsDecodeWrongFalsely : Prop := postingsDecodeRow.holds Try.pinned (OpenSpec.ofChange postingsDecodeWrong)

/-- 'logtidelaw25.PostingsDecodeInvertsEncode': WHATEVER THE INPUT: true; the input reads as it did. -/
def postingsDecodeInvertsEncodeSpec : ChangeSpec := { name := "postingsDecodeInvertsEncode", fn := fun _ => fun
  | [d] => { results := [.lit (.bool true)], args := [d] }
  | _ => none }
def postingsDecodeInvertsEncodeRow : OpenClaim := { program := "ytihimbmbhmgjoaa", sum := "30ad36aea2ae94648291594ad088cd0015a89ae9011aa43fd4f7de5c1841dfe3", func := "logtide/logtidelaw25.PostingsDecodeInvertsEncode", spec := "postingsDecodeInvertsEncode", unfollowed := true, recurses := true, apart := false }
def PostingsDecodeInvertsEncodeSaid : Prop := postingsDecodeInvertsEncodeRow.holds Try.pinned (OpenSpec.ofChange postingsDecodeInvertsEncodeSpec)

/-- ITS FALSE NEIGHBOUR: 'it returns false'. Refute it at one input. -/
def postingsDecodeInvertsEncodeWrong : ChangeSpec := { name := "postingsDecodeInvertsEncode", fn := fun _ => fun
  | [d] => { results := [.lit (.bool false)], args := [d] }
  | _ => none }
def PostingsDecodeInvertsEncodeWrongFalsely : Prop := postingsDecodeInvertsEncodeRow.holds Try.pinned (OpenSpec.ofChange postingsDecodeInvertsEncodeWrong)

/-- 'logtidelaw25.PostingsSeek': WHATEVER THE INPUT: true; the input reads as it did. -/
def postingsSeekSpec : ChangeSpec := { name := "postingsSeek", fn := fun _ => fun
  | [d1, d2, d3] => { results := [.lit (.bool true)], args := [d1, d2, d3] }
  | _ => none }
def postingsSeekRow : OpenClaim := { program := "ytihimbmbhmgjoaa", sum := "30ad36aea2ae94648291594ad088cd0015a89ae9011aa43fd4f7de5c1841dfe3", func := "logtide/logtidelaw25.PostingsSeek", spec := "postingsSeek", unfollowed := true, recurses := true, apart := false }
def PostingsSeekSaid : Prop := postingsSeekRow.holds Try.pinned (OpenSpec.ofChange postingsSeekSpec)

/-- ITS FALSE NEIGHBOUR: 'it returns false'. Refute it at one input. -/
def postingsSeekWrong : ChangeSpec := { name := "postingsSeek", fn := fun _ => fun
  | [d1, d2, d3] => { results := [.lit (.bool false)], args := [d1, d2, d3] }
  | _ => none }
def PostingsSeekWrongFalsely : Prop := postingsSeekRow.holds Try.pinned (OpenSpec.ofChange postingsSeekWrong)

/- THE SECOND FORM. 'bulk': how many values and letters a reading holds, each counted each time it is reached (what is shared counts as often as it is met; a slice's spare places count too). A statement '..UptoSaid' is the law's where the arguments, and the package variables that the reading takes, are together of bulk at most 1048576: NARROWER than '..Said'. Prove '..Said' where nothing that the law and all that it calls make is longer than what came in: it says more and counts as full. Else prove '..UptoSaid'. A law counts once. -/
mutual
def uptoBulk {H : Type} : DataW H → Nat
  | .lit (.string bytes) => bytes.length + 1
  | .lit _ => 1
  | .nil => 1
  | .ptr d => uptoBulk d + 1
  | .slice elems spare => uptoBulkAll elems + uptoBulkAll spare + 1
  | .agg parts => uptoBulkAll parts + 1
  | .iface _ d => uptoBulk d + 1
  | .map entries => uptoBulkEntries entries + 1
  | .held _ => 1
def uptoBulkAll {H : Type} : List (DataW H) → Nat
  | [] => 0
  | d :: r => uptoBulk d + uptoBulkAll r
def uptoBulkEntries {H : Type} : List (Lit × DataW H) → Nat
  | [] => 0
  | x :: r => uptoBulkEntry x + uptoBulkEntries r
def uptoBulkEntry {H : Type} : Lit × DataW H → Nat
  | (.string bytes, d) => bytes.length + uptoBulk d + 1
  | (_, d) => uptoBulk d + 1
 end
def uptoSmall : (H : Type) → List (DataW H) → Bool := fun _ ds => decide (uptoBulkAll ds ≤ 1048576)
def OpenSpec.upto (s : _root_.Go.ChangeSpec) : _root_.Go.OpenSpec := { _root_.Go.OpenSpec.ofChange s with cond := some uptoSmall }

/-- 'logtidelaw25.PostingsLattice', WHERE WHAT IT READS IS OF BULK AT MOST 1048576: true; the input reads as it did. -/
def postingsLatticeUptoRow : OpenClaim := { program := "ytihimbmbhmgjoaa", sum := "30ad36aea2ae94648291594ad088cd0015a89ae9011aa43fd4f7de5c1841dfe3", func := "logtide/logtidelaw25.PostingsLattice", spec := "postingsLattice", unfollowed := true, recurses := true, apart := false, narrowed := true }
def PostingsLatticeUptoSaid : Prop := postingsLatticeUptoRow.holds Try.pinned (OpenSpec.upto postingsLatticeSpec)

/-- 'logtidelaw25.PostingsCheck', WHERE WHAT IT READS IS OF BULK AT MOST 1048576: true; the input reads as it did. -/
def postingsCheckUptoRow : OpenClaim := { program := "ytihimbmbhmgjoaa", sum := "30ad36aea2ae94648291594ad088cd0015a89ae9011aa43fd4f7de5c1841dfe3", func := "logtide/logtidelaw25.PostingsCheck", spec := "postingsCheck", unfollowed := true, recurses := true, apart := false, narrowed := true }
def PostingsCheckUptoSaid : Prop := postingsCheckUptoRow.holds Try.pinned (OpenSpec.upto postingsCheckSpec)

/-- 'logtidelaw25.PostingsOperations', WHERE WHAT IT READS IS OF BULK AT MOST 1048576: true; the input reads as it did. -/
def postingsOperationsUptoRow : OpenClaim := { program := "ytihimbmbhmgjoaa", sum := "30ad36aea2ae94648291594ad088cd0015a89ae9011aa43fd4f7de5c1841dfe3", func := "logtide/logtidelaw25.PostingsOperations", spec := "postingsOperations", unfollowed := true, recurses := true, apart := false, narrowed := true }
def PostingsOperationsUptoSaid : Prop := postingsOperationsUptoRow.holds Try.pinned (OpenSpec.upto postingsOperationsSpec)

/-- 'logtidelaw25.PostingsEncode', WHERE WHAT IT READS IS OF BULK AT MOST 1048576: true; the input reads as it did. -/
def postingsEncodeUptoRow : OpenClaim := { program := "ytihimbmbhmgjoaa", sum := "30ad36aea2ae94648291594ad088cd0015a89ae9011aa43fd4f7de5c1841dfe3", func := "logtide/logtidelaw25.PostingsEncode", spec := "postingsEncode", unfollowed := true, recurses := true, apart := false, narrowed := true }
def PostingsEncodeUptoSaid : Prop := postingsEncodeUptoRow.holds Try.pinned (OpenSpec.upto postingsEncodeSpec)

/-- 'logtidelaw25.PostingsDecode', WHERE WHAT IT READS IS OF BULK AT MOST 1048576: true; the input reads as it did. -/
def postingsDecodeUptoRow : OpenClaim := { program := "ytihimbmbhmgjoaa", sum := "30ad36aea2ae94648291594ad088cd0015a89ae9011aa43fd4f7de5c1841dfe3", func := "logtide/logtidelaw25.PostingsDecode", spec := "postingsDecode", unfollowed := true, recurses := true, apart := false, narrowed := true }
def PostingsDecodeUptoSaid : Prop := postingsDecodeUptoRow.holds Try.pinned (OpenSpec.upto postingsDecodeSpec)

/-- 'logtidelaw25.PostingsDecodeInvertsEncode', WHERE WHAT IT READS IS OF BULK AT MOST 1048576: true; the input reads as it did. -/
def postingsDecodeInvertsEncodeUptoRow : OpenClaim := { program := "ytihimbmbhmgjoaa", sum := "30ad36aea2ae94648291594ad088cd0015a89ae9011aa43fd4f7de5c1841dfe3", func := "logtide/logtidelaw25.PostingsDecodeInvertsEncode", spec := "postingsDecodeInvertsEncode", unfollowed := true, recurses := true, apart := false, narrowed := true }
def PostingsDecodeInvertsEncodeUptoSaid : Prop := postingsDecodeInvertsEncodeUptoRow.holds Try.pinned (OpenSpec.upto postingsDecodeInvertsEncodeSpec)

/-- 'logtidelaw25.PostingsSeek', WHERE WHAT IT READS IS OF BULK AT MOST 1048576: true; the input reads as it did. -/
def postingsSeekUptoRow : OpenClaim := { program := "ytihimbmbhmgjoaa", sum := "30ad36aea2ae94648291594ad088cd0015a89ae9011aa43fd4f7de5c1841dfe3", func := "logtide/logtidelaw25.PostingsSeek", spec := "postingsSeek", unfollowed := true, recurses := true, apart := false, narrowed := true }
def PostingsSeekUptoSaid : Prop := postingsSeekUptoRow.holds Try.pinned (OpenSpec.upto postingsSeekSpec)

end Rows
end Go.Proofs.Ytihimbmbhmgjoaa
