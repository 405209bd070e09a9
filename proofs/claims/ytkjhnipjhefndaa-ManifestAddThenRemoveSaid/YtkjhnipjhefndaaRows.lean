/-
  No cell of these rows narrows 'for every input' (looked for: loops, veiled, ifaces, maps, wideKeys, modest, calm, conditions, laid).
  DERIVED. THE GIVEN ROWS OF THIS SEAT. 7 by the template 'for every input the law returns true; each argument reads behind the call as it read before'; 0 by the template 'total and deterministic' (their statements: YtkjhnipjhefndaaTotals.lean).
  GIVEN WITH THE SEED: the statements are not yours to turn. If you find one false, say at which input.
  Laid BY PROGRAM, IN A SANDBOX (cutbox-rows.mjs): the forced cells as the released guide's own fill.sh prints them over the translation 420c2a363cb24f93… (all of the seat's roots in one cut). By AI agents, Wed Nov 11 2026. No macro, syntax, notation, axiom, sorry.
-/
import Derived.Test.YtkjhnipjhefndaaChecked
import GoSem.Claim
import GoSem.ClaimJoined
import GoSem.ClaimMapViews
import Derived.JoinedTies
import Derived.KernelRfl
namespace Go.Proofs.Ytkjhnipjhefndaa
/- THE CELL 'sum', in the pinned program and in every row, IS THE sha256 OF THE DUMP (.gsa) THAT YtkjhnipjhefndaaProg.lean LOADS. Nothing in Lean hashes anything: it is a label: what it is worth is what the hold of that sum in a sandbox is worth. -/
noncomputable def Try.pinned : Pinned := { name := "ytkjhnipjhefndaa", sum := "420c2a363cb24f93505dec3696f53068303ba8990c9e0a2b589de3c2f9110515", checked := Try.checked }
namespace Rows
def none {H : Type} : Left H := { results := [], args := [] }

/-- 'logtidelaw30.ManifestCheck': WHATEVER THE INPUT: true; the input reads as it did. -/
def manifestCheckSpec : ChangeSpec := { name := "manifestCheck", fn := fun _ => fun
  | [d1, d2] => { results := [.lit (.bool true)], args := [d1, d2] }
  | _ => none }
def manifestCheckRow : OpenClaim := { program := "ytkjhnipjhefndaa", sum := "420c2a363cb24f93505dec3696f53068303ba8990c9e0a2b589de3c2f9110515", func := "logtide/logtidelaw30.ManifestCheck", spec := "manifestCheck", unfollowed := true, recurses := true, apart := false }
def ManifestCheckSaid : Prop := manifestCheckRow.holds Try.pinned (OpenSpec.ofChange manifestCheckSpec)

/-- ITS FALSE NEIGHBOUR: 'it returns false'. Refute it at one input. -/
def manifestCheckWrong : ChangeSpec := { name := "manifestCheck", fn := fun _ => fun
  | [d1, d2] => { results := [.lit (.bool false)], args := [d1, d2] }
  | _ => none }
def ManifestCheckWrongFalsely : Prop := manifestCheckRow.holds Try.pinned (OpenSpec.ofChange manifestCheckWrong)

/-- 'logtidelaw30.ManifestEncode': WHATEVER THE INPUT: true; the input reads as it did. -/
def manifestEncodeSpec : ChangeSpec := { name := "manifestEncode", fn := fun _ => fun
  | [d1, d2] => { results := [.lit (.bool true)], args := [d1, d2] }
  | _ => none }
def manifestEncodeRow : OpenClaim := { program := "ytkjhnipjhefndaa", sum := "420c2a363cb24f93505dec3696f53068303ba8990c9e0a2b589de3c2f9110515", func := "logtide/logtidelaw30.ManifestEncode", spec := "manifestEncode", unfollowed := true, recurses := true, apart := false }
def ManifestEncodeSaid : Prop := manifestEncodeRow.holds Try.pinned (OpenSpec.ofChange manifestEncodeSpec)

/-- ITS FALSE NEIGHBOUR: 'it returns false'. Refute it at one input. -/
def manifestEncodeWrong : ChangeSpec := { name := "manifestEncode", fn := fun _ => fun
  | [d1, d2] => { results := [.lit (.bool false)], args := [d1, d2] }
  | _ => none }
def ManifestEncodeWrongFalsely : Prop := manifestEncodeRow.holds Try.pinned (OpenSpec.ofChange manifestEncodeWrong)

/-- 'logtidelaw30.ManifestAddThenRemove': WHATEVER THE INPUT: true; the input reads as it did. -/
def manifestAddThenRemoveSpec : ChangeSpec := { name := "manifestAddThenRemove", fn := fun _ => fun
  | [d] => { results := [.lit (.bool true)], args := [d] }
  | _ => none }
def manifestAddThenRemoveRow : OpenClaim := { program := "ytkjhnipjhefndaa", sum := "420c2a363cb24f93505dec3696f53068303ba8990c9e0a2b589de3c2f9110515", func := "logtide/logtidelaw30.ManifestAddThenRemove", spec := "manifestAddThenRemove", unfollowed := true, recurses := true, apart := false }
def ManifestAddThenRemoveSaid : Prop := manifestAddThenRemoveRow.holds Try.pinned (OpenSpec.ofChange manifestAddThenRemoveSpec)

/-- ITS FALSE NEIGHBOUR: 'it returns false'. Refute it at one input. -/
def manifestAddThenRemoveWrong : ChangeSpec := { name := "manifestAddThenRemove", fn := fun _ => fun
  | [d] => { results := [.lit (.bool false)], args := [d] }
  | _ => none }
def ManifestAddThenRemoveWrongFalsely : Prop := manifestAddThenRemoveRow.holds Try.pinned (OpenSpec.ofChange manifestAddThenRemoveWrong)

/-- 'logtidelaw30.ManifestDecode': WHATEVER THE INPUT: true; the input reads as it did. -/
def manifestDecodeSpec : ChangeSpec := { name := "manifestDecode", fn := fun _ => fun
  | [d1, d2, d3, d4] => { results := [.lit (.bool true)], args := [d1, d2, d3, d4] }
  | _ => none }
def manifestDecodeRow : OpenClaim := { program := "ytkjhnipjhefndaa", sum := "420c2a363cb24f93505dec3696f53068303ba8990c9e0a2b589de3c2f9110515", func := "logtide/logtidelaw30.ManifestDecode", spec := "manifestDecode", unfollowed := true, recurses := true, apart := false }
def ManifestDecodeSaid : Prop := manifestDecodeRow.holds Try.pinned (OpenSpec.ofChange manifestDecodeSpec)

/-- ITS FALSE NEIGHBOUR: 'it returns false'. Refute it at one input. -/
def manifestDecodeWrong : ChangeSpec := { name := "manifestDecode", fn := fun _ => fun
  | [d1, d2, d3, d4] => { results := [.lit (.bool false)], args := [d1, d2, d3, d4] }
  | _ => none }
def ManifestDecodeWrongFalsely : Prop := manifestDecodeRow.holds Try.pinned (OpenSpec.ofChange manifestDecodeWrong)

/-- 'logtidelaw30.ManifestDecodeInvertsEncode': WHATEVER THE INPUT: true; the input reads as it did. -/
def manifestDecodeInvertsEncodeSpec : ChangeSpec := { name := "manifestDecodeInvertsEncode", fn := fun _ => fun
  | [d1, d2, d3] => { results := [.lit (.bool true)], args := [d1, d2, d3] }
  | _ => none }
def manifestDecodeInvertsEncodeRow : OpenClaim := { program := "ytkjhnipjhefndaa", sum := "420c2a363cb24f93505dec3696f53068303ba8990c9e0a2b589de3c2f9110515", func := "logtide/logtidelaw30.ManifestDecodeInvertsEncode", spec := "manifestDecodeInvertsEncode", unfollowed := true, recurses := true, apart := false }
def ManifestDecodeInvertsEncodeSaid : Prop := manifestDecodeInvertsEncodeRow.holds Try.pinned (OpenSpec.ofChange manifestDecodeInvertsEncodeSpec)

/-- ITS FALSE NEIGHBOUR: 'it returns false'. Refute it at one input. -/
def manifestDecodeInvertsEncodeWrong : ChangeSpec := { name := "manifestDecodeInvertsEncode", fn := fun _ => fun
  | [d1, d2, d3] => { results := [.lit (.bool false)], args := [d1, d2, d3] }
  | _ => none }
def ManifestDecodeInvertsEncodeWrongFalsely : Prop := manifestDecodeInvertsEncodeRow.holds Try.pinned (OpenSpec.ofChange manifestDecodeInvertsEncodeWrong)

/-- 'logtidelaw30.ManifestSlots': WHATEVER THE INPUT: true; the input reads as it did. -/
def manifestSlotsSpec : ChangeSpec := { name := "manifestSlots", fn := fun _ => fun
  | [d1, d2, d3, d4, d5] => { results := [.lit (.bool true)], args := [d1, d2, d3, d4, d5] }
  | _ => none }
def manifestSlotsRow : OpenClaim := { program := "ytkjhnipjhefndaa", sum := "420c2a363cb24f93505dec3696f53068303ba8990c9e0a2b589de3c2f9110515", func := "logtide/logtidelaw30.ManifestSlots", spec := "manifestSlots", unfollowed := true, recurses := true, apart := false }
def ManifestSlotsSaid : Prop := manifestSlotsRow.holds Try.pinned (OpenSpec.ofChange manifestSlotsSpec)

/-- ITS FALSE NEIGHBOUR: 'it returns false'. Refute it at one input. -/
def manifestSlotsWrong : ChangeSpec := { name := "manifestSlots", fn := fun _ => fun
  | [d1, d2, d3, d4, d5] => { results := [.lit (.bool false)], args := [d1, d2, d3, d4, d5] }
  | _ => none }
def ManifestSlotsWrongFalsely : Prop := manifestSlotsRow.holds Try.pinned (OpenSpec.ofChange manifestSlotsWrong)

/-- 'logtidelaw30.ManifestSurvivesTornWrites': WHATEVER THE INPUT: true; the input reads as it did. -/
def manifestSurvivesTornWritesSpec : ChangeSpec := { name := "manifestSurvivesTornWrites", fn := fun _ => fun
  | [d1, d2, d3] => { results := [.lit (.bool true)], args := [d1, d2, d3] }
  | _ => none }
def manifestSurvivesTornWritesRow : OpenClaim := { program := "ytkjhnipjhefndaa", sum := "420c2a363cb24f93505dec3696f53068303ba8990c9e0a2b589de3c2f9110515", func := "logtide/logtidelaw30.ManifestSurvivesTornWrites", spec := "manifestSurvivesTornWrites", unfollowed := true, recurses := true, apart := false }
def ManifestSurvivesTornWritesSaid : Prop := manifestSurvivesTornWritesRow.holds Try.pinned (OpenSpec.ofChange manifestSurvivesTornWritesSpec)

/-- ITS FALSE NEIGHBOUR: 'it returns false'. Refute it at one input. -/
def manifestSurvivesTornWritesWrong : ChangeSpec := { name := "manifestSurvivesTornWrites", fn := fun _ => fun
  | [d1, d2, d3] => { results := [.lit (.bool false)], args := [d1, d2, d3] }
  | _ => none }
def ManifestSurvivesTornWritesWrongFalsely : Prop := manifestSurvivesTornWritesRow.holds Try.pinned (OpenSpec.ofChange manifestSurvivesTornWritesWrong)

/- THE SECOND FORM. 'bulk': how many values and letters a reading holds, each counted each time it is reached (what is shared counts as often as it is met; a slice's spare places count too). A statement '..UptoSaid' is the law's where the arguments, and the package variables that the reading takes, are together of bulk at most 1048576: NARROWER than '..Said'. Prove '..Said' where nothing that the law and all that it calls make is longer than what came in: it says more and counts as full. Else prove '..UptoSaid'. A law counts once. -/
mutual
def uptoBulk {H : Type} : DataW H → Nat
  | .lit (.string bytes) => bytes.length + 1
  | .lit _ => 1
  | .nil => 1
  | .ptr d => uptoBulk d + 1
  | .slice elems spare => uptoBulkAll elems + uptoBulkAll spare + 1
  | .agg parts => uptoBulkAll parts + 1
  | .iface _ d => uptoBulk d + 1
  | .map entries => uptoBulkEntries entries + 1
  | .held _ => 1
def uptoBulkAll {H : Type} : List (DataW H) → Nat
  | [] => 0
  | d :: r => uptoBulk d + uptoBulkAll r
def uptoBulkEntries {H : Type} : List (Lit × DataW H) → Nat
  | [] => 0
  | x :: r => uptoBulkEntry x + uptoBulkEntries r
def uptoBulkEntry {H : Type} : Lit × DataW H → Nat
  | (.string bytes, d) => bytes.length + uptoBulk d + 1
  | (_, d) => uptoBulk d + 1
 end
def uptoSmall : (H : Type) → List (DataW H) → Bool := fun _ ds => decide (uptoBulkAll ds ≤ 1048576)
def OpenSpec.upto (s : _root_.Go.ChangeSpec) : _root_.Go.OpenSpec := { _root_.Go.OpenSpec.ofChange s with cond := some uptoSmall }

/-- 'logtidelaw30.ManifestCheck', WHERE WHAT IT READS IS OF BULK AT MOST 1048576: true; the input reads as it did. -/
def manifestCheckUptoRow : OpenClaim := { program := "ytkjhnipjhefndaa", sum := "420c2a363cb24f93505dec3696f53068303ba8990c9e0a2b589de3c2f9110515", func := "logtide/logtidelaw30.ManifestCheck", spec := "manifestCheck", unfollowed := true, recurses := true, apart := false, narrowed := true }
def ManifestCheckUptoSaid : Prop := manifestCheckUptoRow.holds Try.pinned (OpenSpec.upto manifestCheckSpec)

/-- 'logtidelaw30.ManifestEncode', WHERE WHAT IT READS IS OF BULK AT MOST 1048576: true; the input reads as it did. -/
def manifestEncodeUptoRow : OpenClaim := { program := "ytkjhnipjhefndaa", sum := "420c2a363cb24f93505dec3696f53068303ba8990c9e0a2b589de3c2f9110515", func := "logtide/logtidelaw30.ManifestEncode", spec := "manifestEncode", unfollowed := true, recurses := true, apart := false, narrowed := true }
def ManifestEncodeUptoSaid : Prop := manifestEncodeUptoRow.holds Try.pinned (OpenSpec.upto manifestEncodeSpec)

/-- 'logtidelaw30.ManifestAddThenRemove', WHERE WHAT IT READS IS OF BULK AT MOST 1048576: true; the input reads as it did. -/
def manifestAddThenRemoveUptoRow : OpenClaim := { program := "ytkjhnipjhefndaa", sum := "420c2a363cb24f93505dec3696f53068303ba8990c9e0a2b589de3c2f9110515", func := "logtide/logtidelaw30.ManifestAddThenRemove", spec := "manifestAddThenRemove", unfollowed := true, recurses := true, apart := false, narrowed := true }
def ManifestAddThenRemoveUptoSaid : Prop := manifestAddThenRemoveUptoRow.holds Try.pinned (OpenSpec.upto manifestAddThenRemoveSpec)

/-- 'logtidelaw30.ManifestDecode', WHERE WHAT IT READS IS OF BULK AT MOST 1048576: true; the input reads as it did. -/
def manifestDecodeUptoRow : OpenClaim := { program := "ytkjhnipjhefndaa", sum := "420c2a363cb24f93505dec3696f53068303ba8990c9e0a2b589de3c2f9110515", func := "logtide/logtidelaw30.ManifestDecode", spec := "manifestDecode", unfollowed := true, recurses := true, apart := false, narrowed := true }
def ManifestDecodeUptoSaid : Prop := manifestDecodeUptoRow.holds Try.pinned (OpenSpec.upto manifestDecodeSpec)

/-- 'logtidelaw30.ManifestDecodeInvertsEncode', WHERE WHAT IT READS IS OF BULK AT MOST 1048576: true; the input reads as it did. -/
def manifestDecodeInvertsEncodeUptoRow : OpenClaim := { program := "ytkjhnipjhefndaa", sum := "420c2a363cb24f93505dec3696f53068303ba8990c9e0a2b589de3c2f9110515", func := "logtide/logtidelaw30.ManifestDecodeInvertsEncode", spec := "manifestDecodeInvertsEncode", unfollowed := true, recurses := true, apart := false, narrowed := true }
def ManifestDecodeInvertsEncodeUptoSaid : Prop := manifestDecodeInvertsEncodeUptoRow.holds Try.pinned (OpenSpec.upto manifestDecodeInvertsEncodeSpec)

/-- 'logtidelaw30.ManifestSlots', WHERE WHAT IT READS IS OF BULK AT MOST 1048576: true; the input reads as it did. -/
def manifestSlotsUptoRow : OpenClaim := { program := "ytkjhnipjhefndaa", sum := "420c2a363cb24f93505dec3696f53068303ba8990c9e0a2b589de3c2f9110515", func := "logtide/logtidelaw30.ManifestSlots", spec := "manifestSlots", unfollowed := true, recurses := true, apart := false, narrowed := true }
def ManifestSlotsUptoSaid : Prop := manifestSlotsUptoRow.holds Try.pinned (OpenSpec.upto manifestSlotsSpec)

/-- 'logtidelaw30.ManifestSurvivesTornWrites', WHERE WHAT IT READS IS OF BULK AT MOST 1048576: true; the input reads as it did. -/
def manifestSurvivesTornWritesUptoRow : OpenClaim := { program := "ytkjhnipjhefndaa", sum := "420c2a363cb24f93505dec3696f53068303ba8990c9e0a2b589de3c2f9110515", func := "logtide/logtidelaw30.ManifestSurvivesTornWrites", spec := "manifestSurvivesTornWrites", unfollowed := true, recurses := true, apart := false, narrowed := true }
def ManifestSurvivesTornWritesUptoSaid : Prop := manifestSurvivesTornWritesUptoRow.holds Try.pinned (OpenSpec.upto manifestSurvivesTornWritesSpec)

end Rows
end Go.Proofs.Ytkjhnipjhefndaa
