/-
  No cell of these rows narrows 'for every input' (looked for: loops, veiled, ifaces, maps, wideKeys, modest, calm, conditions, laid).
  DERIVED. THE GIVEN ROWS OF THIS SEAT. 5 by the template 'for every input the law returns true; each argument reads behind the call as it read before'; 0 by the template 'total and deterministic' (their statements: YtibljgnajbblaaaTotals.lean).
  GIVEN WITH THE SEED: the statements are not yours to turn. If you find one false, say at which input.
  Laid BY PROGRAM, IN A SANDBOX (cutbox-rows.mjs): the forced cells as the released guide's own fill.sh prints them over the translation 75b0b5a163586f0e… (all of the seat's roots in one cut). By AI agents, Wed Nov 11 2026. No macro, syntax, notation, axiom, sorry.
-/
import Derived.Test.YtibljgnajbblaaaChecked
import GoSem.Claim
import GoSem.ClaimJoined
import GoSem.ClaimMapViews
import Derived.JoinedTies
import Derived.KernelRfl
namespace Go.Proofs.Ytibljgnajbblaaa
/- THE CELL 'sum', in the pinned program and in every row, IS THE sha256 OF THE DUMP (.gsa) THAT YtibljgnajbblaaaProg.lean LOADS. Nothing in Lean hashes anything: it is a label: what it is worth is what the hold of that sum in a sandbox is worth. -/
noncomputable def Try.pinned : Pinned := { name := "ytibljgnajbblaaa", sum := "75b0b5a163586f0eea70ff258e48b1eccd8a551985253b4a0a36ed54cda9be48", checked := Try.checked }
namespace Rows
def none {H : Type} : Left H := { results := [], args := [] }

/-- 'logtidelaw14.TemplateMines': WHATEVER THE INPUT: true; the input reads as it did. -/
def templateMinesSpec : ChangeSpec := { name := "templateMines", fn := fun _ => fun
  | [d1, d2] => { results := [.lit (.bool true)], args := [d1, d2] }
  | _ => none }
def templateMinesRow : OpenClaim := { program := "ytibljgnajbblaaa", sum := "75b0b5a163586f0eea70ff258e48b1eccd8a551985253b4a0a36ed54cda9be48", func := "logtide/logtidelaw14.TemplateMines", spec := "templateMines", inPlace := ["internal/bytealg.abigen_runtime_cmpstring", "slices.overlaps[logtide/api.Template]", "internal/abi.NoEscape", "internal/bytealg.MakeNoZero"], unfollowed := true, recurses := true, apart := false }
def TemplateMinesSaid : Prop := templateMinesRow.holds Try.pinned (OpenSpec.ofChange templateMinesSpec)

/-- ITS FALSE NEIGHBOUR: 'it returns false'. Refute it at one input. -/
def templateMinesWrong : ChangeSpec := { name := "templateMines", fn := fun _ => fun
  | [d1, d2] => { results := [.lit (.bool false)], args := [d1, d2] }
  | _ => none }
def TemplateMinesWrongFalsely : Prop := templateMinesRow.holds Try.pinned (OpenSpec.ofChange templateMinesWrong)

/-- 'logtidelaw14.TemplateOrder': WHATEVER THE INPUT: true; the input reads as it did. -/
def templateOrderSpec : ChangeSpec := { name := "templateOrder", fn := fun _ => fun
  | [d1, d2] => { results := [.lit (.bool true)], args := [d1, d2] }
  | _ => none }
def templateOrderRow : OpenClaim := { program := "ytibljgnajbblaaa", sum := "75b0b5a163586f0eea70ff258e48b1eccd8a551985253b4a0a36ed54cda9be48", func := "logtide/logtidelaw14.TemplateOrder", spec := "templateOrder", inPlace := ["internal/bytealg.abigen_runtime_cmpstring", "slices.overlaps[logtide/api.Template]", "internal/abi.NoEscape", "internal/bytealg.MakeNoZero"], unfollowed := true, recurses := true, apart := false }
def TemplateOrderSaid : Prop := templateOrderRow.holds Try.pinned (OpenSpec.ofChange templateOrderSpec)

/-- ITS FALSE NEIGHBOUR: 'it returns false'. Refute it at one input. -/
def templateOrderWrong : ChangeSpec := { name := "templateOrder", fn := fun _ => fun
  | [d1, d2] => { results := [.lit (.bool false)], args := [d1, d2] }
  | _ => none }
def TemplateOrderWrongFalsely : Prop := templateOrderRow.holds Try.pinned (OpenSpec.ofChange templateOrderWrong)

/-- 'logtidelaw14.TemplateCounted': WHATEVER THE INPUT: true; the input reads as it did. -/
def templateCountedSpec : ChangeSpec := { name := "templateCounted", fn := fun _ => fun
  | [d1, d2] => { results := [.lit (.bool true)], args := [d1, d2] }
  | _ => none }
def templateCountedRow : OpenClaim := { program := "ytibljgnajbblaaa", sum := "75b0b5a163586f0eea70ff258e48b1eccd8a551985253b4a0a36ed54cda9be48", func := "logtide/logtidelaw14.TemplateCounted", spec := "templateCounted", inPlace := ["internal/bytealg.abigen_runtime_cmpstring", "slices.overlaps[logtide/api.Template]", "internal/abi.NoEscape", "internal/bytealg.MakeNoZero"], unfollowed := true, recurses := true, apart := false }
def TemplateCountedSaid : Prop := templateCountedRow.holds Try.pinned (OpenSpec.ofChange templateCountedSpec)

/-- ITS FALSE NEIGHBOUR: 'it returns false'. Refute it at one input. -/
def templateCountedWrong : ChangeSpec := { name := "templateCounted", fn := fun _ => fun
  | [d1, d2] => { results := [.lit (.bool false)], args := [d1, d2] }
  | _ => none }
def TemplateCountedWrongFalsely : Prop := templateCountedRow.holds Try.pinned (OpenSpec.ofChange templateCountedWrong)

/-- 'logtidelaw14.TemplateCounts': WHATEVER THE INPUT: true; the input reads as it did. -/
def templateCountsSpec : ChangeSpec := { name := "templateCounts", fn := fun _ => fun
  | [d1, d2, d3] => { results := [.lit (.bool true)], args := [d1, d2, d3] }
  | _ => none }
def templateCountsRow : OpenClaim := { program := "ytibljgnajbblaaa", sum := "75b0b5a163586f0eea70ff258e48b1eccd8a551985253b4a0a36ed54cda9be48", func := "logtide/logtidelaw14.TemplateCounts", spec := "templateCounts", inPlace := ["internal/bytealg.abigen_runtime_cmpstring", "slices.overlaps[logtide/api.Template]", "internal/abi.NoEscape", "internal/bytealg.MakeNoZero"], unfollowed := true, recurses := true, apart := false }
def TemplateCountsSaid : Prop := templateCountsRow.holds Try.pinned (OpenSpec.ofChange templateCountsSpec)

/-- ITS FALSE NEIGHBOUR: 'it returns false'. Refute it at one input. -/
def templateCountsWrong : ChangeSpec := { name := "templateCounts", fn := fun _ => fun
  | [d1, d2, d3] => { results := [.lit (.bool false)], args := [d1, d2, d3] }
  | _ => none }
def TemplateCountsWrongFalsely : Prop := templateCountsRow.holds Try.pinned (OpenSpec.ofChange templateCountsWrong)

/-- 'logtidelaw14.TemplatePartition': WHATEVER THE INPUT: true; the input reads as it did. -/
def templatePartitionSpec : ChangeSpec := { name := "templatePartition", fn := fun _ => fun
  | [d] => { results := [.lit (.bool true)], args := [d] }
  | _ => none }
def templatePartitionRow : OpenClaim := { program := "ytibljgnajbblaaa", sum := "75b0b5a163586f0eea70ff258e48b1eccd8a551985253b4a0a36ed54cda9be48", func := "logtide/logtidelaw14.TemplatePartition", spec := "templatePartition", inPlace := ["internal/bytealg.abigen_runtime_cmpstring", "slices.overlaps[logtide/api.Template]", "internal/abi.NoEscape", "internal/bytealg.MakeNoZero"], unfollowed := true, recurses := true, apart := false }
def TemplatePartitionSaid : Prop := templatePartitionRow.holds Try.pinned (OpenSpec.ofChange templatePartitionSpec)

/-- ITS FALSE NEIGHBOUR: 'it returns false'. Refute it at one input. -/
def templatePartitionWrong : ChangeSpec := { name := "templatePartition", fn := fun _ => fun
  | [d] => { results := [.lit (.bool false)], args := [d] }
  | _ => none }
def TemplatePartitionWrongFalsely : Prop := templatePartitionRow.holds Try.pinned (OpenSpec.ofChange templatePartitionWrong)

/- THE SECOND FORM. 'bulk': how many values and letters a reading holds, each counted each time it is reached (what is shared counts as often as it is met; a slice's spare places count too). A statement '..UptoSaid' is the law's where the arguments, and the package variables that the reading takes, are together of bulk at most 1048576: NARROWER than '..Said'. Prove '..Said' where nothing that the law and all that it calls make is longer than what came in: it says more and counts as full. Else prove '..UptoSaid'. A law counts once. -/
mutual
def uptoBulk {H : Type} : DataW H → Nat
  | .lit (.string bytes) => bytes.length + 1
  | .lit _ => 1
  | .nil => 1
  | .ptr d => uptoBulk d + 1
  | .slice elems spare => uptoBulkAll elems + uptoBulkAll spare + 1
  | .agg parts => uptoBulkAll parts + 1
  | .iface _ d => uptoBulk d + 1
  | .map entries => uptoBulkEntries entries + 1
  | .held _ => 1
def uptoBulkAll {H : Type} : List (DataW H) → Nat
  | [] => 0
  | d :: r => uptoBulk d + uptoBulkAll r
def uptoBulkEntries {H : Type} : List (Lit × DataW H) → Nat
  | [] => 0
  | x :: r => uptoBulkEntry x + uptoBulkEntries r
def uptoBulkEntry {H : Type} : Lit × DataW H → Nat
  | (.string bytes, d) => bytes.length + uptoBulk d + 1
  | (_, d) => uptoBulk d + 1
 end
def uptoSmall : (H : Type) → List (DataW H) → Bool := fun _ ds => decide (uptoBulkAll ds ≤ 1048576)
def OpenSpec.upto (s : _root_.Go.ChangeSpec) : _root_.Go.OpenSpec := { _root_.Go.OpenSpec.ofChange s with cond := some uptoSmall }

/-- 'logtidelaw14.TemplateMines', WHERE WHAT IT READS IS OF BULK AT MOST 1048576: true; the input reads as it did. -/
def templateMinesUptoRow : OpenClaim := { program := "ytibljgnajbblaaa", sum := "75b0b5a163586f0eea70ff258e48b1eccd8a551985253b4a0a36ed54cda9be48", func := "logtide/logtidelaw14.TemplateMines", spec := "templateMines", inPlace := ["internal/bytealg.abigen_runtime_cmpstring", "slices.overlaps[logtide/api.Template]", "internal/abi.NoEscape", "internal/bytealg.MakeNoZero"], unfollowed := true, recurses := true, apart := false, narrowed := true }
def TemplateMinesUptoSaid : Prop := templateMinesUptoRow.holds Try.pinned (OpenSpec.upto templateMinesSpec)

/-- 'logtidelaw14.TemplateOrder', WHERE WHAT IT READS IS OF BULK AT MOST 1048576: true; the input reads as it did. -/
def templateOrderUptoRow : OpenClaim := { program := "ytibljgnajbblaaa", sum := "75b0b5a163586f0eea70ff258e48b1eccd8a551985253b4a0a36ed54cda9be48", func := "logtide/logtidelaw14.TemplateOrder", spec := "templateOrder", inPlace := ["internal/bytealg.abigen_runtime_cmpstring", "slices.overlaps[logtide/api.Template]", "internal/abi.NoEscape", "internal/bytealg.MakeNoZero"], unfollowed := true, recurses := true, apart := false, narrowed := true }
def TemplateOrderUptoSaid : Prop := templateOrderUptoRow.holds Try.pinned (OpenSpec.upto templateOrderSpec)

/-- 'logtidelaw14.TemplateCounted', WHERE WHAT IT READS IS OF BULK AT MOST 1048576: true; the input reads as it did. -/
def templateCountedUptoRow : OpenClaim := { program := "ytibljgnajbblaaa", sum := "75b0b5a163586f0eea70ff258e48b1eccd8a551985253b4a0a36ed54cda9be48", func := "logtide/logtidelaw14.TemplateCounted", spec := "templateCounted", inPlace := ["internal/bytealg.abigen_runtime_cmpstring", "slices.overlaps[logtide/api.Template]", "internal/abi.NoEscape", "internal/bytealg.MakeNoZero"], unfollowed := true, recurses := true, apart := false, narrowed := true }
def TemplateCountedUptoSaid : Prop := templateCountedUptoRow.holds Try.pinned (OpenSpec.upto templateCountedSpec)

/-- 'logtidelaw14.TemplateCounts', WHERE WHAT IT READS IS OF BULK AT MOST 1048576: true; the input reads as it did. -/
def templateCountsUptoRow : OpenClaim := { program := "ytibljgnajbblaaa", sum := "75b0b5a163586f0eea70ff258e48b1eccd8a551985253b4a0a36ed54cda9be48", func := "logtide/logtidelaw14.TemplateCounts", spec := "templateCounts", inPlace := ["internal/bytealg.abigen_runtime_cmpstring", "slices.overlaps[logtide/api.Template]", "internal/abi.NoEscape", "internal/bytealg.MakeNoZero"], unfollowed := true, recurses := true, apart := false, narrowed := true }
def TemplateCountsUptoSaid : Prop := templateCountsUptoRow.holds Try.pinned (OpenSpec.upto templateCountsSpec)

/-- 'logtidelaw14.TemplatePartition', WHERE WHAT IT READS IS OF BULK AT MOST 1048576: true; the input reads as it did. -/
def templatePartitionUptoRow : OpenClaim := { program := "ytibljgnajbblaaa", sum := "75b0b5a163586f0eea70ff258e48b1eccd8a551985253b4a0a36ed54cda9be48", func := "logtide/logtidelaw14.TemplatePartition", spec := "templatePartition", inPlace := ["internal/bytealg.abigen_runtime_cmpstring", "slices.overlaps[logtide/api.Template]", "internal/abi.NoEscape", "internal/bytealg.MakeNoZero"], unfollowed := true, recurses := true, apart := false, narrowed := true }
def TemplatePartitionUptoSaid : Prop := templatePartitionUptoRow.holds Try.pinned (OpenSpec.upto templatePartitionSpec)

end Rows
end Go.Proofs.Ytibljgnajbblaaa
