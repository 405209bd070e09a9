/-
  No cell of these rows narrows 'for every input' (looked for: loops, veiled, ifaces, maps, wideKeys, modest, calm, conditions, laid).
  DERIVED. THE GIVEN ROWS OF THIS SEAT. 6 by the template 'for every input the law returns true; each argument reads behind the call as it read before'; 0 by the template 'total and deterministic' (their statements: YtfainbgbeojcpaaTotals.lean).
  GIVEN WITH THE SEED: the statements are not yours to turn. If you find one false, say at which input.
  Laid BY PROGRAM, IN A SANDBOX (cutbox-rows.mjs): the forced cells as the released guide's own fill.sh prints them over the translation 23967fa5939bfeb1… (all of the seat's roots in one cut). By AI agents, Wed Nov 11 2026. No macro, syntax, notation, axiom, sorry.
-/
import Derived.Test.YtfainbgbeojcpaaChecked
import GoSem.Claim
import GoSem.ClaimJoined
import GoSem.ClaimMapViews
import Derived.JoinedTies
import Derived.KernelRfl
namespace Go.Proofs.Ytfainbgbeojcpaa
/- THE CELL 'sum', in the pinned program and in every row, IS THE sha256 OF THE DUMP (.gsa) THAT YtfainbgbeojcpaaProg.lean LOADS. Nothing in Lean hashes anything: it is a label: what it is worth is what the hold of that sum in a sandbox is worth. -/
noncomputable def Try.pinned : Pinned := { name := "ytfainbgbeojcpaa", sum := "23967fa5939bfeb11020ce34c3a0a55a5490e348aef5b994690c069f90c7eb56", checked := Try.checked }
namespace Rows
def none {H : Type} : Left H := { results := [], args := [] }

/-- 'logtidelaw26.FilterHash': WHATEVER THE INPUT: true; the input reads as it did. -/
def filterHashSpec : ChangeSpec := { name := "filterHash", fn := fun _ => fun
  | [d1, d2, d3, d4] => { results := [.lit (.bool true)], args := [d1, d2, d3, d4] }
  | _ => none }
def filterHashRow : OpenClaim := { program := "ytfainbgbeojcpaa", sum := "23967fa5939bfeb11020ce34c3a0a55a5490e348aef5b994690c069f90c7eb56", func := "logtide/logtidelaw26.FilterHash", spec := "filterHash", apart := false }
def FilterHashSaid : Prop := filterHashRow.holds Try.pinned (OpenSpec.ofChange filterHashSpec)

/-- ITS FALSE NEIGHBOUR: 'it returns false'. Refute it at one input. -/
def filterHashWrong : ChangeSpec := { name := "filterHash", fn := fun _ => fun
  | [d1, d2, d3, d4] => { results := [.lit (.bool false)], args := [d1, d2, d3, d4] }
  | _ => none }
def FilterHashWrongFalsely : Prop := filterHashRow.holds Try.pinned (OpenSpec.ofChange filterHashWrong)

/-- 'logtidelaw26.FilterUnion': WHATEVER THE INPUT: true; the input reads as it did. -/
def filterUnionSpec : ChangeSpec := { name := "filterUnion", fn := fun _ => fun
  | [d1, d2, d3] => { results := [.lit (.bool true)], args := [d1, d2, d3] }
  | _ => none }
def filterUnionRow : OpenClaim := { program := "ytfainbgbeojcpaa", sum := "23967fa5939bfeb11020ce34c3a0a55a5490e348aef5b994690c069f90c7eb56", func := "logtide/logtidelaw26.FilterUnion", spec := "filterUnion", apart := false }
def FilterUnionSaid : Prop := filterUnionRow.holds Try.pinned (OpenSpec.ofChange filterUnionSpec)

/-- ITS FALSE NEIGHBOUR: 'it returns false'. Refute it at one input. -/
def filterUnionWrong : ChangeSpec := { name := "filterUnion", fn := fun _ => fun
  | [d1, d2, d3] => { results := [.lit (.bool false)], args := [d1, d2, d3] }
  | _ => none }
def FilterUnionWrongFalsely : Prop := filterUnionRow.holds Try.pinned (OpenSpec.ofChange filterUnionWrong)

/-- 'logtidelaw26.FilterBuild': WHATEVER THE INPUT: true; the input reads as it did. -/
def filterBuildSpec : ChangeSpec := { name := "filterBuild", fn := fun _ => fun
  | [d1, d2, d3] => { results := [.lit (.bool true)], args := [d1, d2, d3] }
  | _ => none }
def filterBuildRow : OpenClaim := { program := "ytfainbgbeojcpaa", sum := "23967fa5939bfeb11020ce34c3a0a55a5490e348aef5b994690c069f90c7eb56", func := "logtide/logtidelaw26.FilterBuild", spec := "filterBuild", apart := false }
def FilterBuildSaid : Prop := filterBuildRow.holds Try.pinned (OpenSpec.ofChange filterBuildSpec)

/-- ITS FALSE NEIGHBOUR: 'it returns false'. Refute it at one input. -/
def filterBuildWrong : ChangeSpec := { name := "filterBuild", fn := fun _ => fun
  | [d1, d2, d3] => { results := [.lit (.bool false)], args := [d1, d2, d3] }
  | _ => none }
def FilterBuildWrongFalsely : Prop := filterBuildRow.holds Try.pinned (OpenSpec.ofChange filterBuildWrong)

/-- 'logtidelaw26.FilterDecode': WHATEVER THE INPUT: true; the input reads as it did. -/
def filterDecodeSpec : ChangeSpec := { name := "filterDecode", fn := fun _ => fun
  | [d1, d2, d3, d4, d5] => { results := [.lit (.bool true)], args := [d1, d2, d3, d4, d5] }
  | _ => none }
def filterDecodeRow : OpenClaim := { program := "ytfainbgbeojcpaa", sum := "23967fa5939bfeb11020ce34c3a0a55a5490e348aef5b994690c069f90c7eb56", func := "logtide/logtidelaw26.FilterDecode", spec := "filterDecode", unfollowed := true, recurses := true, apart := false }
def FilterDecodeSaid : Prop := filterDecodeRow.holds Try.pinned (OpenSpec.ofChange filterDecodeSpec)

/-- ITS FALSE NEIGHBOUR: 'it returns false'. Refute it at one input. -/
def filterDecodeWrong : ChangeSpec := { name := "filterDecode", fn := fun _ => fun
  | [d1, d2, d3, d4, d5] => { results := [.lit (.bool false)], args := [d1, d2, d3, d4, d5] }
  | _ => none }
def FilterDecodeWrongFalsely : Prop := filterDecodeRow.holds Try.pinned (OpenSpec.ofChange filterDecodeWrong)

/-- 'logtidelaw26.FilterHas': WHATEVER THE INPUT: true; the input reads as it did. -/
def filterHasSpec : ChangeSpec := { name := "filterHas", fn := fun _ => fun
  | [d1, d2, d3] => { results := [.lit (.bool true)], args := [d1, d2, d3] }
  | _ => none }
def filterHasRow : OpenClaim := { program := "ytfainbgbeojcpaa", sum := "23967fa5939bfeb11020ce34c3a0a55a5490e348aef5b994690c069f90c7eb56", func := "logtide/logtidelaw26.FilterHas", spec := "filterHas", unfollowed := true, recurses := true, apart := false }
def FilterHasSaid : Prop := filterHasRow.holds Try.pinned (OpenSpec.ofChange filterHasSpec)

/-- ITS FALSE NEIGHBOUR: 'it returns false'. Refute it at one input. -/
def filterHasWrong : ChangeSpec := { name := "filterHas", fn := fun _ => fun
  | [d1, d2, d3] => { results := [.lit (.bool false)], args := [d1, d2, d3] }
  | _ => none }
def FilterHasWrongFalsely : Prop := filterHasRow.holds Try.pinned (OpenSpec.ofChange filterHasWrong)

/-- 'logtidelaw26.FilterHasNoFalseNegatives': WHATEVER THE INPUT: true; the input reads as it did. -/
def filterHasNoFalseNegativesSpec : ChangeSpec := { name := "filterHasNoFalseNegatives", fn := fun _ => fun
  | [d1, d2, d3, d4] => { results := [.lit (.bool true)], args := [d1, d2, d3, d4] }
  | _ => none }
def filterHasNoFalseNegativesRow : OpenClaim := { program := "ytfainbgbeojcpaa", sum := "23967fa5939bfeb11020ce34c3a0a55a5490e348aef5b994690c069f90c7eb56", func := "logtide/logtidelaw26.FilterHasNoFalseNegatives", spec := "filterHasNoFalseNegatives", unfollowed := true, recurses := true, apart := false }
def FilterHasNoFalseNegativesSaid : Prop := filterHasNoFalseNegativesRow.holds Try.pinned (OpenSpec.ofChange filterHasNoFalseNegativesSpec)

/-- ITS FALSE NEIGHBOUR: 'it returns false'. Refute it at one input. -/
def filterHasNoFalseNegativesWrong : ChangeSpec := { name := "filterHasNoFalseNegatives", fn := fun _ => fun
  | [d1, d2, d3, d4] => { results := [.lit (.bool false)], args := [d1, d2, d3, d4] }
  | _ => none }
def FilterHasNoFalseNegativesWrongFalsely : Prop := filterHasNoFalseNegativesRow.holds Try.pinned (OpenSpec.ofChange filterHasNoFalseNegativesWrong)

/- THE SECOND FORM. 'bulk': how many values and letters a reading holds, each counted each time it is reached (what is shared counts as often as it is met; a slice's spare places count too). A statement '..UptoSaid' is the law's where the arguments, and the package variables that the reading takes, are together of bulk at most 1048576: NARROWER than '..Said'. Prove '..Said' where nothing that the law and all that it calls make is longer than what came in: it says more and counts as full. Else prove '..UptoSaid'. A law counts once. -/
mutual
def uptoBulk {H : Type} : DataW H → Nat
  | .lit (.string bytes) => bytes.length + 1
  | .lit _ => 1
  | .nil => 1
  | .ptr d => uptoBulk d + 1
  | .slice elems spare => uptoBulkAll elems + uptoBulkAll spare + 1
  | .agg parts => uptoBulkAll parts + 1
  | .iface _ d => uptoBulk d + 1
  | .map entries => uptoBulkEntries entries + 1
  | .held _ => 1
def uptoBulkAll {H : Type} : List (DataW H) → Nat
  | [] => 0
  | d :: r => uptoBulk d + uptoBulkAll r
def uptoBulkEntries {H : Type} : List (Lit × DataW H) → Nat
  | [] => 0
  | x :: r => uptoBulkEntry x + uptoBulkEntries r
def uptoBulkEntry {H : Type} : Lit × DataW H → Nat
  | (.string bytes, d) => bytes.length + uptoBulk d + 1
  | (_, d) => uptoBulk d + 1
 end
def uptoSmall : (H : Type) → List (DataW H) → Bool := fun _ ds => decide (uptoBulkAll ds ≤ 1048576)
def OpenSpec.upto (s : _root_.Go.ChangeSpec) : _root_.Go.OpenSpec := { _root_.Go.OpenSpec.ofChange s with cond := some uptoSmall }

/-- 'logtidelaw26.FilterHash', WHERE WHAT IT READS IS OF BULK AT MOST 1048576: true; the input reads as it did. -/
def filterHashUptoRow : OpenClaim := { program := "ytfainbgbeojcpaa", sum := "23967fa5939bfeb11020ce34c3a0a55a5490e348aef5b994690c069f90c7eb56", func := "logtide/logtidelaw26.FilterHash", spec := "filterHash", apart := false, narrowed := true }
def FilterHashUptoSaid : Prop := filterHashUptoRow.holds Try.pinned (OpenSpec.upto filterHashSpec)

/-- 'logtidelaw26.FilterUnion', WHERE WHAT IT READS IS OF BULK AT MOST 1048576: true; the input reads as it did. -/
def filterUnionUptoRow : OpenClaim := { program := "ytfainbgbeojcpaa", sum := "23967fa5939bfeb11020ce34c3a0a55a5490e348aef5b994690c069f90c7eb56", func := "logtide/logtidelaw26.FilterUnion", spec := "filterUnion", apart := false, narrowed := true }
def FilterUnionUptoSaid : Prop := filterUnionUptoRow.holds Try.pinned (OpenSpec.upto filterUnionSpec)

/-- 'logtidelaw26.FilterBuild', WHERE WHAT IT READS IS OF BULK AT MOST 1048576: true; the input reads as it did. -/
def filterBuildUptoRow : OpenClaim := { program := "ytfainbgbeojcpaa", sum := "23967fa5939bfeb11020ce34c3a0a55a5490e348aef5b994690c069f90c7eb56", func := "logtide/logtidelaw26.FilterBuild", spec := "filterBuild", apart := false, narrowed := true }
def FilterBuildUptoSaid : Prop := filterBuildUptoRow.holds Try.pinned (OpenSpec.upto filterBuildSpec)

/-- 'logtidelaw26.FilterDecode', WHERE WHAT IT READS IS OF BULK AT MOST 1048576: true; the input reads as it did. -/
def filterDecodeUptoRow : OpenClaim := { program := "ytfainbgbeojcpaa", sum := "23967fa5939bfeb11020ce34c3a0a55a5490e348aef5b994690c069f90c7eb56", func := "logtide/logtidelaw26.FilterDecode", spec := "filterDecode", unfollowed := true, recurses := true, apart := false, narrowed := true }
def FilterDecodeUptoSaid : Prop := filterDecodeUptoRow.holds Try.pinned (OpenSpec.upto filterDecodeSpec)

/-- 'logtidelaw26.FilterHas', WHERE WHAT IT READS IS OF BULK AT MOST 1048576: true; the input reads as it did. -/
def filterHasUptoRow : OpenClaim := { program := "ytfainbgbeojcpaa", sum := "23967fa5939bfeb11020ce34c3a0a55a5490e348aef5b994690c069f90c7eb56", func := "logtide/logtidelaw26.FilterHas", spec := "filterHas", unfollowed := true, recurses := true, apart := false, narrowed := true }
def FilterHasUptoSaid : Prop := filterHasUptoRow.holds Try.pinned (OpenSpec.upto filterHasSpec)

/-- 'logtidelaw26.FilterHasNoFalseNegatives', WHERE WHAT IT READS IS OF BULK AT MOST 1048576: true; the input reads as it did. -/
def filterHasNoFalseNegativesUptoRow : OpenClaim := { program := "ytfainbgbeojcpaa", sum := "23967fa5939bfeb11020ce34c3a0a55a5490e348aef5b994690c069f90c7eb56", func := "logtide/logtidelaw26.FilterHasNoFalseNegatives", spec := "filterHasNoFalseNegatives", unfollowed := true, recurses := true, apart := false, narrowed := true }
def FilterHasNoFalseNegativesUptoSaid : Prop := filterHasNoFalseNegativesUptoRow.holds Try.pinned (OpenSpec.upto filterHasNoFalseNegativesSpec)

end Rows
end Go.Proofs.Ytfainbgbeojcpaa
