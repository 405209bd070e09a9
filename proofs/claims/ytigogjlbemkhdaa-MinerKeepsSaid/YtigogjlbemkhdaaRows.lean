/-
  No cell of these rows narrows 'for every input' (looked for: loops, veiled, ifaces, maps, wideKeys, modest, calm, conditions, laid).
  DERIVED. THE GIVEN ROWS OF THIS SEAT. 3 by the template 'for every input the law returns true; each argument reads behind the call as it read before'; 0 by the template 'total and deterministic' (their statements: YtigogjlbemkhdaaTotals.lean).
  GIVEN WITH THE SEED: the statements are not yours to turn. If you find one false, say at which input.
  Laid BY PROGRAM, IN A SANDBOX (cutbox-rows.mjs): the forced cells as the released guide's own fill.sh prints them over the translation effc6f639b2223ba… (all of the seat's roots in one cut). By AI agents, Wed Nov 11 2026. No macro, syntax, notation, axiom, sorry.
-/
import Derived.Test.YtigogjlbemkhdaaChecked
import GoSem.Claim
import GoSem.ClaimJoined
import GoSem.ClaimMapViews
import Derived.JoinedTies
import Derived.KernelRfl
namespace Go.Proofs.Ytigogjlbemkhdaa
/- THE CELL 'sum', in the pinned program and in every row, IS THE sha256 OF THE DUMP (.gsa) THAT YtigogjlbemkhdaaProg.lean LOADS. Nothing in Lean hashes anything: it is a label: what it is worth is what the hold of that sum in a sandbox is worth. -/
noncomputable def Try.pinned : Pinned := { name := "ytigogjlbemkhdaa", sum := "effc6f639b2223ba3f8318c3cf034cae08d5e71f479559086f128de1e0611426", checked := Try.checked }
namespace Rows
def none {H : Type} : Left H := { results := [], args := [] }

/-- 'logtidelaw15.MinerUndoes': WHATEVER THE INPUT: true; the input reads as it did. -/
def minerUndoesSpec : ChangeSpec := { name := "minerUndoes", fn := fun _ => fun
  | [d1, d2] => { results := [.lit (.bool true)], args := [d1, d2] }
  | _ => none }
def minerUndoesRow : OpenClaim := { program := "ytigogjlbemkhdaa", sum := "effc6f639b2223ba3f8318c3cf034cae08d5e71f479559086f128de1e0611426", func := "logtide/logtidelaw15.MinerUndoes", spec := "minerUndoes", inPlace := ["slices.overlaps[logtide/api.Template]"], unfollowed := true, recurses := true, apart := false }
def MinerUndoesSaid : Prop := minerUndoesRow.holds Try.pinned (OpenSpec.ofChange minerUndoesSpec)

/-- ITS FALSE NEIGHBOUR: 'it returns false'. Refute it at one input. -/
def minerUndoesWrong : ChangeSpec := { name := "minerUndoes", fn := fun _ => fun
  | [d1, d2] => { results := [.lit (.bool false)], args := [d1, d2] }
  | _ => none }
def MinerUndoesWrongFalsely : Prop := minerUndoesRow.holds Try.pinned (OpenSpec.ofChange minerUndoesWrong)

/-- 'logtidelaw15.MinerMerges': WHATEVER THE INPUT: true; the input reads as it did. -/
def minerMergesSpec : ChangeSpec := { name := "minerMerges", fn := fun _ => fun
  | [d1, d2, d3] => { results := [.lit (.bool true)], args := [d1, d2, d3] }
  | _ => none }
def minerMergesRow : OpenClaim := { program := "ytigogjlbemkhdaa", sum := "effc6f639b2223ba3f8318c3cf034cae08d5e71f479559086f128de1e0611426", func := "logtide/logtidelaw15.MinerMerges", spec := "minerMerges", inPlace := ["slices.overlaps[logtide/api.Template]"], unfollowed := true, recurses := true, apart := false }
def MinerMergesSaid : Prop := minerMergesRow.holds Try.pinned (OpenSpec.ofChange minerMergesSpec)

/-- ITS FALSE NEIGHBOUR: 'it returns false'. Refute it at one input. -/
def minerMergesWrong : ChangeSpec := { name := "minerMerges", fn := fun _ => fun
  | [d1, d2, d3] => { results := [.lit (.bool false)], args := [d1, d2, d3] }
  | _ => none }
def MinerMergesWrongFalsely : Prop := minerMergesRow.holds Try.pinned (OpenSpec.ofChange minerMergesWrong)

/-- 'logtidelaw15.MinerKeeps': WHATEVER THE INPUT: true; the input reads as it did. -/
def minerKeepsSpec : ChangeSpec := { name := "minerKeeps", fn := fun _ => fun
  | [d1, d2] => { results := [.lit (.bool true)], args := [d1, d2] }
  | _ => none }
def minerKeepsRow : OpenClaim := { program := "ytigogjlbemkhdaa", sum := "effc6f639b2223ba3f8318c3cf034cae08d5e71f479559086f128de1e0611426", func := "logtide/logtidelaw15.MinerKeeps", spec := "minerKeeps", inPlace := ["slices.overlaps[logtide/api.Template]", "internal/bytealg.abigen_runtime_cmpstring"], unfollowed := true, recurses := true, apart := false }
def MinerKeepsSaid : Prop := minerKeepsRow.holds Try.pinned (OpenSpec.ofChange minerKeepsSpec)

/-- ITS FALSE NEIGHBOUR: 'it returns false'. Refute it at one input. -/
def minerKeepsWrong : ChangeSpec := { name := "minerKeeps", fn := fun _ => fun
  | [d1, d2] => { results := [.lit (.bool false)], args := [d1, d2] }
  | _ => none }
def MinerKeepsWrongFalsely : Prop := minerKeepsRow.holds Try.pinned (OpenSpec.ofChange minerKeepsWrong)

/- THE SECOND FORM. 'bulk': how many values and letters a reading holds, each counted each time it is reached (what is shared counts as often as it is met; a slice's spare places count too). A statement '..UptoSaid' is the law's where the arguments, and the package variables that the reading takes, are together of bulk at most 1048576: NARROWER than '..Said'. Prove '..Said' where nothing that the law and all that it calls make is longer than what came in: it says more and counts as full. Else prove '..UptoSaid'. A law counts once. -/
mutual
def uptoBulk {H : Type} : DataW H → Nat
  | .lit (.string bytes) => bytes.length + 1
  | .lit _ => 1
  | .nil => 1
  | .ptr d => uptoBulk d + 1
  | .slice elems spare => uptoBulkAll elems + uptoBulkAll spare + 1
  | .agg parts => uptoBulkAll parts + 1
  | .iface _ d => uptoBulk d + 1
  | .map entries => uptoBulkEntries entries + 1
  | .held _ => 1
def uptoBulkAll {H : Type} : List (DataW H) → Nat
  | [] => 0
  | d :: r => uptoBulk d + uptoBulkAll r
def uptoBulkEntries {H : Type} : List (Lit × DataW H) → Nat
  | [] => 0
  | x :: r => uptoBulkEntry x + uptoBulkEntries r
def uptoBulkEntry {H : Type} : Lit × DataW H → Nat
  | (.string bytes, d) => bytes.length + uptoBulk d + 1
  | (_, d) => uptoBulk d + 1
 end
def uptoSmall : (H : Type) → List (DataW H) → Bool := fun _ ds => decide (uptoBulkAll ds ≤ 1048576)
def OpenSpec.upto (s : _root_.Go.ChangeSpec) : _root_.Go.OpenSpec := { _root_.Go.OpenSpec.ofChange s with cond := some uptoSmall }

/-- 'logtidelaw15.MinerUndoes', WHERE WHAT IT READS IS OF BULK AT MOST 1048576: true; the input reads as it did. -/
def minerUndoesUptoRow : OpenClaim := { program := "ytigogjlbemkhdaa", sum := "effc6f639b2223ba3f8318c3cf034cae08d5e71f479559086f128de1e0611426", func := "logtide/logtidelaw15.MinerUndoes", spec := "minerUndoes", inPlace := ["slices.overlaps[logtide/api.Template]"], unfollowed := true, recurses := true, apart := false, narrowed := true }
def MinerUndoesUptoSaid : Prop := minerUndoesUptoRow.holds Try.pinned (OpenSpec.upto minerUndoesSpec)

/-- 'logtidelaw15.MinerMerges', WHERE WHAT IT READS IS OF BULK AT MOST 1048576: true; the input reads as it did. -/
def minerMergesUptoRow : OpenClaim := { program := "ytigogjlbemkhdaa", sum := "effc6f639b2223ba3f8318c3cf034cae08d5e71f479559086f128de1e0611426", func := "logtide/logtidelaw15.MinerMerges", spec := "minerMerges", inPlace := ["slices.overlaps[logtide/api.Template]"], unfollowed := true, recurses := true, apart := false, narrowed := true }
def MinerMergesUptoSaid : Prop := minerMergesUptoRow.holds Try.pinned (OpenSpec.upto minerMergesSpec)

/-- 'logtidelaw15.MinerKeeps', WHERE WHAT IT READS IS OF BULK AT MOST 1048576: true; the input reads as it did. -/
def minerKeepsUptoRow : OpenClaim := { program := "ytigogjlbemkhdaa", sum := "effc6f639b2223ba3f8318c3cf034cae08d5e71f479559086f128de1e0611426", func := "logtide/logtidelaw15.MinerKeeps", spec := "minerKeeps", inPlace := ["slices.overlaps[logtide/api.Template]", "internal/bytealg.abigen_runtime_cmpstring"], unfollowed := true, recurses := true, apart := false, narrowed := true }
def MinerKeepsUptoSaid : Prop := minerKeepsUptoRow.holds Try.pinned (OpenSpec.upto minerKeepsSpec)

end Rows
end Go.Proofs.Ytigogjlbemkhdaa
