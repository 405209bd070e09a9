/-
  NARROWER THAN 'FOR EVERY INPUT', by the rows' own cells (each row's printed sentence says how): SampleCounts: laid · SampleDecides: laid · SampleWhole: laid · SampleApplies: laid · SampleExpects: laid.
  DERIVED. THE GIVEN ROWS OF THIS SEAT. 5 by the template 'for every input the law returns true; each argument reads behind the call as it read before'; 0 by the template 'total and deterministic' (their statements: YtncmbdcicjolcaaDoorTotals.lean).
  GIVEN WITH THE SEED: the statements are not yours to turn. If you find one false, say at which input.
  Laid BY PROGRAM, IN A SANDBOX (cutbox-rows.mjs): the forced cells as the released guide's own fill.sh prints them over the translation 3a97e3bad9877ab6… (all of the seat's roots in one cut). By AI agents, Wed Nov 11 2026. No macro, syntax, notation, axiom, sorry.
-/
import Derived.Test.YtncmbdcicjolcaaDoorChecked
import GoSem.Claim
import GoSem.ClaimJoined
import GoSem.ClaimMapViews
import Derived.JoinedTies
import Derived.KernelRfl
namespace Go.Proofs.YtncmbdcicjolcaaDoor
/- THE CELL 'sum', in the pinned program and in every row, IS THE sha256 OF THE DUMP (.gsa) THAT YtncmbdcicjolcaaDoorProg.lean LOADS. Nothing in Lean hashes anything: it is a label: what it is worth is what the hold of that sum in a sandbox is worth. -/
noncomputable def Tryd.pinned : Pinned := { name := "ytncmbdcicjolcaadoor", sum := "3a97e3bad9877ab6ad9a17a6d02e41434f6619de09c40476bf2cd11739d9e4d2", checked := Tryd.checked }
namespace Rows
def none {H : Type} : Left H := { results := [], args := [] }

/- WHAT THE LISTED PACKAGE-LEVEL VARIABLES READ AS WHEN THE CALL BEGINS. Each datum BY PROGRAM (the guide's laid-datum.mjs) off the statement by which the dump's own 'gosem.cut.vars' lays the variable. In a bare row this is a premise. The card (YtncmbdcicjolcaaDoorCards.lean) ties it to the program's text. -/
def laid_logtide_sample_divisors {H : Type} : DataW H := .slice [.lit (.int .i64 1), .lit (.int .i64 2), .lit (.int .i64 3), .lit (.int .i64 4), .lit (.int .i64 5), .lit (.int .i64 6), .lit (.int .i64 7), .lit (.int .i64 8), .lit (.int .i64 9), .lit (.int .i64 10), .lit (.int .i64 12), .lit (.int .i64 14), .lit (.int .i64 15), .lit (.int .i64 16), .lit (.int .i64 18), .lit (.int .i64 20), .lit (.int .i64 21), .lit (.int .i64 24), .lit (.int .i64 28), .lit (.int .i64 30), .lit (.int .i64 35), .lit (.int .i64 36), .lit (.int .i64 40), .lit (.int .i64 42), .lit (.int .i64 45), .lit (.int .i64 48), .lit (.int .i64 56), .lit (.int .i64 60), .lit (.int .i64 63), .lit (.int .i64 70), .lit (.int .i64 72), .lit (.int .i64 80), .lit (.int .i64 84), .lit (.int .i64 90), .lit (.int .i64 105), .lit (.int .i64 112), .lit (.int .i64 120), .lit (.int .i64 126), .lit (.int .i64 140), .lit (.int .i64 144), .lit (.int .i64 168), .lit (.int .i64 180), .lit (.int .i64 210), .lit (.int .i64 240), .lit (.int .i64 252), .lit (.int .i64 280), .lit (.int .i64 315), .lit (.int .i64 336), .lit (.int .i64 360), .lit (.int .i64 420), .lit (.int .i64 504), .lit (.int .i64 560), .lit (.int .i64 630), .lit (.int .i64 720), .lit (.int .i64 840), .lit (.int .i64 1008), .lit (.int .i64 1260), .lit (.int .i64 1680), .lit (.int .i64 2520), .lit (.int .i64 5040)] []

/-- 'logtidelaw17.SampleCounts': WHATEVER THE INPUT: true; the input reads as it did. -/
def sampleCountsSpec : ChangeSpec := { name := "sampleCounts", fn := fun _ => fun
  | [d1, d2] => { results := [.lit (.bool true)], args := [d1, d2] }
  | _ => none }
def sampleCountsRow : OpenClaim := { program := "ytncmbdcicjolcaadoor", sum := "3a97e3bad9877ab6ad9a17a6d02e41434f6619de09c40476bf2cd11739d9e4d2", func := "logtide/logtidelaw17.SampleCounts", spec := "sampleCounts", named := ["logtide/sample.divisors"], apart := false, laid := [("logtide/sample.divisors", laid_logtide_sample_divisors)] }
def SampleCountsSaid : Prop := sampleCountsRow.holds Tryd.pinned (OpenSpec.ofChange sampleCountsSpec)

/-- ITS FALSE NEIGHBOUR: 'it returns false'. Refute it at one input. -/
def sampleCountsWrong : ChangeSpec := { name := "sampleCounts", fn := fun _ => fun
  | [d1, d2] => { results := [.lit (.bool false)], args := [d1, d2] }
  | _ => none }
def SampleCountsWrongFalsely : Prop := sampleCountsRow.holds Tryd.pinned (OpenSpec.ofChange sampleCountsWrong)

/-- 'logtidelaw17.SampleDecides': WHATEVER THE INPUT: true; the input reads as it did. -/
def sampleDecidesSpec : ChangeSpec := { name := "sampleDecides", fn := fun _ => fun
  | [d1, d2, d3, d4] => { results := [.lit (.bool true)], args := [d1, d2, d3, d4] }
  | _ => none }
def sampleDecidesRow : OpenClaim := { program := "ytncmbdcicjolcaadoor", sum := "3a97e3bad9877ab6ad9a17a6d02e41434f6619de09c40476bf2cd11739d9e4d2", func := "logtide/logtidelaw17.SampleDecides", spec := "sampleDecides", named := ["logtide/sample.divisors"], apart := false, laid := [("logtide/sample.divisors", laid_logtide_sample_divisors)] }
def SampleDecidesSaid : Prop := sampleDecidesRow.holds Tryd.pinned (OpenSpec.ofChange sampleDecidesSpec)

/-- ITS FALSE NEIGHBOUR: 'it returns false'. Refute it at one input. -/
def sampleDecidesWrong : ChangeSpec := { name := "sampleDecides", fn := fun _ => fun
  | [d1, d2, d3, d4] => { results := [.lit (.bool false)], args := [d1, d2, d3, d4] }
  | _ => none }
def SampleDecidesWrongFalsely : Prop := sampleDecidesRow.holds Tryd.pinned (OpenSpec.ofChange sampleDecidesWrong)

/-- 'logtidelaw17.SampleWhole': WHATEVER THE INPUT: true; the input reads as it did. -/
def sampleWholeSpec : ChangeSpec := { name := "sampleWhole", fn := fun _ => fun
  | [d1, d2, d3] => { results := [.lit (.bool true)], args := [d1, d2, d3] }
  | _ => none }
def sampleWholeRow : OpenClaim := { program := "ytncmbdcicjolcaadoor", sum := "3a97e3bad9877ab6ad9a17a6d02e41434f6619de09c40476bf2cd11739d9e4d2", func := "logtide/logtidelaw17.SampleWhole", spec := "sampleWhole", unfollowed := true, recurses := true, named := ["logtide/sample.divisors"], apart := false, laid := [("logtide/sample.divisors", laid_logtide_sample_divisors)] }
def SampleWholeSaid : Prop := sampleWholeRow.holds Tryd.pinned (OpenSpec.ofChange sampleWholeSpec)

/-- ITS FALSE NEIGHBOUR: 'it returns false'. Refute it at one input. -/
def sampleWholeWrong : ChangeSpec := { name := "sampleWhole", fn := fun _ => fun
  | [d1, d2, d3] => { results := [.lit (.bool false)], args := [d1, d2, d3] }
  | _ => none }
def SampleWholeWrongFalsely : Prop := sampleWholeRow.holds Tryd.pinned (OpenSpec.ofChange sampleWholeWrong)

/-- 'logtidelaw17.SampleApplies': WHATEVER THE INPUT: true; the input reads as it did. -/
def sampleAppliesSpec : ChangeSpec := { name := "sampleApplies", fn := fun _ => fun
  | [d1, d2, d3] => { results := [.lit (.bool true)], args := [d1, d2, d3] }
  | _ => none }
def sampleAppliesRow : OpenClaim := { program := "ytncmbdcicjolcaadoor", sum := "3a97e3bad9877ab6ad9a17a6d02e41434f6619de09c40476bf2cd11739d9e4d2", func := "logtide/logtidelaw17.SampleApplies", spec := "sampleApplies", unfollowed := true, recurses := true, named := ["logtide/sample.divisors"], apart := false, laid := [("logtide/sample.divisors", laid_logtide_sample_divisors)] }
def SampleAppliesSaid : Prop := sampleAppliesRow.holds Tryd.pinned (OpenSpec.ofChange sampleAppliesSpec)

/-- ITS FALSE NEIGHBOUR: 'it returns false'. Refute it at one input. -/
def sampleAppliesWrong : ChangeSpec := { name := "sampleApplies", fn := fun _ => fun
  | [d1, d2, d3] => { results := [.lit (.bool false)], args := [d1, d2, d3] }
  | _ => none }
def SampleAppliesWrongFalsely : Prop := sampleAppliesRow.holds Tryd.pinned (OpenSpec.ofChange sampleAppliesWrong)

/-- 'logtidelaw17.SampleExpects': WHATEVER THE INPUT: true; the input reads as it did. -/
def sampleExpectsSpec : ChangeSpec := { name := "sampleExpects", fn := fun _ => fun
  | [d] => { results := [.lit (.bool true)], args := [d] }
  | _ => none }
def sampleExpectsRow : OpenClaim := { program := "ytncmbdcicjolcaadoor", sum := "3a97e3bad9877ab6ad9a17a6d02e41434f6619de09c40476bf2cd11739d9e4d2", func := "logtide/logtidelaw17.SampleExpects", spec := "sampleExpects", unfollowed := true, recurses := true, named := ["logtide/sample.divisors"], apart := false, laid := [("logtide/sample.divisors", laid_logtide_sample_divisors)] }
def SampleExpectsSaid : Prop := sampleExpectsRow.holds Tryd.pinned (OpenSpec.ofChange sampleExpectsSpec)

/-- ITS FALSE NEIGHBOUR: 'it returns false'. Refute it at one input. -/
def sampleExpectsWrong : ChangeSpec := { name := "sampleExpects", fn := fun _ => fun
  | [d] => { results := [.lit (.bool false)], args := [d] }
  | _ => none }
def SampleExpectsWrongFalsely : Prop := sampleExpectsRow.holds Tryd.pinned (OpenSpec.ofChange sampleExpectsWrong)

/- THE SECOND FORM. 'bulk': how many values and letters a reading holds, each counted each time it is reached (what is shared counts as often as it is met; a slice's spare places count too). A statement '..UptoSaid' is the law's where the arguments, and the package variables that the reading takes, are together of bulk at most 1048576: NARROWER than '..Said'. Prove '..Said' where nothing that the law and all that it calls make is longer than what came in: it says more and counts as full. Else prove '..UptoSaid'. A law counts once. -/
mutual
def uptoBulk {H : Type} : DataW H → Nat
  | .lit (.string bytes) => bytes.length + 1
  | .lit _ => 1
  | .nil => 1
  | .ptr d => uptoBulk d + 1
  | .slice elems spare => uptoBulkAll elems + uptoBulkAll spare + 1
  | .agg parts => uptoBulkAll parts + 1
  | .iface _ d => uptoBulk d + 1
  | .map entries => uptoBulkEntries entries + 1
  | .held _ => 1
def uptoBulkAll {H : Type} : List (DataW H) → Nat
  | [] => 0
  | d :: r => uptoBulk d + uptoBulkAll r
def uptoBulkEntries {H : Type} : List (Lit × DataW H) → Nat
  | [] => 0
  | x :: r => uptoBulkEntry x + uptoBulkEntries r
def uptoBulkEntry {H : Type} : Lit × DataW H → Nat
  | (.string bytes, d) => bytes.length + uptoBulk d + 1
  | (_, d) => uptoBulk d + 1
 end
def uptoSmall : (H : Type) → List (DataW H) → Bool := fun _ ds => decide (uptoBulkAll ds ≤ 1048576)
def OpenSpec.upto (s : _root_.Go.ChangeSpec) : _root_.Go.OpenSpec := { _root_.Go.OpenSpec.ofChange s with cond := some uptoSmall }

/-- 'logtidelaw17.SampleCounts', WHERE WHAT IT READS IS OF BULK AT MOST 1048576: true; the input reads as it did. -/
def sampleCountsUptoRow : OpenClaim := { program := "ytncmbdcicjolcaadoor", sum := "3a97e3bad9877ab6ad9a17a6d02e41434f6619de09c40476bf2cd11739d9e4d2", func := "logtide/logtidelaw17.SampleCounts", spec := "sampleCounts", named := ["logtide/sample.divisors"], apart := false, laid := [("logtide/sample.divisors", laid_logtide_sample_divisors)], narrowed := true }
def SampleCountsUptoSaid : Prop := sampleCountsUptoRow.holds Tryd.pinned (OpenSpec.upto sampleCountsSpec)

/-- 'logtidelaw17.SampleDecides', WHERE WHAT IT READS IS OF BULK AT MOST 1048576: true; the input reads as it did. -/
def sampleDecidesUptoRow : OpenClaim := { program := "ytncmbdcicjolcaadoor", sum := "3a97e3bad9877ab6ad9a17a6d02e41434f6619de09c40476bf2cd11739d9e4d2", func := "logtide/logtidelaw17.SampleDecides", spec := "sampleDecides", named := ["logtide/sample.divisors"], apart := false, laid := [("logtide/sample.divisors", laid_logtide_sample_divisors)], narrowed := true }
def SampleDecidesUptoSaid : Prop := sampleDecidesUptoRow.holds Tryd.pinned (OpenSpec.upto sampleDecidesSpec)

/-- 'logtidelaw17.SampleWhole', WHERE WHAT IT READS IS OF BULK AT MOST 1048576: true; the input reads as it did. -/
def sampleWholeUptoRow : OpenClaim := { program := "ytncmbdcicjolcaadoor", sum := "3a97e3bad9877ab6ad9a17a6d02e41434f6619de09c40476bf2cd11739d9e4d2", func := "logtide/logtidelaw17.SampleWhole", spec := "sampleWhole", unfollowed := true, recurses := true, named := ["logtide/sample.divisors"], apart := false, laid := [("logtide/sample.divisors", laid_logtide_sample_divisors)], narrowed := true }
def SampleWholeUptoSaid : Prop := sampleWholeUptoRow.holds Tryd.pinned (OpenSpec.upto sampleWholeSpec)

/-- 'logtidelaw17.SampleApplies', WHERE WHAT IT READS IS OF BULK AT MOST 1048576: true; the input reads as it did. -/
def sampleAppliesUptoRow : OpenClaim := { program := "ytncmbdcicjolcaadoor", sum := "3a97e3bad9877ab6ad9a17a6d02e41434f6619de09c40476bf2cd11739d9e4d2", func := "logtide/logtidelaw17.SampleApplies", spec := "sampleApplies", unfollowed := true, recurses := true, named := ["logtide/sample.divisors"], apart := false, laid := [("logtide/sample.divisors", laid_logtide_sample_divisors)], narrowed := true }
def SampleAppliesUptoSaid : Prop := sampleAppliesUptoRow.holds Tryd.pinned (OpenSpec.upto sampleAppliesSpec)

/-- 'logtidelaw17.SampleExpects', WHERE WHAT IT READS IS OF BULK AT MOST 1048576: true; the input reads as it did. -/
def sampleExpectsUptoRow : OpenClaim := { program := "ytncmbdcicjolcaadoor", sum := "3a97e3bad9877ab6ad9a17a6d02e41434f6619de09c40476bf2cd11739d9e4d2", func := "logtide/logtidelaw17.SampleExpects", spec := "sampleExpects", unfollowed := true, recurses := true, named := ["logtide/sample.divisors"], apart := false, laid := [("logtide/sample.divisors", laid_logtide_sample_divisors)], narrowed := true }
def SampleExpectsUptoSaid : Prop := sampleExpectsUptoRow.holds Tryd.pinned (OpenSpec.upto sampleExpectsSpec)

end Rows
end Go.Proofs.YtncmbdcicjolcaaDoor
