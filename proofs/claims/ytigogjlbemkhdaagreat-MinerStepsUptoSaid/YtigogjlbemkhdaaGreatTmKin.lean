/- miner.add, Add and Remove: where the tokens of the new state lie (printed by gen/kin.py out of XTmAdd and XTmLine). -/
import Derived.Test.YtigogjlbemkhdaaGreatTmLine
import Derived.Test.YtigogjlbemkhdaaGreatRefState
namespace Go.Proofs.YtigogjlbemkhdaaGreat
open Go.RowKit
/-- The elements of a new state have the tokens of an old one's, or tokens in a new block. -/
def KinT (w w' : World) (L L' : List Tm) : Prop := ∀ t ∈ L', (∃ x ∈ L, x.tv = t.tv ∧ x.tk = t.tk) ∨ Sl w' (fun b => w.heap.size ≤ b ∧ b < w'.heap.size) 1 t.tv t.tk.length (t.tk.map .string)
end Go.Proofs.YtigogjlbemkhdaaGreat
