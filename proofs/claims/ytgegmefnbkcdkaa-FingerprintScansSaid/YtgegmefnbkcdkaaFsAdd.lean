/- A file is added to a directory that is being changed. -/
import Derived.Test.YtgegmefnbkcdkaaFsMid
namespace Go.Proofs.Ytgegmefnbkcdkaa
open Go.RowKit
/-- The first gap among the inodes. -/
def Gap (F : List Fi) (k : Nat) : Prop := k ≤ F.length ∧ (∀ j, (hj : j < F.length) → j < k → F[j].ino = (j : Int) + 1) ∧ ∀ h : k < F.length, F[k].ino ≠ (k : Int) + 1
def putFile (F : List Fi) (k : Nat) (t : Fi) : List Fi := F.take k ++ ⟨(k : Int) + 1, t.dv, t.data, t.cp, t.wh, t.left⟩ :: F.drop k
end Go.Proofs.Ytgegmefnbkcdkaa
