/- The method append. -/
import Derived.Test.YtgegmefnbkcdkaaFsOne
namespace Go.Proofs.Ytgegmefnbkcdkaa
open Go.RowKit
/-- What append does. -/
def AppendSt (fs : FS) (c : Ch) (e : Int) (fs' : FS) : Prop :=
  ((∀ t ∈ fs.N, t.nm ≠ c.name) ∧ e = 12 ∧ fs' = fs) ∨
  ∃ (i k : Nat) (hi : i < fs.N.length) (hk : k < fs.F.length), fs.N[i].nm = c.name ∧ fs.F[k].ino = fs.N[i].ino ∧
    ((fs.F[k].cp = true ∧ e = 13 ∧ fs' = fs) ∨ (fs.F[k].cp = false ∧ 60000 < fs.F[k].data.length + c.data.length ∧ e = 3 ∧ fs' = fs) ∨
     (fs.F[k].cp = false ∧ fs.F[k].data.length + c.data.length ≤ 60000 ∧ e = 0 ∧ ∃ dv, fs' = ⟨fs.N, fs.F.set k ⟨fs.F[k].ino, dv, fs.F[k].data ++ c.data, false, fs.F[k].wh, fs.F[k].left⟩, fs.O⟩))
theorem bys_app (a b : List UInt8) : bys (a ++ b) = bys a ++ bys b := by simp [bys]
end Go.Proofs.Ytgegmefnbkcdkaa
