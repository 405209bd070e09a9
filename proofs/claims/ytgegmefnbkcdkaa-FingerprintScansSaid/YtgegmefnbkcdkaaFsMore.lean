/- The method copyMore. -/
import Derived.Test.YtgegmefnbkcdkaaFsRename
namespace Go.Proofs.Ytgegmefnbkcdkaa
open Go.RowKit
/-- What copyMore does. -/
def MoreSt (fs : FS) (c : Ch) (e : Int) (fs' : FS) : Prop :=
  ((∀ t ∈ fs.N, t.nm ≠ c.name) ∧ e = 12 ∧ fs' = fs) ∨
  ∃ (i k : Nat) (hi : i < fs.N.length) (hk : k < fs.F.length), fs.N[i].nm = c.name ∧ fs.F[k].ino = fs.N[i].ino ∧
    (((fs.F[k].cp = false ∨ fs.F[k].wh = true) ∧ e = 17 ∧ fs' = fs) ∨ ((fs.F[k].cp = true ∧ fs.F[k].wh = false) ∧
      ((c.n < 1 ∧ e = 2 ∧ fs' = fs) ∨ (1 ≤ c.n ∧ e = 0 ∧ fs' = ⟨fs.N, fs.F.set k ⟨fs.F[k].ino, fs.F[k].dv, fs.F[k].data, true, fs.F[k].left - min c.n fs.F[k].left == 0, fs.F[k].left - min c.n fs.F[k].left⟩, fs.O⟩))))
end Go.Proofs.Ytgegmefnbkcdkaa
