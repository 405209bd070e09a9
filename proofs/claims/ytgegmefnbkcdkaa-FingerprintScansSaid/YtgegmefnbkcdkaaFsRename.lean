/- The method rename. -/
import Derived.Test.YtgegmefnbkcdkaaFsAppend
namespace Go.Proofs.Ytgegmefnbkcdkaa
open Go.RowKit
theorem toList_inj {s t : ByteArray} (h : s.toList = t.toList) : s = t := by
  rw [Lib.toList_data, Lib.toList_data] at h
  exact lb_inj h
/-- What rename does. -/
def RenameSt (fs : FS) (c : Ch) (e : Int) (fs' : FS) : Prop :=
  ((∀ t ∈ fs.N, t.nm ≠ c.name) ∧ e = 12 ∧ fs' = fs) ∨
  ∃ (i k : Nat) (hi : i < fs.N.length) (hk : k < fs.F.length), fs.N[i].nm = c.name ∧ fs.F[k].ino = fs.N[i].ino ∧
    ((c.dst = c.name ∧ e = 17 ∧ fs' = fs) ∨ (c.dst ≠ c.name ∧ e = 0 ∧ fs' = ⟨putName (rmName (rmName fs.N c.name) c.dst) ⟨c.dst, fs.F[k].ino⟩, fs.F, fs.O⟩))
theorem NSrt.rm {N : List Nm} (h : NSrt N) (s : ByteArray) : NSrt (rmName N s) := List.Pairwise.filter _ h
theorem Small.rm {fs : FS} (h : Small fs) (s : ByteArray) : Small ⟨rmName fs.N s, fs.F, fs.O⟩ := ⟨Nat.le_trans (List.length_filter_le _ _) h.n, h.f, h.o⟩
end Go.Proofs.Ytgegmefnbkcdkaa
