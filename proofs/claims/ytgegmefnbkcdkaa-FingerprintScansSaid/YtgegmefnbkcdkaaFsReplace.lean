/- The method replace. -/
import Derived.Test.YtgegmefnbkcdkaaFsMore
namespace Go.Proofs.Ytgegmefnbkcdkaa
open Go.RowKit
theorem own_nmCells {w : World} {B g c n : Nat} {X : List Nm} (h : w.ownsRow B 77 2 (.slice (some ⟨g, 0, none⟩) n c) n (nms X)) {k : Nat} (hk : k < X.length) :
    w.cell? ⟨g, k * 2, none⟩ = some (.string X[k].nm) ∧ w.cell? ⟨g, k * 2 + 1, none⟩ = some (.int .i64 X[k].ino) := by
  have q : ∀ j, j < 2 → ∀ u, (nmV X[k])[j]? = some u → w.cell? ⟨g, k * 2 + j, none⟩ = some u := fun j hj u hu => by
    have hc := h.cells (g := g) rfl (k * 2 + j) u ((rows_at nmV_len X k hk j hj).trans hu)
    rw [Addr.add_lit, Nat.zero_add] at hc
    exact hc
  exact ⟨q 0 (by omega) _ rfl, q 1 (by omega) _ rfl⟩
/-- What replace does. -/
def ReplaceSt (fs : FS) (c : Ch) (e : Int) (fs' : FS) : Prop :=
  ((∀ t ∈ fs.N, t.nm ≠ c.name) ∧ e = 12 ∧ fs' = fs) ∨
  ∃ (i : Nat) (hi : i < fs.N.length), fs.N[i].nm = c.name ∧ ((60000 < c.data.length ∧ e = 3 ∧ fs' = fs) ∨
    (c.data.length ≤ 60000 ∧ e = 0 ∧ ∃ (k : Nat) (dv : Value), Gap fs.F k ∧ fs' = ⟨fs.N.set i ⟨c.name, (k : Int) + 1⟩, putFile fs.F k ⟨0, dv, c.data, false, true, 0⟩, fs.O⟩))
end Go.Proofs.Ytgegmefnbkcdkaa
