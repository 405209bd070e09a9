/- slices.DeleteFunc of files, in place. -/
import Derived.Test.YtgegmefnbkcdkaaFsSrch
namespace Go.Proofs.Ytgegmefnbkcdkaa
open Go.RowKit
theorem fis_set (X : List Fi) (i : Nat) (h : i < X.length) (a : Fi) : (fis X).take (i * 5) ++ fiV a ++ (fis X).drop (i * 5 + (fiV a).length) = fis (X.set i a) := by
  have e2 : X.set i a = X.take i ++ a :: X.drop (i + 1) := by rw [List.set_eq_take_append_cons_drop, if_pos h]
  have e3 : i * 5 + (fiV a).length = (i + 1) * 5 := by rw [fiV_len]; omega
  rw [e2, e3, show fis X = X.flatMap fiV from rfl, rows_take fiV_len X i (by omega), rows_drop fiV_len X (i + 1) (by omega)]
  simp [fis]
theorem own_fi {w : World} {B n g : Nat} {v : Value} {X : List Fi} (h : w.ownsRow B 72 5 v n (fis X)) (hg : v.ownBlock = some g) (hn : n = X.length) (i : Nat) (hi : i < X.length) (a : Fi) :
    (w.setCells g (i * 5) (fiV a)).ownsRow B 72 5 v n (fis (X.set i a)) := by
  have := own_stores (fiV a) (i * 5) h hg (by rw [fiV_len]; omega)
  rwa [fis_set X i hi a] at this
theorem own_fiCells {w : World} {B g c n : Nat} {X : List Fi} (h : w.ownsRow B 72 5 (.slice (some ⟨g, 0, none⟩) n c) n (fis X)) (hn : X.length = n) {k : Nat} (hk : k < X.length) :
    w.cell? ⟨g, k * 5, none⟩ = some (.int .i64 X[k].ino) ∧ w.cell? ⟨g, k * 5 + 1, none⟩ = some X[k].dv ∧ w.cell? ⟨g, k * 5 + 2, none⟩ = some (.bool X[k].cp) ∧ w.cell? ⟨g, k * 5 + 3, none⟩ = some (.bool X[k].wh) ∧ w.cell? ⟨g, k * 5 + 4, none⟩ = some (.int .i64 X[k].left) := by
  have q : ∀ j, j < 5 → w.cell? ⟨g, k * 5 + j, none⟩ = (fiV X[k])[j]? := fun j hj => by
    rw [own_cell h rfl (k * 5 + j) (by omega)]
    exact rows_at fiV_len X k hk j hj
  exact ⟨q 0 (by omega), q 1 (by omega), q 2 (by omega), q 3 (by omega), q 4 (by omega)⟩
end Go.Proofs.Ytgegmefnbkcdkaa
