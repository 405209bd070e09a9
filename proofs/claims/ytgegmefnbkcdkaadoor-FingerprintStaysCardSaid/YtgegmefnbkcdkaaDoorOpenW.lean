/- Arguments opened: a slice of integers that came in is within the form's reach. -/
import Derived.Test.YtgegmefnbkcdkaaDoorOpen
namespace Go.Proofs.YtgegmefnbkcdkaaDoor
open Go.ChangeShapes Go.WideShapes Go.ChangeAt Go.RowKit
section
variable {H : Type} {enc : TypeId × Value → H} {P : Program} {w : World}
theorem sl_intsW {t e fuel : Nat} {k : IntKind} {v : Value} {x : DataW H × List MemPlace} (ht : P.underlying t = some (.slice e)) (he : P.underlying e = some (.int k)) (hC : P.cellsOf e = 1)
    (h : DataW.trod enc P w 0 (fun _ => true) true fuel t [v] = some x) (hw : (x.1.weights P t).all (· ≤ reachBytes) = true) :
    ∃ l : List Int, Sl w (lt w.heap.size) 1 v l.length (l.map (.int k)) ∧ l.length * P.bytesOf e ≤ reachBytes ∧ ∀ n ∈ l, (Lit.int k n).wf = true := by
  obtain ⟨l, h1, h2, h3⟩ := sl_ints ht he hC h
  refine ⟨l, h1, ?_, h3⟩
  rcases open_ints ht he hC h with ⟨hcs, hx⟩ | ⟨a, len, cap, zs, hcs, _, hl, hm, hz, hx, _⟩
  · simp at hcs
    subst hcs
    obtain ⟨_, _, _, hv, _⟩ := h1
    injection hv with _ hn _
    rw [← hn]; simp
  · simp at hcs
    subst hcs
    obtain ⟨_, _, _, hv, _⟩ := h1
    injection hv with _ hn _
    have hz' : zs.length = cap := by simpa using hz
    rw [hx] at hw
    simp only [DataW.weights, ht] at hw
    have h4 := List.all_eq_true.1 hw _ (List.mem_cons_self ..)
    have e1 : (lits (H := H) k (zs.take len)).length = len := by unfold lits; rw [List.length_map, List.length_take]; omega
    rw [e1] at h4
    have h5 : len * P.bytesOf e ≤ reachBytes := Nat.le_trans (Nat.mul_le_mul_right _ (Nat.le_add_right _ _)) (by simpa using h4)
    rw [← hn]; exact h5
theorem weights_head {t : TypeId} {ts : List TypeId} {d : DataW H} {ds : List (DataW H)} (h : (DataW.weightsEach P (t :: ts) (d :: ds)).all (· ≤ reachBytes) = true) : (d.weights P t).all (· ≤ reachBytes) = true ∧ (DataW.weightsEach P ts ds).all (· ≤ reachBytes) = true := by
  simp only [DataW.weightsEach, List.all_append, Bool.and_eq_true] at h
  exact h
end
end Go.Proofs.YtgegmefnbkcdkaaDoor
