/- Arguments opened: a slice of strings that came in reads as a list; its strings are within the form's reach. -/
import Derived.Test.YtkjhnipjhefndaaOpen
namespace Go.Proofs.Ytkjhnipjhefndaa
open Go.ChangeShapes Go.WideShapes Go.ChangeAt Go.RowKit

section
variable {H : Type} {enc : TypeId × Value → H} {P : Program} {w : World}
theorem weights_strs {e : TypeId} (ss : List ByteArray) : ∀ s ∈ ss, s.size ∈ DataW.weightsAll P e (strs ss : List (DataW H)) := by
  induction ss with
  | nil => intro s hs; simp at hs
  | cons a ss ih =>
    intro s hs
    simp only [strs, List.map_cons, DataW.weightsAll, DataW.weights, List.mem_append]
    rcases List.mem_cons.1 hs with rfl | hs
    · left; simp
    · right; exact ih s hs
theorem sl_strs {t e fuel : Nat} {v : Value} {x : DataW H × List MemPlace} (ht : P.underlying t = some (.slice e)) (he : P.underlying e = some .string) (hC : P.cellsOf e = 1)
    (h : DataW.trod enc P w 0 (fun _ => true) true fuel t [v] = some x) :
    ∃ l : List ByteArray, Sl w (lt w.heap.size) 1 v l.length (l.map .string) ∧ l.length ≤ maxLen ∧ ((x.1.weights P t).all (· ≤ reachBytes) = true → ∀ s ∈ l, s.size ≤ reachBytes) := by
  rcases open_strings ht he hC h with ⟨hcs, _⟩ | ⟨a, len, cap, zs, hcs, _, hl, hm, hz, hx, hcell, hwz⟩
  · simp at hcs
    subst hcs
    exact ⟨[], Sl.nil _ _ _ _ _, by simp, fun _ s hs => by simp at hs⟩
  · simp at hcs
    subst hcs
    have hz' : zs.length = cap := by simpa using hz
    have hlen : (zs.take len).length = len := by simp; omega
    refine ⟨zs.take len, ?_, by omega, fun hw s hs => ?_⟩
    · rw [hlen]
      refine ⟨by simp; omega, some a, cap, rfl, hl, fun hp => ?_⟩
      obtain ⟨b, o, spot⟩ := a
      have hc0 := hcell 0 (by omega)
      have hspot : spot = none := by simpa [Addr.add] using World.cell?_spot hc0
      subst hspot
      have hb : b < w.heap.size := by
        have := World.block_lt_of_cell? w _ hc0
        simpa [Addr.add] using this
      refine ⟨b, o, rfl, hb, fun j u hu => ?_⟩
      have hj : j < len := by
        have := (List.getElem?_eq_some_iff.1 hu).1
        rw [List.length_map, hlen] at this; exact this
      have hcj := hcell j (by omega)
      rw [Addr.add_lit] at hcj
      have : ((zs.take len).map Value.string)[j]? = some (.string (zs.getD j ByteArray.empty)) := by
        simp [hj, show j < zs.length by omega]
      rw [this] at hu
      rw [← hu]; exact hcj
    · rw [hx] at hw
      simp only [DataW.weights, ht] at hw
      have := List.all_eq_true.1 hw s.size (by simp only [List.mem_cons, List.mem_append]; right; left; exact weights_strs _ s hs)
      simpa using this
theorem weights_first {t : TypeId} {ts : List TypeId} {d : DataW H} {ds : List (DataW H)} (h : (DataW.weightsEach P (t :: ts) (d :: ds)).all (· ≤ reachBytes) = true) : (d.weights P t).all (· ≤ reachBytes) = true ∧ (DataW.weightsEach P ts ds).all (· ≤ reachBytes) = true := by
  simp only [DataW.weightsEach, List.all_append, Bool.and_eq_true] at h
  exact h
end
end Go.Proofs.Ytkjhnipjhefndaa
