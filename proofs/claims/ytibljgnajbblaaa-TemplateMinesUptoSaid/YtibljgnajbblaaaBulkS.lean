/- Arguments opened: a slice of strings that came in, its strings bounded by the reading's bulk. -/
import Derived.Test.YtibljgnajbblaaaBulk
namespace Go.Proofs.Ytibljgnajbblaaa
open Go.ChangeShapes Go.WideShapes Go.ChangeAt Go.RowKit

section
variable {H : Type} {enc : TypeId × Value → H} {P : Program} {w : World}
theorem sl_strsB {t e fuel : Nat} {v : Value} {x : DataW H × List MemPlace} (ht : P.underlying t = some (.slice e)) (he : P.underlying e = some .string) (hC : P.cellsOf e = 1)
    (h : DataW.trod enc P w 0 (fun _ => true) true fuel t [v] = some x) :
    ∃ l : List ByteArray, Sl w (lt w.heap.size) 1 v l.length (l.map .string) ∧ l.length ≤ maxLen ∧ ∀ s ∈ l, s.size + 1 ≤ Rows.uptoBulk x.1 := by
  rcases open_strings ht he hC h with ⟨hcs, _⟩ | ⟨a, len, cap, zs, hcs, _, hl, hm, hz, hx, hcell, hwz⟩
  · simp at hcs
    subst hcs
    exact ⟨[], Sl.nil _ _ _ _ _, by simp, fun s hs => by simp at hs⟩
  · simp at hcs
    subst hcs
    have hz' : zs.length = cap := by simpa using hz
    have hlen : (zs.take len).length = len := by simp; omega
    refine ⟨zs.take len, ?_, by omega, fun s hs => ?_⟩
    · rw [hlen]
      refine ⟨by simp; omega, some a, cap, rfl, hl, fun hp => ?_⟩
      obtain ⟨b, o, spot⟩ := a
      have hc0 := hcell 0 (by omega)
      have hspot : spot = none := by simpa [Addr.add] using World.cell?_spot hc0
      subst hspot
      have hb : b < w.heap.size := by
        have := World.block_lt_of_cell? w _ hc0
        simpa [Addr.add] using this
      refine ⟨b, o, rfl, hb, fun j u hu => ?_⟩
      have hj : j < len := by
        have := (List.getElem?_eq_some_iff.1 hu).1
        rw [List.length_map, hlen] at this; exact this
      have hcj := hcell j (by omega)
      rw [Addr.add_lit] at hcj
      have : ((zs.take len).map Value.string)[j]? = some (.string (zs.getD j ByteArray.empty)) := by
        simp [hj, show j < zs.length by omega]
      rw [this] at hu
      rw [← hu]; exact hcj
    · rw [hx]
      have h1 : (DataW.lit (.string s.data.toList) : DataW H) ∈ strs (zs.take len) := List.mem_map.2 ⟨s, hs, rfl⟩
      have h2 := bulk_part h1
      have h3 : Rows.uptoBulk (DataW.lit (.string s.data.toList) : DataW H) = s.data.toList.length + 1 := by simp [Rows.uptoBulk]
      have h4 : s.data.toList.length = s.size := rfl
      simp only [Rows.uptoBulk]
      omega
end
end Go.Proofs.Ytibljgnajbblaaa
