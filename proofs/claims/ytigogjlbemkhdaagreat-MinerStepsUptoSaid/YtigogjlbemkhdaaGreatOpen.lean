/- Arguments opened: a slice of integers that came in reads as a list. -/
import Derived.Test.YtigogjlbemkhdaaGreatLib
import Derived.Test.YtigogjlbemkhdaaGreatLaw
namespace Go.Proofs.YtigogjlbemkhdaaGreat
open Go.ChangeShapes Go.WideShapes Go.ChangeAt Go.RowKit
open Go.ChangeMaps (open_string shut_string)
section
variable {H : Type} {enc : TypeId × Value → H} {P : Program} {w : World}
theorem sl_ints {t e fuel : Nat} {k : IntKind} {v : Value} {x : DataW H × List MemPlace} (ht : P.underlying t = some (.slice e)) (he : P.underlying e = some (.int k)) (hC : P.cellsOf e = 1)
    (h : DataW.trod enc P w 0 (fun _ => true) true fuel t [v] = some x) :
    ∃ l : List Int, Sl w (lt w.heap.size) 1 v l.length (l.map (.int k)) ∧ l.length ≤ maxLen ∧ ∀ n ∈ l, (Lit.int k n).wf = true := by
  rcases open_ints ht he hC h with ⟨hcs, _⟩ | ⟨a, len, cap, zs, hcs, _, hl, hm, hz, _, hcell, hwz⟩
  · simp at hcs
    subst hcs
    exact ⟨[], Sl.nil _ _ _ _ _, by simp, by simp⟩
  · simp at hcs
    subst hcs
    have hz' : zs.length = cap := by simpa using hz
    have hlen : (zs.take len).length = len := by simp; omega
    refine ⟨zs.take len, ?_, by omega, fun n hn => hwz n (List.mem_of_mem_take hn)⟩
    rw [hlen]
    refine ⟨by simp; omega, some a, cap, rfl, hl, fun hp => ?_⟩
    obtain ⟨b, o, spot⟩ := a
    have hc0 := hcell 0 (by omega)
    have hspot : spot = none := by simpa [Addr.add] using World.cell?_spot hc0
    subst hspot
    have hb : b < w.heap.size := by
      have := World.block_lt_of_cell? w _ hc0
      simpa [Addr.add] using this
    refine ⟨b, o, rfl, hb, fun j u hu => ?_⟩
    have hj : j < len := by
      have := (List.getElem?_eq_some_iff.1 hu).1
      rw [List.length_map, hlen] at this; exact this
    have hcj := hcell j (by omega)
    rw [Addr.add_lit] at hcj
    have : ((zs.take len).map (Value.int k))[j]? = some (.int k (zs.getD j 0)) := by
      simp [hj, show j < zs.length by omega]
    rw [this] at hu
    rw [← hu]; exact hcj
end
end Go.Proofs.YtigogjlbemkhdaaGreat
