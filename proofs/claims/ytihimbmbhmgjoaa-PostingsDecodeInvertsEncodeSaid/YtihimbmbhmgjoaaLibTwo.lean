/- More general lemmas of our own: slices cut at their beginning or end. -/
import Derived.Test.YtihimbmbhmgjoaaLib
namespace Go.Proofs.Ytihimbmbhmgjoaa
open Go.RowKit

theorem elem_eq {P : Program} {t e : TypeId} (h : P.underlying t = some (.slice e)) : P.underlying t = some (.slice (P.elem t)) := by
  rw [h]
  simp [Program.elem, h]

section
variable {P : Program} {t e size bytes : Nat} {z : Value} {w : World} {S : Nat → Prop} {A : Option Addr} {n c : Nat} {xs : List Value}
/-- 's[k:]'. -/
theorem cut_from (E : Elem P t e size bytes z) (h : Sl w S size (.slice A n c) n xs) {k : Nat} (hk : k ≤ n) :
    ∃ A', (∀ (W : World) (kd : IntKind), (Instr.slice t (.slice A n c) (some (.int kd (k : Int))) none none).run P W = .ok (.slice A' (n - k) (c - k)) W) ∧ n - k ≤ c - k ∧ Sl w S size (.slice A' (n - k) (c - k)) (n - k) (xs.drop (k * size)) := by
  obtain ⟨i, hi, hz0, hz1, hz2⟩ := info_parts E.hi
  have hnc : n ≤ c := by
    obtain ⟨_, _, c', hv, hc, _⟩ := h
    injection hv with _ _ h3
    omega
  refine ⟨if c = k then A else A.map (·.add (k * size)), fun W kd => ?_, by omega, h.drop hk⟩
  have hk' : (k : Int) ≤ (n : Int) := by omega
  simp [Instr.slice, run_underlying E.ht, Instr.sliceBounds, run_sliceBound, sizeOf, typeInfo, hi, hz1, hk']
/-- 's[1:]'. -/
theorem cut_one (E : Elem P t e size bytes z) {m : Nat} (h : Sl w S size (.slice A (m + 1) c) (m + 1) xs) :
    ∃ A', (∀ W : World, (Instr.slice t (.slice A (m + 1) c) (some (.int .i64 1)) none none).run P W = .ok (.slice A' m (c - 1)) W) ∧ m ≤ c - 1 ∧ Sl w S size (.slice A' m (c - 1)) m (xs.drop size) := by
  obtain ⟨A', h1, h2, h3⟩ := cut_from E h (k := 1) (by omega)
  refine ⟨A', fun W => ?_, h2, by simpa using h3⟩
  have := h1 W .i64
  simpa using this
end
end Go.Proofs.Ytihimbmbhmgjoaa
