/- The complete lines of some bytes, as spans: plain Lean. -/
import Derived.Test.YtldopkdjoejhbaaDoorBytes
namespace Go.Proofs.YtldopkdjoejhbaaDoor

/-- The spans that end in the first k bytes, and where the last one ends. -/
def lnS (l : List UInt8) : Nat → List (Nat × Nat) × Nat
  | 0 => ([], 0)
  | k + 1 => if l.getD k 0 = 10 then ((lnS l k).1 ++ [((lnS l k).2, k + 1)], k + 1) else lnS l k
def spans (l : List UInt8) : List (Nat × Nat) := (lnS l l.length).1
def spEnd (l : List UInt8) : Nat := (lnS l l.length).2
theorem lnS_le (l : List UInt8) : ∀ k, (lnS l k).1.length ≤ k ∧ (lnS l k).2 ≤ k
  | 0 => ⟨Nat.le_refl _, Nat.le_refl _⟩
  | k + 1 => by
    have ih := lnS_le l k
    unfold lnS
    split
    · rw [List.length_append]; simp; omega
    · omega
/-- Nothing but the last byte of a span is a line feed. -/
def SpOk (l : List UInt8) (p : Nat × Nat) : Prop := p.1 < p.2 ∧ p.2 ≤ l.length ∧ (∀ j, p.1 ≤ j → j < p.2 → (l.getD j 0 = 10 ↔ j + 1 = p.2))
theorem lnS_ok (l : List UInt8) : ∀ k, k ≤ l.length → (∀ p ∈ (lnS l k).1, SpOk l p) ∧ (∀ j, (lnS l k).2 ≤ j → j < k → l.getD j 0 ≠ 10)
  | 0, _ => ⟨fun p hp => by simp [lnS] at hp, fun j _ h => absurd h (by omega)⟩
  | k + 1, hk => by
    obtain ⟨ih1, ih2⟩ := lnS_ok l k (by omega)
    have hle := lnS_le l k
    by_cases h : l.getD k 0 = 10
    · have e : lnS l (k + 1) = ((lnS l k).1 ++ [((lnS l k).2, k + 1)], k + 1) := by simp only [lnS, if_pos h]
      rw [e]
      refine ⟨fun p hp => ?_, fun j h1 h2 => by dsimp only at h1; omega⟩
      rcases List.mem_append.1 hp with hp | hp
      · exact ih1 p hp
      · rw [List.mem_singleton.1 hp]
        refine ⟨by dsimp only; omega, hk, fun j h1 h2 => ?_⟩
        dsimp only at h1 h2 ⊢
        by_cases hj : j = k
        · rw [hj]; exact ⟨fun _ => rfl, fun _ => h⟩
        · exact ⟨fun h3 => absurd h3 (ih2 j h1 (by omega)), fun h3 => absurd h3 (by omega)⟩
    · have e : lnS l (k + 1) = lnS l k := by simp only [lnS, if_neg h]
      rw [e]
      refine ⟨ih1, fun j h1 h2 => ?_⟩
      by_cases hj : j = k
      · rw [hj]; exact h
      · exact ih2 j h1 (by omega)
theorem spans_ok (l : List UInt8) : ∀ p ∈ spans l, SpOk l p := (lnS_ok l _ (Nat.le_refl _)).1
/-- The spans lie one after the other. -/
def Chn : Nat → List (Nat × Nat) → Nat → Prop
  | a, [], e => a = e
  | a, p :: ps, e => p.1 = a ∧ Chn p.2 ps e
theorem Chn.push : ∀ (ps : List (Nat × Nat)) (a e f : Nat), Chn a ps e → Chn a (ps ++ [(e, f)]) f
  | [], _, _, _, h => ⟨h.symm, rfl⟩
  | _ :: ps, _, e, f, h => ⟨h.1, Chn.push ps _ e f h.2⟩
theorem lnS_chn (l : List UInt8) : ∀ k, Chn 0 (lnS l k).1 (lnS l k).2
  | 0 => rfl
  | k + 1 => by
    have ih := lnS_chn l k
    by_cases h : l.getD k 0 = 10
    · have e : lnS l (k + 1) = ((lnS l k).1 ++ [((lnS l k).2, k + 1)], k + 1) := by simp only [lnS, if_pos h]
      rw [e]
      exact Chn.push _ _ _ _ ih
    · have e : lnS l (k + 1) = lnS l k := by simp only [lnS, if_neg h]
      rw [e]
      exact ih
theorem spans_chn (l : List UInt8) : Chn 0 (spans l) (spEnd l) := lnS_chn l _
theorem spans_len (l : List UInt8) : (spans l).length ≤ l.length := (lnS_le l _).1
theorem spEnd_le (l : List UInt8) : spEnd l ≤ l.length := (lnS_le l _).2
/-- Where the span at place i begins. -/
theorem Chn.at_ : ∀ (ps : List (Nat × Nat)) (a e i : Nat) (_ : Chn a ps e) (hi : i < ps.length), (ps[i]).1 = if _ : i = 0 then a else (ps[i - 1]'(by omega)).2
  | _ :: _, _, _, 0, h, _ => by simpa using h.1
  | p :: ps, _, e, i + 1, h, hi => by
    have ih := Chn.at_ ps p.2 e i h.2 (by simpa using hi)
    simp only [List.getElem_cons_succ, ih]
    by_cases h0 : i = 0
    · subst h0; simp
    · have : i - 1 + 1 = i := by omega
      simp only [h0, dif_neg, not_false_eq_true, Nat.add_sub_cancel, dif_neg (show ¬ i + 1 = 0 by omega)]
      obtain ⟨j, rfl⟩ : ∃ j, i = j + 1 := ⟨i - 1, by omega⟩
      simp
theorem Chn.last : ∀ (ps : List (Nat × Nat)) (a e : Nat) (_ : Chn a ps e) (h0 : 0 < ps.length), (ps[ps.length - 1]'(by omega)).2 = e
  | [_], _, _, h, _ => h.2
  | p :: q :: ps, _, e, h, _ => by
    have ih := Chn.last (q :: ps) p.2 e h.2 (by simp)
    simpa using ih
end Go.Proofs.YtldopkdjoejhbaaDoor
