/- Lines of bytes that are read in parts: plain Lean. -/
import Derived.Test.YtimldjlegbdldaaFrames
namespace Go.Proofs.Ytimldjlegbdldaa
open Go.RowKit

theorem lnS_idem (l : List UInt8) : ∀ k, lnS l (lnS l k).2 = lnS l k
  | 0 => rfl
  | k + 1 => by
    by_cases h : l.getD k 0 = 10
    · have e : lnS l (k + 1) = ((lnS l k).1 ++ [((lnS l k).2, k + 1)], k + 1) := by simp only [lnS, if_pos h]
      rw [e]
      exact e
    · rw [lnS_skip l k h]
      exact lnS_idem l k
def shiftP (a : Nat) (p : Nat × Nat) : Nat × Nat := (a + p.1, a + p.2)
theorem lnS_from (l : List UInt8) (a : Nat) (ha : (lnS l a).2 = a) : ∀ n, lnS l (a + n) = ((lnS l a).1 ++ (lnS (l.drop a) n).1.map (shiftP a), a + (lnS (l.drop a) n).2)
  | 0 => by
    refine Prod.ext ?_ ?_
    · simp [lnS]
    · simpa [lnS] using ha
  | n + 1 => by
    have ih := lnS_from l a ha n
    have hg : (l.drop a).getD n 0 = l.getD (a + n) 0 := by simp [List.getD_eq_getElem?_getD]
    by_cases h : l.getD (a + n) 0 = 10
    · have e1 : lnS l (a + (n + 1)) = ((lnS l (a + n)).1 ++ [((lnS l (a + n)).2, a + n + 1)], a + n + 1) := by rw [← Nat.add_assoc]; simp only [lnS, if_pos h]
      have e2 : lnS (l.drop a) (n + 1) = ((lnS (l.drop a) n).1 ++ [((lnS (l.drop a) n).2, n + 1)], n + 1) := by simp only [lnS, hg, if_pos h]
      rw [e1, e2, ih]
      refine Prod.ext ?_ ?_
      · simp [shiftP, Nat.add_assoc]
      · simp only []; omega
    · have e1 : lnS l (a + (n + 1)) = lnS l (a + n) := by rw [← Nat.add_assoc]; exact lnS_skip l _ h
      have e2 : lnS (l.drop a) (n + 1) = lnS (l.drop a) n := lnS_skip _ _ (by rw [hg]; exact h)
      rw [e1, e2, ih]
theorem lnS_take (l : List UInt8) (n : Nat) : ∀ k, k ≤ n → lnS (l.take n) k = lnS l k
  | 0, _ => rfl
  | k + 1, hk => by
    have ih := lnS_take l n k (by omega)
    have hg : (l.take n).getD k 0 = l.getD k 0 := by simp [List.getD_eq_getElem?_getD, show k < n by omega]
    simp only [lnS, hg, ih]
theorem flatMap_same {α β : Type} {f g : α → List β} : ∀ (l : List α), (∀ p ∈ l, f p = g p) → l.flatMap f = l.flatMap g
  | [], _ => rfl
  | x :: xs, h => by rw [List.flatMap_cons, List.flatMap_cons, h x (by simp), flatMap_same xs (fun p hp => h p (by simp [hp]))]
/-- The spans that Frame reads from a boundary on, of the bytes up to a place. -/
theorem parts_step {l : List UInt8} {a k : Nat} (ha : a = (lnS l k).2) {s : Nat} (has : a ≤ s) (hs : s ≤ l.length) (lim : Int) :
    (lnS l k).1.flatMap (frV l 0 lim) ++ frL (l.take s) a lim = (lnS l s).1.flatMap (frV l 0 lim) ∧ (lnS l k).1.length + (frSp (l.take s) a).length = (lnS l s).1.length ∧ frEnd (l.take s) a = ((lnS l s).2 : Int) := by
  have hidem : lnS l a = lnS l k := by rw [ha]; exact lnS_idem l k
  have hb : (lnS l a).2 = a := by rw [hidem, ← ha]
  have hfrom := lnS_from l a hb (s - a)
  rw [Nat.add_sub_cancel' has, hidem] at hfrom
  have htl : (l.take s).length = s := by rw [List.length_take]; omega
  obtain ⟨e1, e2⟩ := frEnd_eq (data := l.take s) (off := a) (by rw [htl]; exact has)
  have hdrop : (l.take s).drop a = (l.drop a).take (s - a) := by rw [List.drop_take]
  have hsp : spans ((l.take s).drop a) = (lnS (l.drop a) (s - a)).1 ∧ spEnd ((l.take s).drop a) = (lnS (l.drop a) (s - a)).2 := by
    unfold spans spEnd
    rw [List.length_drop, htl, hdrop, lnS_take _ _ _ (Nat.le_refl _)]
    exact ⟨rfl, rfl⟩
  rw [hsp.2] at e1
  rw [hsp.1] at e2
  refine ⟨?_, ?_, by rw [e1, hfrom]⟩
  · rw [hfrom, List.flatMap_append]
    congr 1
    unfold frL
    rw [e2, Int.toNat_natCast, List.flatMap_map]
    refine flatMap_same _ fun p hp => ?_
    obtain ⟨p1, p2⟩ := (span_in (data := l.take s) (off := a) (by rw [htl]; exact has) (p := p) (by rw [hsp.1]; exact hp))
    rw [htl] at p2
    have hseg : segB (l.take s) a p = segB l 0 (shiftP a p) := by
      unfold segB shiftP
      dsimp only
      rw [List.drop_take, List.take_take, Nat.zero_add, show a + p.2 - (a + p.1) = p.2 - p.1 by omega, Nat.min_eq_left (by omega)]
    unfold frV
    rw [hseg]
    unfold shiftP
    dsimp only
    rw [Nat.zero_add, show a + p.2 - (a + p.1) = p.2 - p.1 by omega]
  · rw [e2, hfrom, List.length_append, List.length_map]
end Go.Proofs.Ytimldjlegbdldaa
