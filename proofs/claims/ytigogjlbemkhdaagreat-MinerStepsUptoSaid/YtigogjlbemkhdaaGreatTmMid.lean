/- A part of a row of elements, in its block: read, written in place, split. The laws of the partition in place. No program in sight. -/
import Derived.Test.YtigogjlbemkhdaaGreatTmCmp
namespace Go.Proofs.YtigogjlbemkhdaaGreat
open Go.RowKit
theorem tms_put {L : List Tm} {i : Nat} (h : i < L.length) (y : Tm) : ((tms L).set (i * 2) y.tv).set (i * 2 + 1) (.int .i64 y.ct) = tms (L.set i y) := by
  have e1 : L = L.take i ++ [L[i]] ++ L.drop (i + 1) := by rw [List.append_assoc, List.singleton_append, ← List.drop_eq_getElem_cons h, List.take_append_drop]
  have hl : (tms (L.take i)).length = i * 2 := by rw [tms_len, List.length_take, Nat.min_eq_left (by omega)]
  have e2 : L.set i y = L.take i ++ [y] ++ L.drop (i + 1) := by rw [List.set_eq_take_append_cons_drop, if_pos h]; simp
  rw [e2]
  have e3 : tms L = tms (L.take i) ++ (tmV L[i] ++ tms (L.drop (i + 1))) := by
    have := congrArg tms e1
    rw [tms_append, tms_append, List.append_assoc] at this
    rw [this]; simp [tms]
  rw [e3, tms_append, tms_append, List.append_assoc, List.set_append_right _ _ (by omega), hl, Nat.sub_self, List.set_append_right _ _ (by omega), hl, show i * 2 + 1 - i * 2 = 1 by omega]
  simp [tmV, tms]
/-- The block g: cells X, then the elements L, then cells Y. -/
def Mid (w : World) (g : Nat) (X : List Value) (L : List Tm) (Y : List Value) : Prop := Blk w g 32 (X ++ tms L ++ Y).toArray
section
variable {w w' : World} {g : Nat} {X Y : List Value} {L : List Tm}
theorem Mid.same (h : Mid w g X L Y) (hb : w'.heap[g]? = w.heap[g]?) : Mid w' g X L Y := hb.trans h
theorem Mid.inHeap (h : Mid w g X L Y) : g < w.heap.size := Blk.lt h
theorem Mid.get (h : Mid w g X L Y) (j : Nat) (u : Value) (hu : (tms L)[j]? = some u) : w.cell? ⟨g, X.length + j, none⟩ = some u := by
  have hj : j < (tms L).length := (List.getElem?_eq_some_iff.1 hu).1
  have h1 := Blk.cell h (X.length + j)
  rw [h1, List.getElem?_toArray, List.append_assoc, List.getElem?_append_right (by omega), Nat.add_sub_cancel_left, List.getElem?_append_left hj]
  exact hu
theorem Mid.cells (h : Mid w g X L Y) {i : Nat} (hi : i < L.length) : w.cell? ⟨g, X.length + i * 2, none⟩ = some L[i].tv ∧ w.cell? ⟨g, X.length + i * 2 + 1, none⟩ = some (.int .i64 L[i].ct) :=
  ⟨h.get _ _ ((tms_at L i hi 0 (by omega)).trans rfl), by rw [Nat.add_assoc]; exact h.get _ _ ((tms_at L i hi 1 (by omega)).trans rfl)⟩
theorem Mid.frozen (h : Mid w g X L Y) (j : Nat) : w.frozen? ⟨g, j, none⟩ = false := frozen_of_row w g j _ _ h
theorem Mid.sl (h : Mid w g X L Y) (c : Nat) (hc : L.length ≤ c) : Sl w (fun b => b = g) 2 (.slice (some ⟨g, X.length, none⟩) L.length c) L.length (tms L) :=
  ⟨tms_len L, _, _, rfl, hc, fun _ => ⟨g, X.length, rfl, rfl, fun j u hu => h.get j u hu⟩⟩
theorem Mid.slt (h : Mid w g X L Y) (c : Nat) (hc : L.length ≤ c) : Sl w (lt w.heap.size) 2 (.slice (some ⟨g, X.length, none⟩) L.length c) L.length (tms L) :=
  (h.sl c hc).mono fun _ e => e ▸ h.inHeap
theorem Mid.left {A B : List Tm} : Mid w g X (A ++ B) Y ↔ Mid w g X A (tms B ++ Y) := by unfold Mid; rw [tms_append]; simp only [List.append_assoc]
theorem Mid.right {A B : List Tm} : Mid w g X (A ++ B) Y ↔ Mid w g (X ++ tms A) B Y := by unfold Mid; rw [tms_append]; simp only [List.append_assoc]
theorem Mid.put (h : Mid w g X L Y) {i : Nat} (hi : i < L.length) (y : Tm) : Mid ((w.setCell ⟨g, X.length + i * 2, none⟩ y.tv).setCell ⟨g, X.length + i * 2 + 1, none⟩ (.int .i64 y.ct)) g X (L.set i y) Y := by
  have h1 := heap_setCell_same w g (X.length + i * 2) _ _ y.tv h
  have h2 := heap_setCell_same _ g (X.length + i * 2 + 1) _ _ (.int .i64 y.ct) h1
  have hl : (tms L).length = L.length * 2 := tms_len L
  refine h2.trans ?_
  congr 2
  rw [List.setIfInBounds_toArray, List.setIfInBounds_toArray]
  congr 1
  rw [← tms_put hi, List.append_assoc, List.append_assoc, List.set_append_right _ _ (by omega), List.set_append_right _ _ (by omega), List.set_append_left _ _ (by omega), List.set_append_left _ _ (by rw [List.length_set]; omega), Nat.add_sub_cancel_left, Nat.add_assoc, Nat.add_sub_cancel_left]
end
/-- The first n hold, the others up to k do not. -/
def Part {α : Type} (q : α → Bool) (L : List α) (n k : Nat) : Prop := n ≤ k ∧ k ≤ L.length ∧ (∀ i, (h : i < L.length) → i < n → q L[i] = true) ∧ ∀ i, (h : i < L.length) → n ≤ i → i < k → q L[i] = false
section
variable {α : Type} {q : α → Bool} {L : List α} {n k : Nat}
theorem Part.none (q : α → Bool) (L : List α) : Part q L 0 0 := ⟨Nat.le_refl _, Nat.zero_le _, fun _ _ h => absurd h (by omega), fun _ _ _ h => absurd h (by omega)⟩
theorem Part.skip (h : Part q L n k) (hk : k < L.length) (hq : q L[k] = false) : Part q L n (k + 1) :=
  ⟨by have := h.1; omega, hk, h.2.2.1, fun i hi h1 h2 => by
    by_cases e : i = k
    · subst e; exact hq
    · exact h.2.2.2 i hi h1 (by omega)⟩
theorem Part.swap (h : Part q L n k) (hk : k < L.length) (hq : q L[k] = true) : Part q ((L.set k (L[n]'(by have := h.1; omega))).set n L[k]) (n + 1) (k + 1) := by
  have hnk := h.1
  refine ⟨by omega, by rw [List.length_set, List.length_set]; omega, fun i hi h1 => ?_, fun i hi h1 h2 => ?_⟩
  · rw [List.length_set, List.length_set] at hi
    rw [List.getElem_set]
    by_cases e : n = i
    · rw [if_pos e]; exact hq
    · rw [if_neg e, List.getElem_set, if_neg (by omega)]
      exact h.2.2.1 i hi (by omega)
  · rw [List.length_set, List.length_set] at hi
    rw [List.getElem_set, if_neg (by omega), List.getElem_set]
    by_cases e : k = i
    · rw [if_pos e]; exact h.2.2.2 n (by omega) (Nat.le_refl _) (by omega)
    · rw [if_neg e]
      exact h.2.2.2 i hi (by omega) (by omega)
theorem swap_perm (hn : n < L.length) (hk : k < L.length) : ((L.set k L[n]).set n L[k]).Perm L := List.set_set_perm hk hn
/-- The partition is through: the two parts. -/
theorem Part.done (h : Part q L n L.length) : L.take n = L.filter q ∧ L.drop n = L.filter fun x => !q x := by
  have h1 : ∀ x ∈ L.take n, q x = true := fun x hx => by
    obtain ⟨i, hi, rfl⟩ := List.getElem_of_mem hx
    rw [List.length_take] at hi
    rw [List.getElem_take]
    exact h.2.2.1 i (by omega) (by omega)
  have h2 : ∀ x ∈ L.drop n, q x = false := fun x hx => by
    obtain ⟨i, hi, rfl⟩ := List.getElem_of_mem hx
    rw [List.length_drop] at hi
    rw [List.getElem_drop]
    exact h.2.2.2 _ (by omega) (by omega) (by omega)
  constructor
  · conv => rhs; rw [← List.take_append_drop n L, List.filter_append]
    rw [List.filter_eq_self.2 h1, List.filter_eq_nil_iff.2 (fun x hx => by rw [h2 x hx]; simp), List.append_nil]
  · conv => rhs; rw [← List.take_append_drop n L, List.filter_append]
    rw [List.filter_eq_nil_iff.2 (fun x hx => by rw [h1 x hx]; simp), List.filter_eq_self.2 (fun x hx => by rw [h2 x hx]; rfl), List.nil_append]
end
end Go.Proofs.YtigogjlbemkhdaaGreat
