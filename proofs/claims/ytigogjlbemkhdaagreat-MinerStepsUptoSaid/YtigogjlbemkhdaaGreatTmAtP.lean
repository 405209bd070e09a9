/- The different tokens at a place, in order, with their counts: how one more element changes them. No program in sight. -/
import Derived.Test.YtigogjlbemkhdaaGreatTmSum
namespace Go.Proofs.YtigogjlbemkhdaaGreat
open Go.RowKit
def AtW (p : Nat) (l : List TP) (ws : List (List UInt8)) : Prop := ws.Pairwise (· < ·) ∧ ∀ w, w ∈ ws ↔ w ∈ l.map (tkA p)
def aOf (p : Nat) (l : List TP) (ws : List (List UInt8)) : List TP := ws.map fun w => ([w], sat (sumC (partA p w l)))
theorem AtW.nil (p : Nat) : AtW p [] [] := ⟨.nil, by simp⟩
theorem AtW.nodup {p : Nat} {l : List TP} {ws : List (List UInt8)} (h : AtW p l ws) : ws.Nodup := by
  rw [List.nodup_iff_pairwise_ne]
  exact h.1.imp fun {a b} hab e => by subst e; exact List.lt_irrefl _ hab
theorem AtW.perm {p : Nat} {l : List TP} {ws : List (List UInt8)} (h : AtW p l ws) : ws.Perm (tksA p l) :=
  (List.perm_ext_iff_of_nodup h.nodup (nodup_dd _)).2 fun w => by rw [h.2, mem_dd]
theorem part_snoc (p : Nat) (w : List UInt8) (l : List TP) (t : TP) : partA p w (l ++ [t]) = partA p w l ++ (if tkA p t = w then [t] else []) := by
  unfold partA
  rw [List.filter_append]
  congr 1
  by_cases h : tkA p t = w <;> simp [h]
theorem sum_snoc (p : Nat) (w : List UInt8) (l : List TP) (t : TP) : sumC (partA p w (l ++ [t])) = sumC (partA p w l) + (if tkA p t = w then t.2 else 0) := by
  rw [part_snoc, sumC_append]
  congr 1
  by_cases h : tkA p t = w
  · rw [if_pos h, if_pos h]; simp [sumC]
  · rw [if_neg h, if_neg h]; rfl
theorem part_none {p : Nat} {w : List UInt8} {l : List TP} (h : w ∉ l.map (tkA p)) : partA p w l = [] := by
  unfold partA
  rw [List.filter_eq_nil_iff]
  intro t ht hd
  simp only [decide_eq_true_eq] at hd
  exact h (List.mem_map.2 ⟨t, ht, hd⟩)
/-- The token is there already. -/
theorem atw_found {p : Nat} {l : List TP} {ws : List (List UInt8)} {t : TP} {i : Nat} (h : AtW p l ws) (hi : i < ws.length) (hw : ws[i] = tkA p t) (ht : 0 ≤ t.2) :
    AtW p (l ++ [t]) ws ∧ aOf p (l ++ [t]) ws = (aOf p l ws).set i ([tkA p t], sat (sat (sumC (partA p (tkA p t) l)) + t.2)) := by
  have hm : tkA p t ∈ ws := hw ▸ List.getElem_mem hi
  refine ⟨⟨h.1, fun w => ?_⟩, ?_⟩
  · rw [h.2, List.map_append, List.mem_append, List.map_cons, List.map_nil, List.mem_singleton]
    exact ⟨.inl, fun h' => h'.elim id (fun e => by rw [e]; exact (h.2 _).1 hm)⟩
  · apply List.ext_getElem
    · simp [aOf]
    · intro j h1 h2
      have hj : j < ws.length := by simpa [aOf] using h1
      rw [List.getElem_set]
      simp only [aOf, List.getElem_map]
      by_cases e : i = j
      · subst e
        rw [if_pos rfl, hw, sum_snoc, if_pos rfl, sat_add ht]
      · rw [if_neg e, sum_snoc, if_neg, Int.add_zero]
        intro e2
        have h3 : ws[i] = ws[j] := hw.trans e2
        exact e ((List.getElem_inj h.nodup).1 h3)
/-- The token is new. -/
theorem atw_new {p : Nat} {l : List TP} {ws : List (List UInt8)} {t : TP} {i : Nat} (h : AtW p l ws) (hi : i ≤ ws.length) (h1 : ∀ j, (hj : j < ws.length) → j < i → ws[j] < tkA p t) (h2 : ∀ j, (hj : j < ws.length) → i ≤ j → tkA p t < ws[j]) :
    AtW p (l ++ [t]) (ws.take i ++ tkA p t :: ws.drop i) ∧ aOf p (l ++ [t]) (ws.take i ++ tkA p t :: ws.drop i) = (aOf p l ws).take i ++ ([tkA p t], sat (0 + t.2)) :: (aOf p l ws).drop i := by
  have hA : ∀ w ∈ ws.take i, w < tkA p t := fun w hw => by
    obtain ⟨j, hj, rfl⟩ := List.getElem_of_mem hw
    rw [List.length_take] at hj
    rw [List.getElem_take]
    exact h1 j (by omega) (by omega)
  have hB : ∀ w ∈ ws.drop i, tkA p t < w := fun w hw => by
    obtain ⟨j, hj, rfl⟩ := List.getElem_of_mem hw
    rw [List.length_drop] at hj
    rw [List.getElem_drop]
    exact h2 _ (by omega) (by omega)
  have hne : ∀ w ∈ ws, w ≠ tkA p t := fun w hw e => by
    rw [← List.take_append_drop i ws] at hw
    rcases List.mem_append.1 hw with hw | hw
    · exact List.lt_irrefl _ (e ▸ hA w hw)
    · exact List.lt_irrefl _ (e ▸ hB w hw)
  have h' := h.1
  rw [← List.take_append_drop i ws] at h'
  obtain ⟨pA, pB, pAB⟩ := List.pairwise_append.1 h'
  refine ⟨⟨List.pairwise_append.2 ⟨pA, List.pairwise_cons.2 ⟨hB, pB⟩, fun a ha b hb => ?_⟩, fun w => ?_⟩, ?_⟩
  · rcases List.mem_cons.1 hb with rfl | hb
    · exact hA a ha
    · exact pAB a ha b hb
  · have e1 : w ∈ (l ++ [t]).map (tkA p) ↔ w ∈ l.map (tkA p) ∨ w = tkA p t := by simp only [List.map_append, List.mem_append, List.map_cons, List.map_nil, List.mem_singleton]
    rw [e1, ← h.2 w, List.mem_append, List.mem_cons]
    conv => rhs; rw [← List.take_append_drop i ws, List.mem_append]
    constructor
    · rintro (h | h | h)
      · exact .inl (.inl h)
      · exact .inr h
      · exact .inl (.inr h)
    · rintro ((h | h) | h)
      · exact .inl h
      · exact .inr (.inr h)
      · exact .inr (.inl h)
  · have hn : tkA p t ∉ l.map (tkA p) := fun hh => hne _ ((h.2 _).2 hh) rfl
    have key : ∀ v : List (List UInt8), (∀ w ∈ v, w ≠ tkA p t) → (v.map fun w => (([w], sat (sumC (partA p w (l ++ [t])))) : TP)) = v.map fun w => ([w], sat (sumC (partA p w l))) := fun v hv =>
      List.map_congr_left fun w hw => by rw [sum_snoc, if_neg (fun e => hv w hw e.symm), Int.add_zero]
    unfold aOf
    rw [List.map_append, List.map_cons, ← List.map_take, ← List.map_drop, key _ (fun w hw => hne w (List.mem_of_mem_take hw)), key _ (fun w hw => hne w (List.mem_of_mem_drop hw)), sum_snoc, if_pos rfl, part_none hn]
    rfl
end Go.Proofs.YtigogjlbemkhdaaGreat
