/- miner.search and miner.add. -/
import Derived.Test.YtibljgnajbblaaaTmSearch
import Derived.Test.YtibljgnajbblaaaInsSg
namespace Go.Proofs.Ytibljgnajbblaaa
open Go.RowKit
def st (L : List Tm) : List TP := L.map fun t => (strs t.tk, t.ct)
theorem st_get {L : List Tm} {j : Nat} (h : j < L.length) : (st L)[j]? = some (strs L[j].tk, L[j].ct) := by simp [st, h]
theorem st_len (L : List Tm) : (st L).length = L.length := by simp [st]
theorem tms_append (A B : List Tm) : tms (A ++ B) = tms A ++ tms B := by simp [tms]
theorem tms_take (L : List Tm) (i : Nat) (h : i ≤ L.length) : (tms L).take (i * 2) = tms (L.take i) := by
  have : tms L = tms (L.take i) ++ tms (L.drop i) := by rw [← tms_append, List.take_append_drop]
  rw [this]
  have hl : (tms (L.take i)).length = i * 2 := by rw [tms_len, List.length_take, Nat.min_eq_left h]
  rw [← hl, List.take_left]
theorem tms_drop (L : List Tm) (i : Nat) (h : i ≤ L.length) : (tms L).drop (i * 2) = tms (L.drop i) := by
  have : tms L = tms (L.take i) ++ tms (L.drop i) := by rw [← tms_append, List.take_append_drop]
  rw [this]
  have hl : (tms (L.take i)).length = i * 2 := by rw [tms_len, List.length_take, Nat.min_eq_left h]
  rw [← hl, List.drop_left]
theorem tms_set {L : List Tm} {i : Nat} (h : i < L.length) (c : Int) : (tms L).set (i * 2 + 1) (.int .i64 c) = tms (L.set i ⟨L[i].tv, L[i].tk, c⟩) := by
  have e1 : L = L.take i ++ [L[i]] ++ L.drop (i + 1) := by rw [List.append_assoc, List.singleton_append, ← List.drop_eq_getElem_cons h, List.take_append_drop]
  have hl : (tms (L.take i)).length = i * 2 := by rw [tms_len, List.length_take, Nat.min_eq_left (by omega)]
  have e2 : L.set i ⟨L[i].tv, L[i].tk, c⟩ = L.take i ++ [⟨L[i].tv, L[i].tk, c⟩] ++ L.drop (i + 1) := by rw [List.set_eq_take_append_cons_drop, if_pos h]; simp
  rw [e2]
  have e3 : tms L = tms (L.take i) ++ (tmV L[i] ++ tms (L.drop (i + 1))) := by
    have := congrArg tms e1
    rw [tms_append, tms_append, List.append_assoc] at this
    rw [this]; simp [tms]
  rw [e3, tms_append, tms_append, List.append_assoc, List.set_append_right _ _ (by omega), hl, show i * 2 + 1 - i * 2 = 1 by omega]
  simp [tmV, tms]
theorem tms_one (L : List Tm) (h : ∀ t ∈ L, ∃ A n c, t.tv = .slice A n c) : ∀ u ∈ tms L, u.oneCell' = true := by
  intro u hu
  unfold tms at hu
  obtain ⟨t, ht, hu⟩ := List.mem_flatMap.1 hu
  obtain ⟨A, n, c, hv⟩ := h t ht
  simp only [tmV, List.mem_cons, List.not_mem_nil, or_false] at hu
  rcases hu with rfl | rfl
  · rw [hv]; rfl
  · rfl
end Go.Proofs.Ytibljgnajbblaaa
