/- template.mine: the laws of its recursion. No program in sight. -/
import Derived.Test.YtigogjlbemkhdaaGreatTmMid
namespace Go.Proofs.YtigogjlbemkhdaaGreat
open Go.RowKit
theorem posA_some {n p : Nat} {l : List TP} (h : ∀ j, j < p → splA j l = false) (hp : p < n) (hs : splA p l = true) : posA n l = some p := by
  unfold posA
  rw [List.find?_range_eq_some]
  exact ⟨hs, List.mem_range.2 hp, fun j hj => by rw [h j hj]; rfl⟩
theorem posA_none {n : Nat} {l : List TP} (h : ∀ j, j < n → splA j l = false) : posA n l = none := by
  unfold posA
  rw [List.find?_eq_none]
  intro x hx
  rw [h x (List.mem_range.1 hx)]
  simp
theorem spl_two {p : Nat} {l : List TP} (h : splA p l = true) : 2 ≤ (tksA p l).length ∧ ∀ w ∈ tksA p l, w ≠ [] ∧ 2 ≤ sumC (partA p w l) := by
  unfold splA at h
  simp only [Bool.and_eq_true, decide_eq_true_eq, List.all_eq_true] at h
  exact ⟨h.1.1, h.2⟩
theorem mem_tks {p : Nat} {l : List TP} {w : List UInt8} : w ∈ tksA p l ↔ ∃ t ∈ l, tkA p t = w := by
  unfold tksA
  rw [mem_dd, List.mem_map]
/-- A part of a split group is smaller. -/
theorem part_lt {p : Nat} {l : List TP} (h : splA p l = true) {w : List UInt8} (hw : w ∈ tksA p l) : (partA p w l).length < l.length := by
  obtain ⟨h2, _⟩ := spl_two h
  have hn : (tksA p l).Nodup := nodup_dd _
  obtain ⟨v, hv, hvw⟩ : ∃ v ∈ tksA p l, v ≠ w := by
    by_cases hc : ∀ v ∈ tksA p l, v = w
    · exfalso
      match hm : tksA p l, h2 with
      | a :: b :: r, _ =>
        rw [hm] at hn hc
        have e1 := hc a (by simp)
        have e2 := hc b (by simp)
        subst e1
        subst e2
        simp at hn
    · simp only [Classical.not_forall] at hc
      obtain ⟨v, hv, hne⟩ := hc
      exact ⟨v, hv, hne⟩
  obtain ⟨t, ht, htv⟩ := mem_tks.1 hv
  unfold partA
  rw [List.length_filter_lt_length_iff_exists]
  exact ⟨t, ht, by rw [htv]; simpa using hvw⟩
theorem part_ne {p : Nat} {l : List TP} {w : List UInt8} (hw : w ∈ tksA p l) : partA p w l ≠ [] := by
  obtain ⟨t, ht, htv⟩ := mem_tks.1 hw
  exact List.ne_nil_of_mem (List.mem_filter.2 ⟨ht, by simpa using htv⟩)
/-- What is left when the parts S are taken away. -/
def restA (p : Nat) (S : List (List UInt8)) (l : List TP) : List TP := l.filter fun t => decide (tkA p t ∉ S)
theorem rest_nil (p : Nat) (l : List TP) : restA p [] l = l := by
  unfold restA
  rw [List.filter_eq_self.2]
  intro t _
  simp
theorem rest_part {p : Nat} {S : List (List UInt8)} {l M : List TP} {w : List UInt8} (h : M.Perm (restA p S l)) (hw : w ∉ S) : (partA p w M).Perm (partA p w l) := by
  refine (h.filter _).trans (List.Perm.of_eq ?_)
  unfold restA partA
  rw [List.filter_filter]
  apply List.filter_congr
  intro t _
  by_cases e : tkA p t = w
  · rw [e]; simp [hw]
  · simp [e]
theorem rest_rest {p : Nat} {S : List (List UInt8)} {l M : List TP} {w : List UInt8} (h : M.Perm (restA p S l)) : (M.filter fun t => !decide (tkA p t = w)).Perm (restA p (S ++ [w]) l) := by
  refine (h.filter _).trans (List.Perm.of_eq ?_)
  unfold restA
  rw [List.filter_filter]
  apply List.filter_congr
  intro t _
  simp only [List.mem_append, List.mem_singleton, not_or]
  by_cases e : tkA p t = w <;> by_cases e2 : tkA p t ∈ S <;> simp [e, e2]
theorem mrg_law {p : Nat} {l : List TP} {ws : List (List UInt8)} (hW : AtW p l ws) : mrgT p l = oneW ws := (one_perm hW.perm).symm
theorem oneW_many {ws : List (List UInt8)} (h : 1 < ws.length) : oneW ws = [] := by
  match ws, h with
  | _ :: _ :: _, _ => rfl
/-- The tokens of the templates of a group. -/
theorem tplF_tok (n : Nat) : ∀ (f : Nat) (l : List TP), l ≠ [] → ∀ r ∈ tplF n f l, r.1.length = n ∧ ∀ q w, q < n → (∀ t ∈ l, tkA q t = w) → tkA q r = w := by
  intro f
  induction f with
  | zero => intro l _ r hr; simp [tplF] at hr
  | succ f ih =>
    intro l hl r hr
    unfold tplF at hr
    cases hp : posA n l with
    | none =>
      rw [hp] at hr
      simp only [List.mem_singleton] at hr
      subst hr
      refine ⟨by simp [mrgA], fun q w hq hw => ?_⟩
      have h1 : tkA q (mrgA n l) = mrgT q l := by
        unfold tkA mrgA
        simp [hq]
      rw [h1]
      unfold mrgT
      have hn : (tksA q l).Nodup := nodup_dd _
      have hall : ∀ v ∈ tksA q l, v = w := fun v hv => by obtain ⟨t, ht, e⟩ := mem_tks.1 hv; rw [← e]; exact hw t ht
      obtain ⟨t, ht⟩ := List.exists_mem_of_ne_nil l hl
      have hm : tkA q t ∈ tksA q l := mem_tks.2 ⟨t, ht, rfl⟩
      match hk : tksA q l with
      | [] => rw [hk] at hm; simp at hm
      | [v] => rw [hk] at hall; exact hall v (by simp)
      | a :: b :: c =>
        rw [hk] at hall hn
        have e1 := hall a (by simp)
        have e2 := hall b (by simp)
        subst e1
        subst e2
        simp at hn
    | some p =>
      rw [hp] at hr
      simp only [List.mem_flatMap] at hr
      obtain ⟨v, hv, hr⟩ := hr
      obtain ⟨h1, h2⟩ := ih _ (part_ne hv) r hr
      exact ⟨h1, fun q w hq hw => h2 q w hq fun t ht => hw t (List.mem_filter.1 ht).1⟩
/-- No two templates of a group have the same tokens. -/
theorem tplF_nodup (n : Nat) : ∀ (f : Nat) (l : List TP), l ≠ [] → ((tplF n f l).map (·.1)).Nodup := by
  intro f
  induction f with
  | zero => intro l _; simp [tplF]
  | succ f ih =>
    intro l hl
    unfold tplF
    cases hp : posA n l with
    | none => simp
    | some p =>
      have hp2 : (List.range n).find? (fun p => splA p l) = some p := hp
      have hs : splA p l = true := List.find?_some (p := fun p => splA p l) hp2
      have hpn : p < n := List.mem_range.1 (List.mem_of_find?_eq_some hp2)
      have hn : (tksA p l).Nodup := nodup_dd _
      simp only [List.map_flatMap]
      rw [List.Nodup, List.pairwise_flatMap]
      refine ⟨fun v hv => ih _ (part_ne hv), ?_⟩
      rw [← List.pairwise_map (f := fun x => x) (R := fun a₁ a₂ => ∀ x ∈ List.map (·.1) (tplF n f (partA p a₁ l)), ∀ y ∈ List.map (·.1) (tplF n f (partA p a₂ l)), x ≠ y), List.map_id']
      refine List.Pairwise.imp_of_mem (fun {a b} ha hb hab x hx y hy e => ?_) hn
      obtain ⟨r, hr, rfl⟩ := List.mem_map.1 hx
      obtain ⟨s, hs', hrs⟩ := List.mem_map.1 hy
      have e1 := (tplF_tok n f _ (part_ne ha) r hr).2 p a hpn fun t ht => by simpa using (List.mem_filter.1 ht).2
      have e2 := (tplF_tok n f _ (part_ne hb) s hs').2 p b hpn fun t ht => by simpa using (List.mem_filter.1 ht).2
      apply hab
      rw [← e1, ← e2]
      unfold tkA
      rw [hrs, ← e]
end Go.Proofs.YtigogjlbemkhdaaGreat
