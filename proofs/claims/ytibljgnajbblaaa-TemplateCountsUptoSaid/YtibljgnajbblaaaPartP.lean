/- The law of partition: each element fits exactly one template of its group, and the template's count is the sum of those that fit it. No program in sight. -/
import Derived.Test.YtibljgnajbblaaaTmMineP
namespace Go.Proofs.Ytibljgnajbblaaa
open Go.RowKit
/-- Whether tokens fit a template. -/
def fitA (r : TP) (T : List (List UInt8)) : Bool := decide (r.1.length = T.length) && (List.range T.length).all fun q => decide (r.1.getD q [] = []) || decide (r.1.getD q [] = T.getD q [])
theorem fitA_iff {r : TP} {T : List (List UInt8)} : fitA r T = true ↔ r.1.length = T.length ∧ ∀ q, q < T.length → r.1.getD q [] = [] ∨ r.1.getD q [] = T.getD q [] := by
  unfold fitA
  simp only [Bool.and_eq_true, decide_eq_true_eq, List.all_eq_true, Bool.or_eq_true, List.mem_range]
theorem oneW_of {l : List TP} {p : Nat} {t : TP} (ht : t ∈ l) : mrgT p l = [] ∨ mrgT p l = tkA p t := by
  have hm : tkA p t ∈ tksA p l := mem_tks.2 ⟨t, ht, rfl⟩
  unfold mrgT
  match hk : tksA p l with
  | [] => rw [hk] at hm; cases hm
  | [w] =>
    rw [hk] at hm
    exact .inr (List.mem_singleton.1 hm).symm
  | _ :: _ :: _ => exact .inl rfl
theorem flatMap_one {α β : Type} {F : α → List β} {w : α} : ∀ {ws : List α}, ws.Nodup → w ∈ ws → (∀ v ∈ ws, v ≠ w → F v = []) → ws.flatMap F = F w
  | [], _, h, _ => by cases h
  | x :: ws, hn, hw, hF => by
    have hx := List.nodup_cons.1 hn
    rw [List.flatMap_cons]
    rcases List.mem_cons.1 hw with h | h
    · subst h
      have : ws.flatMap F = [] := by
        rw [List.flatMap_eq_nil_iff]
        intro v hv
        exact hF v (by simp [hv]) (fun e => hx.1 (e ▸ hv))
      rw [this, List.append_nil]
    · rw [hF x (by simp) (fun e => hx.1 (e ▸ h)), List.nil_append]
      exact flatMap_one hx.2 h fun v hv => hF v (by simp [hv])
theorem filter_flatMap {α β : Type} (q : β → Bool) (F : α → List β) : ∀ ws : List α, (ws.flatMap F).filter q = ws.flatMap fun w => (F w).filter q
  | [] => rfl
  | x :: ws => by rw [List.flatMap_cons, List.flatMap_cons, List.filter_append, filter_flatMap q F ws]
theorem part_fits (n : Nat) : ∀ (f : Nat) (l : List TP), l.length ≤ f → (∀ t ∈ l, t.1.length = n) →
    (∀ t ∈ l, ((tplF n f l).filter fun r => fitA r t.1).length = 1) ∧ (l ≠ [] → ∀ r ∈ tplF n f l, r.2 = sat (sumC (l.filter fun t => fitA r t.1))) := by
  intro f
  induction f with
  | zero =>
    intro l hl _
    have : l = [] := List.eq_nil_of_length_eq_zero (by omega)
    subst this
    exact ⟨(fun t ht => by cases ht), fun h => absurd rfl h⟩
  | succ f ih =>
    intro l hl hn
    cases hp : posA n l with
    | none =>
      have e : tplF n (f + 1) l = [mrgA n l] := by unfold tplF; rw [hp]
      have hfit : ∀ t ∈ l, fitA (mrgA n l) t.1 = true := fun t ht => by
        rw [fitA_iff]
        refine ⟨by simp [mrgA, hn t ht], fun q hq => ?_⟩
        rw [hn t ht] at hq
        have h1 : (mrgA n l).1.getD q [] = mrgT q l := by simp [mrgA, hq]
        rw [h1]
        exact oneW_of ht
      rw [e]
      refine ⟨fun t ht => ?_, fun _ r hr => ?_⟩
      · have h := hfit t ht
        simp [h]
      · rw [List.mem_singleton.1 hr, List.filter_eq_self.2 hfit]
        rfl
    | some p =>
      have e : tplF n (f + 1) l = (tksA p l).flatMap fun w => tplF n f (partA p w l) := by
        rw [tplF, hp]
      have hp2 : (List.range n).find? (fun p => splA p l) = some p := hp
      have hs : splA p l = true := List.find?_some (p := fun p => splA p l) hp2
      have hpn : p < n := List.mem_range.1 (List.mem_of_find?_eq_some hp2)
      have hnd : (tksA p l).Nodup := nodup_dd _
      have hsub : ∀ w, ∀ t ∈ partA p w l, t ∈ l ∧ tkA p t = w := fun w t ht => by
        have h := List.mem_filter.1 ht
        exact ⟨h.1, by simpa using h.2⟩
      have hih : ∀ w ∈ tksA p l, _ := fun w hw => ih (partA p w l) (by have := part_lt hs hw; omega) (fun t ht => hn t (hsub w t ht).1)
      have htok : ∀ w ∈ tksA p l, ∀ r ∈ tplF n f (partA p w l), r.1.length = n ∧ tkA p r = w := fun w hw r hr => by
        obtain ⟨h1, h2⟩ := tplF_tok n f _ (part_ne hw) r hr
        exact ⟨h1, h2 p w hpn fun t ht => (hsub w t ht).2⟩
      have hfw : ∀ w ∈ tksA p l, ∀ r ∈ tplF n f (partA p w l), ∀ t ∈ l, fitA r t.1 = true → tkA p t = w := fun w hw r hr t ht hf => by
        have h2 := (fitA_iff.1 hf).2 p (by rw [hn t ht]; exact hpn)
        have h3 : r.1.getD p [] = w := (htok w hw r hr).2
        rw [h3] at h2
        rcases h2 with h2 | h2
        · exact absurd h2 ((spl_two hs).2 w hw).1
        · exact h2.symm
      rw [e]
      refine ⟨fun t ht => ?_, fun _ r hr => ?_⟩
      · have hm : tkA p t ∈ tksA p l := mem_tks.2 ⟨t, ht, rfl⟩
        rw [filter_flatMap, flatMap_one hnd hm (fun v hv hne => ?_)]
        · exact (hih _ hm).1 t (List.mem_filter.2 ⟨ht, by simp⟩)
        · rw [List.filter_eq_nil_iff]
          intro r hr hf
          exact hne (hfw v hv r hr t ht hf).symm
      · obtain ⟨w, hw, hr⟩ := List.mem_flatMap.1 hr
        rw [(hih w hw).2 (part_ne hw) r hr]
        congr 2
        unfold partA
        rw [List.filter_filter]
        apply List.filter_congr
        intro t ht
        cases hf : fitA r t.1 with
        | false => rfl
        | true => simp [hfw w hw r hr t ht hf]
/-- The templates of elements: one fits, and its count. -/
theorem ofA_fits {l : List TP} (h1 : ∀ t ∈ l, 1 ≤ t.1.length ∧ t.1.length ≤ 60 ∧ 1 ≤ t.2) (hl : l.length ≤ FUEL) :
    (∀ t ∈ l, ((ofA l).filter fun r => fitA r t.1).length = 1) ∧ ∀ r ∈ ofA l, r.2 = sat (sumC (l.filter fun t => fitA r t.1)) := by
  have hgl : ∀ n, (grpA n l).length ≤ FUEL := fun n => Nat.le_trans (List.length_filter_le _ _) hl
  have hgn : ∀ n, ∀ t ∈ grpA n l, t ∈ l ∧ t.1.length = n := fun n t ht => by
    have h := List.mem_filter.1 ht
    simp only [Bool.and_eq_true, decide_eq_true_eq] at h
    exact ⟨h.1, h.2.1⟩
  have hin : ∀ t ∈ l, t ∈ grpA t.1.length l := fun t ht => List.mem_filter.2 ⟨ht, by simp [(h1 t ht).2.2]⟩
  have hlen : ∀ n, n ≠ 0 → grpA n l ≠ [] → ∀ r ∈ tplF n FUEL (grpA n l), r.1.length = n := fun n _ hne r hr => (tplF_tok n FUEL _ hne r hr).1
  refine ⟨fun t ht => ?_, fun r hr => ?_⟩
  · have hb := h1 t ht
    have hne : grpA t.1.length l ≠ [] := List.ne_nil_of_mem (hin t ht)
    unfold ofA
    rw [filter_flatMap, flatMap_one (w := t.1.length) List.nodup_range (List.mem_range.2 (by omega)) (fun n hn hnn => ?_)]
    · rw [if_neg (fun hc => hc.elim (fun h => by omega) hne)]
      exact (part_fits _ FUEL _ (hgl _) (fun u hu => (hgn _ u hu).2)).1 t (hin t ht)
    · rw [List.filter_eq_nil_iff]
      intro r hr hf
      split at hr
      · cases hr
      · rename_i hc
        simp only [not_or] at hc
        have h3 := hlen n hc.1 hc.2 r hr
        have h4 := (fitA_iff.1 hf).1
        omega
  · unfold ofA at hr
    obtain ⟨n, _, hr⟩ := List.mem_flatMap.1 hr
    split at hr
    · cases hr
    · rename_i hc
      simp only [not_or] at hc
      rw [(part_fits n FUEL _ (hgl n) (fun u hu => (hgn n u hu).2)).2 hc.2 r hr]
      congr 2
      unfold grpA
      rw [List.filter_filter]
      apply List.filter_congr
      intro t ht
      cases hf : fitA r t.1 with
      | false => simp
      | true =>
        have h3 := hlen n hc.1 hc.2 r hr
        have h4 := (fitA_iff.1 hf).1
        simp [← h4, h3, (h1 t ht).2.2]
end Go.Proofs.Ytibljgnajbblaaa
