/- A region that draws its order, by an invariant: each operation is shown once, whatever went before. No program in sight. -/
import Derived.Test.YtgegmefnbkcdkaaLib
import Derived.Orders
namespace Go.Proofs.Ytgegmefnbkcdkaa
open Go.RowKit
/-- How many operations are still to come. -/
def toCome (n : Nat) (listed : Array Bool) : Nat := ((List.range n).filter fun i => !listed.getD i true).length
theorem filter_len_lt {α : Type} (p q : α → Bool) (l : List α) (h : ∀ x, q x = true → p x = true) (x : α) (hx : x ∈ l) (hp : p x = true) (hq : q x = false) : (l.filter q).length < (l.filter p).length := by
  induction l with
  | nil => simp at hx
  | cons y l ih =>
    have hle : (l.filter q).length ≤ (l.filter p).length := by
      clear ih hx
      induction l with
      | nil => simp
      | cons z l ih =>
        by_cases hqz : q z = true
        · simp [hqz, h z hqz]; exact ih
        · by_cases hpz : p z = true <;> simp [hqz, hpz] <;> omega
    rcases List.mem_cons.1 hx with rfl | hx
    · simp [hp, hq]; omega
    · have := ih hx
      by_cases hqy : q y = true
      · simp [hqy, h y hqy]; exact this
      · by_cases hpy : p y = true <;> simp [hqy, hpy] <;> omega
theorem ready_mem {md : Region.Mode} {ops : Array Oper} {listed : Array Bool} {i : Nat} (h : i ∈ Region.ready md ops listed) : i < ops.size ∧ listed.getD i true = false := by
  simp only [Region.ready, List.mem_filter, List.mem_range, Bool.and_eq_true, Bool.not_eq_true'] at h
  exact ⟨h.1, h.2.1⟩
theorem toCome_lt {md : Region.Mode} {ops : Array Oper} {listed : Array Bool} {i : Nat} (h : i ∈ Region.ready md ops listed) : toCome ops.size (listed.setIfInBounds i true) < toCome ops.size listed := by
  obtain ⟨h1, h2⟩ := ready_mem h
  have hil : i < listed.size := by
    by_cases hl : i < listed.size
    · exact hl
    · rw [Array.getD, dif_neg hl] at h2; cases h2
  refine filter_len_lt _ _ _ (fun x hx => ?_) i (List.mem_range.2 h1) (by simp [h2]) (by simp [Array.getD, hil])
  by_cases e : i = x
  · subst e; simp [Array.getD, hil] at hx
  · by_cases hxl : x < listed.size
    · simpa [Array.getD, hxl, Array.getElem_setIfInBounds, e] using hx
    · simp [Array.getD, hxl] at hx
/-- The rule. -/
theorem wpAny_inv {P : Program} {md : Region.Mode} {ops : Array Oper} {Q : Exit → Act → World → Prop} (I : Array Bool → Act → World → Prop)
    (hstep : ∀ (listed : Array Bool) (a : Act) (w : World) (i : Nat), I listed a w → i ∈ Region.ready md ops listed → wpOp P ops Q i (I (listed.setIfInBounds i true)) a w)
    (hend : ∀ (listed : Array Bool) (a : Act) (w : World), I listed a w → Region.ready md ops listed = [] → Q .normal a w) :
    ∀ (fuel : Nat) (listed : Array Bool) (a : Act) (w : World), I listed a w → toCome ops.size listed ≤ fuel → wpAny P md ops Q fuel listed a w := by
  intro fuel
  induction fuel with
  | zero =>
    intro listed a w h hf
    have hr : Region.ready md ops listed = [] := by
      cases hr : Region.ready md ops listed with
      | nil => rfl
      | cons i rs =>
        have := toCome_lt (md := md) (ops := ops) (listed := listed) (i := i) (by rw [hr]; exact List.mem_cons_self ..)
        omega
    exact ⟨hr, hend _ _ _ h hr⟩
  | succ fuel ih =>
    intro listed a w h hf
    refine ⟨fun hr => hend _ _ _ h hr, fun i hi => ?_⟩
    have hlt := toCome_lt hi
    exact wpOp_mono (fun a' w' h' => ih _ a' w' h' (by omega)) (hstep listed a w i h hi)
theorem wp_region_inv {P : Program} {ops : Array Oper} {Q : Exit → Act → World → Prop} {id : Nat} {a : Act} {w : World} (hm : P.follows .mixedOrders = true) (I : Array Bool → Act → World → Prop)
    (h0 : I (Array.replicate ops.size false) a { w with drawn := w.drawn + 1 })
    (hstep : ∀ (listed : Array Bool) (a : Act) (w : World) (i : Nat), I listed a w → i ∈ Region.ready .any ops listed → wpOp P ops Q i (I (listed.setIfInBounds i true)) a w)
    (hend : ∀ (listed : Array Bool) (a : Act) (w : World), I listed a w → Region.ready .any ops listed = [] → Q .normal a w) : (Code.region id ops true).wp P Q a w :=
  wp_region_any hm (wpAny_inv I hstep hend _ _ _ _ h0 (by
    refine Nat.le_trans (List.length_filter_le _ _) ?_
    simp))
end Go.Proofs.Ytgegmefnbkcdkaa
