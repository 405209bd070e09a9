/- Plain laws of tallies: a list stays in order when one more is counted. -/
import Derived.Test.YtkjhnipjhefndaaRefTal
namespace Go.Proofs.Ytkjhnipjhefndaa
open Go.RowKit

structure TlOk (B : Int) (t : Tl) : Prop where
  h0 : 1 ≤ t.host
  h1 : t.host ≤ 2
  r : t.rule.size ≤ 32
  l0 : 0 ≤ t.lines
  l1 : t.lines ≤ B
theorem TlOk.more {B B' : Int} {t : Tl} (h : TlOk B t) (hB : B ≤ B') : TlOk B' t := ⟨h.h0, h.h1, h.r, h.l0, Int.le_trans h.l1 hB⟩
theorem asc_map {α β : Type} (f : α → β) (less : α → α → Bool) (less' : β → β → Bool) (h : ∀ a b, less a b = less' (f a) (f b)) : ∀ l : List α, asc less l = asc less' (l.map f)
  | [] => rfl
  | [_] => rfl
  | a :: b :: l => by
    rw [asc, List.map_cons, List.map_cons, asc, h, asc_map f less less' h (b :: l), List.map_cons]
theorem asc_ins {α : Type} (less : α → α → Bool) : ∀ (l : List α) (i : Nat) (x : α), asc less l = true → i ≤ l.length → (∀ j, (h : j < l.length) → j < i → less l[j] x = true) → ((h : i < l.length) → less x l[i] = true) →
    asc less (l.take i ++ x :: l.drop i) = true
  | [], 0, x, _, _, _, _ => rfl
  | a :: l, 0, x, h, _, _, h2 => by
    rw [List.take_zero, List.drop_zero, List.nil_append, asc, Bool.and_eq_true]
    exact ⟨h2 (by simp), h⟩
  | a :: l, i + 1, x, h, hi, h1, h2 => by
    have ht : asc less l = true := by
      cases l with
      | nil => rfl
      | cons b l => rw [asc, Bool.and_eq_true] at h; exact h.2
    have ih := asc_ins less l i x ht (by simpa using hi) (fun j hj hlt => by have := h1 (j + 1) (by simpa using hj) (by omega); simpa using this) (fun hlt => by have := h2 (by simpa using hlt); simpa using this)
    rw [List.take_succ_cons, List.drop_succ_cons, List.cons_append]
    cases hr : l.take i ++ x :: l.drop i with
    | nil => rfl
    | cons c r =>
      rw [asc, Bool.and_eq_true]
      refine ⟨?_, by rw [← hr]; exact ih⟩
      cases i with
      | zero =>
        rw [List.take_zero, List.nil_append] at hr
        injection hr with e _
        subst e
        have := h1 0 (by simp) (by omega)
        simpa using this
      | succ i =>
        cases l with
        | nil => simp at hi
        | cons b l =>
          rw [List.take_succ_cons, List.cons_append] at hr
          injection hr with e _
          subst e
          rw [asc, Bool.and_eq_true] at h
          exact h.1
def tkey (t : Tl) : Int × ByteArray := (t.host, t.rule)
def kless (p q : Int × ByteArray) : Bool := decide (p.1 < q.1) || (decide (p.1 = q.1) && strLess p.2 q.2)
theorem asc_key {l l' : List Tl} (h : l.map tkey = l'.map tkey) : asc tlLess l = asc tlLess l' := by
  have hk : ∀ a b : Tl, tlLess a b = kless (tkey a) (tkey b) := fun _ _ => rfl
  rw [asc_map tkey _ _ hk l, asc_map tkey _ _ hk l', h]
theorem asc_lines (l : List Tl) (i : Nat) (h : i < l.length) (v : Int) : asc tlLess (l.set i ⟨l[i].host, l[i].rule, v⟩) = asc tlLess l := by
  refine asc_key (List.ext_getElem (by simp) fun k h1 h2 => ?_)
  simp only [List.getElem_map, List.getElem_set]
  split
  · rename_i e; subst e; rfl
  · rfl
theorem tl_gt {a b : Tl} (h : tlLess a b = false) (h2 : ¬ (a.host = b.host ∧ a.rule.toList = b.rule.toList)) : tlLess b a = true := by
  unfold tlLess strLess at *
  have hb := bytes_le a.rule.toList b.rule.toList
  rcases Int.lt_trichotomy a.host b.host with h3 | h3 | h3
  · rw [decide_eq_true h3] at h; simp at h
  · rw [decide_eq_false (show ¬ a.host < b.host by omega), decide_eq_true h3] at h
    rw [decide_eq_false (show ¬ b.host < a.host by omega), decide_eq_true h3.symm]
    simp only [Bool.false_or, Bool.true_and] at h ⊢
    rw [h, Bool.false_or] at hb
    have he : (a.rule.toList == b.rule.toList) = false := by
      rw [beq_eq_false_iff_ne]
      exact fun e => h2 ⟨h3, e⟩
    rw [he] at hb
    cases hq : Op.bytesLess b.rule.toList a.rule.toList with
    | true => rfl
    | false => rw [hq] at hb; cases hb
  · rw [decide_eq_true h3]; rfl
end Go.Proofs.Ytkjhnipjhefndaa
