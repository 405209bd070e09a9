/- The order of tokens, and states as plain data. No program in sight. -/
import Derived.Test.YtibljgnajbblaaaCmpL
namespace Go.Proofs.Ytibljgnajbblaaa
open Go.RowKit
theorem cmpB_lt {a b : List UInt8} : cmpB a b < 0 ↔ a < b := by
  unfold cmpB
  by_cases h : a < b
  · rw [if_pos h]; exact ⟨fun _ => h, fun _ => by omega⟩
  · rw [if_neg h]
    split
    · exact ⟨fun h => by omega, fun h' => absurd h' h⟩
    · exact ⟨fun h => by omega, fun h' => absurd h' h⟩
theorem cmpB_eq {a b : List UInt8} : cmpB a b = 0 ↔ a = b := by
  unfold cmpB
  by_cases h : a < b
  · rw [if_pos h]; exact ⟨fun h => by omega, fun e => by subst e; exact absurd h (List.lt_irrefl a)⟩
  · rw [if_neg h]
    by_cases h2 : a = b
    · rw [if_pos h2]; exact ⟨fun _ => h2, fun _ => rfl⟩
    · rw [if_neg h2]; exact ⟨fun h => by omega, fun e => absurd e h2⟩
theorem cmpB_flip {a b : List UInt8} : cmpB a b < 0 ↔ 0 < cmpB b a := by
  rw [cmpB_lt]
  unfold cmpB
  constructor
  · intro h
    rw [if_neg (List.lt_asymm h), if_neg (by intro e; subst e; exact List.lt_irrefl _ h)]
    omega
  · intro h
    by_cases h1 : b < a
    · rw [if_pos h1] at h; omega
    · rw [if_neg h1] at h
      by_cases h2 : b = a
      · rw [if_pos h2] at h; omega
      · rcases Decidable.em (a < b) with h3 | h3
        · exact h3
        · exact absurd (List.le_antisymm (List.not_lt.1 h3) (List.not_lt.1 h1)) h2
theorem cmpL_eq : ∀ {l m : List (List UInt8)}, cmpL l m = 0 ↔ l = m
  | [], [] => by simp [cmpL]
  | [], _ :: _ => by simp [cmpL]
  | _ :: _, [] => by simp [cmpL]
  | a :: l, b :: m => by
    unfold cmpL
    by_cases h : cmpB a b = 0
    · rw [if_pos h, cmpL_eq, List.cons.injEq, cmpB_eq.1 h]; simp
    · rw [if_neg h, List.cons.injEq]
      exact ⟨fun e => absurd e h, fun e => absurd (cmpB_eq.2 e.1) h⟩
theorem cmpL_flip : ∀ {l m : List (List UInt8)}, cmpL l m < 0 ↔ 0 < cmpL m l
  | [], [] => by simp [cmpL]
  | [], _ :: _ => by simp [cmpL]
  | _ :: _, [] => by simp [cmpL]
  | a :: l, b :: m => by
    unfold cmpL
    by_cases h : cmpB a b = 0
    · rw [if_pos h, if_pos (cmpB_eq.2 (cmpB_eq.1 h).symm)]; exact cmpL_flip
    · rw [if_neg h, if_neg (fun e => h (cmpB_eq.2 (cmpB_eq.1 e).symm))]; exact cmpB_flip
theorem cmpL_trans : ∀ {l m n : List (List UInt8)}, cmpL l m < 0 → cmpL m n < 0 → cmpL l n < 0
  | [], [], _ => by intro h; simp [cmpL] at h
  | _ :: _, [], _ => by intro h; simp [cmpL] at h
  | [], _ :: _, [] => by intro _ h; simp [cmpL] at h
  | [], _ :: _, _ :: _ => by intro _ _; simp [cmpL]
  | _ :: _, _ :: _, [] => by intro _ h; simp [cmpL] at h
  | a :: l, b :: m, c :: n => by
    unfold cmpL
    intro h1 h2
    by_cases e1 : cmpB a b = 0
    · have := cmpB_eq.1 e1
      subst this
      by_cases e2 : cmpB a c = 0
      · rw [if_pos e1] at h1; rw [if_pos e2] at h2 ⊢; exact cmpL_trans h1 h2
      · rw [if_neg e2] at h2 ⊢; exact h2
    · rw [if_neg e1] at h1
      by_cases e2 : cmpB b c = 0
      · have := cmpB_eq.1 e2
        subst this
        rw [if_neg e1]; exact h1
      · rw [if_neg e2] at h2
        have h3 := cmpB_lt.2 (List.lt_trans (cmpB_lt.1 h1) (cmpB_lt.1 h2))
        rw [if_neg (by omega)]; exact h3
theorem cmpI_lt {a b : Int} : cmpI a b < 0 ↔ a < b := by unfold cmpI; (repeat split) <;> omega
theorem cmpI_eq {a b : Int} : cmpI a b = 0 ↔ a = b := by unfold cmpI; (repeat split) <;> omega
theorem cmpI_gt {a b : Int} : 0 < cmpI a b ↔ b < a := by unfold cmpI; (repeat split) <;> omega
def cmpT (T S : List (List UInt8)) : Int := if cmpI T.length S.length = 0 then cmpL T S else cmpI T.length S.length
theorem cmpT_eq {T S : List (List UInt8)} : cmpT T S = 0 ↔ T = S := by
  unfold cmpT
  by_cases h : cmpI T.length S.length = 0
  · rw [if_pos h]; exact cmpL_eq
  · rw [if_neg h]; exact ⟨fun e => absurd e h, fun e => absurd (by subst e; exact cmpI_eq.2 rfl) h⟩
theorem cmpT_flip {T S : List (List UInt8)} : cmpT T S < 0 ↔ 0 < cmpT S T := by
  unfold cmpT
  by_cases h : cmpI T.length S.length = 0
  · rw [if_pos h, if_pos (cmpI_eq.2 (cmpI_eq.1 h).symm)]; exact cmpL_flip
  · rw [if_neg h, if_neg (fun e => h (cmpI_eq.2 (cmpI_eq.1 e).symm)), cmpI_lt, cmpI_gt]
theorem cmpT_trans {T S U : List (List UInt8)} (h1 : cmpT T S < 0) (h2 : cmpT S U < 0) : cmpT T U < 0 := by
  unfold cmpT at h1 h2 ⊢
  by_cases e1 : cmpI T.length S.length = 0
  · rw [if_pos e1] at h1
    have q1 := cmpI_eq.1 e1
    by_cases e2 : cmpI S.length U.length = 0
    · rw [if_pos e2] at h2
      have q2 := cmpI_eq.1 e2
      rw [if_pos (cmpI_eq.2 (by omega))]
      exact cmpL_trans h1 h2
    · rw [if_neg e2] at h2
      have q2 := cmpI_lt.1 h2
      rw [if_neg (fun e => by have := cmpI_eq.1 e; omega)]
      exact cmpI_lt.2 (by omega)
  · rw [if_neg e1] at h1
    have q1 := cmpI_lt.1 h1
    by_cases e2 : cmpI S.length U.length = 0
    · have q2 := cmpI_eq.1 e2
      rw [if_neg (fun e => by have := cmpI_eq.1 e; omega)]
      exact cmpI_lt.2 (by omega)
    · rw [if_neg e2] at h2
      have q2 := cmpI_lt.1 h2
      rw [if_neg (fun e => by have := cmpI_eq.1 e; omega)]
      exact cmpI_lt.2 (by omega)
theorem cmpT_self (T : List (List UInt8)) : cmpT T T = 0 := cmpT_eq.2 rfl
/-- Tokens with a count. -/
abbrev TP := List (List UInt8) × Int
/-- In strictly ascending order, all counts positive. -/
def Srt (L : List TP) : Prop := L.Pairwise fun a b => cmpT a.1 b.1 < 0
def Pos (L : List TP) : Prop := ∀ t ∈ L, 1 ≤ t.2
theorem Srt.head {t : TP} {L : List TP} (h : Srt (t :: L)) : ∀ x ∈ L, cmpT t.1 x.1 < 0 := (List.pairwise_cons.1 h).1
/-- How often tokens are counted. -/
def cnt : List TP → List (List UInt8) → Int
  | [], _ => 0
  | t :: L, U => (if t.1 = U then t.2 else 0) + cnt L U
/-- All the lines of a state. -/
def sumP (L : List TP) : Int := (L.map (·.2)).sum
theorem sumP_cons (t : TP) (L : List TP) : sumP (t :: L) = t.2 + sumP L := by simp [sumP]
theorem sumP_len {L : List TP} (hp : Pos L) : (L.length : Int) ≤ sumP L := by
  induction L with
  | nil => simp [sumP]
  | cons t L ih =>
    rw [sumP_cons, List.length_cons]
    have h1 := hp t List.mem_cons_self
    have h2 := ih fun x hx => hp x (List.mem_cons_of_mem _ hx)
    omega
end Go.Proofs.Ytibljgnajbblaaa
