/- The order of tokens, and states as plain data. No program in sight. -/
import Derived.Test.YtigogjlbemkhdaaGreatCmpL
namespace Go.Proofs.YtigogjlbemkhdaaGreat
open Go.RowKit
theorem cmpB_lt {a b : List UInt8} : cmpB a b < 0 ↔ a < b := by
  unfold cmpB
  by_cases h : a < b
  · rw [if_pos h]; exact ⟨fun _ => h, fun _ => by omega⟩
  · rw [if_neg h]
    split
    · exact ⟨fun h => by omega, fun h' => absurd h' h⟩
    · exact ⟨fun h => by omega, fun h' => absurd h' h⟩
theorem cmpB_eq {a b : List UInt8} : cmpB a b = 0 ↔ a = b := by
  unfold cmpB
  by_cases h : a < b
  · rw [if_pos h]; exact ⟨fun h => by omega, fun e => by subst e; exact absurd h (List.lt_irrefl a)⟩
  · rw [if_neg h]
    by_cases h2 : a = b
    · rw [if_pos h2]; exact ⟨fun _ => h2, fun _ => rfl⟩
    · rw [if_neg h2]; exact ⟨fun h => by omega, fun e => absurd e h2⟩
theorem cmpB_flip {a b : List UInt8} : cmpB a b < 0 ↔ 0 < cmpB b a := by
  rw [cmpB_lt]
  unfold cmpB
  constructor
  · intro h
    rw [if_neg (List.lt_asymm h), if_neg (by intro e; subst e; exact List.lt_irrefl _ h)]
    omega
  · intro h
    by_cases h1 : b < a
    · rw [if_pos h1] at h; omega
    · rw [if_neg h1] at h
      by_cases h2 : b = a
      · rw [if_pos h2] at h; omega
      · rcases Decidable.em (a < b) with h3 | h3
        · exact h3
        · exact absurd (List.le_antisymm (List.not_lt.1 h3) (List.not_lt.1 h1)) h2
theorem cmpL_eq : ∀ {l m : List (List UInt8)}, cmpL l m = 0 ↔ l = m
  | [], [] => by simp [cmpL]
  | [], _ :: _ => by simp [cmpL]
  | _ :: _, [] => by simp [cmpL]
  | a :: l, b :: m => by
    unfold cmpL
    by_cases h : cmpB a b = 0
    · rw [if_pos h, cmpL_eq, List.cons.injEq, cmpB_eq.1 h]; simp
    · rw [if_neg h, List.cons.injEq]
      exact ⟨fun e => absurd e h, fun e => absurd (cmpB_eq.2 e.1) h⟩
theorem cmpL_flip : ∀ {l m : List (List UInt8)}, cmpL l m < 0 ↔ 0 < cmpL m l
  | [], [] => by simp [cmpL]
  | [], _ :: _ => by simp [cmpL]
  | _ :: _, [] => by simp [cmpL]
  | a :: l, b :: m => by
    unfold cmpL
    by_cases h : cmpB a b = 0
    · rw [if_pos h, if_pos (cmpB_eq.2 (cmpB_eq.1 h).symm)]; exact cmpL_flip
    · rw [if_neg h, if_neg (fun e => h (cmpB_eq.2 (cmpB_eq.1 e).symm))]; exact cmpB_flip
theorem cmpL_trans : ∀ {l m n : List (List UInt8)}, cmpL l m < 0 → cmpL m n < 0 → cmpL l n < 0
  | [], [], _ => by intro h; simp [cmpL] at h
  | _ :: _, [], _ => by intro h; simp [cmpL] at h
  | [], _ :: _, [] => by intro _ h; simp [cmpL] at h
  | [], _ :: _, _ :: _ => by intro _ _; simp [cmpL]
  | _ :: _, _ :: _, [] => by intro _ h; simp [cmpL] at h
  | a :: l, b :: m, c :: n => by
    unfold cmpL
    intro h1 h2
    by_cases e1 : cmpB a b = 0
    · have := cmpB_eq.1 e1
      subst this
      by_cases e2 : cmpB a c = 0
      · rw [if_pos e1] at h1; rw [if_pos e2] at h2 ⊢; exact cmpL_trans h1 h2
      · rw [if_neg e2] at h2 ⊢; exact h2
    · rw [if_neg e1] at h1
      by_cases e2 : cmpB b c = 0
      · have := cmpB_eq.1 e2
        subst this
        rw [if_neg e1]; exact h1
      · rw [if_neg e2] at h2
        have h3 := cmpB_lt.2 (List.lt_trans (cmpB_lt.1 h1) (cmpB_lt.1 h2))
        rw [if_neg (by omega)]; exact h3
theorem cmpI_lt {a b : Int} : cmpI a b < 0 ↔ a < b := by unfold cmpI; (repeat split) <;> omega
theorem cmpI_eq {a b : Int} : cmpI a b = 0 ↔ a = b := by unfold cmpI; (repeat split) <;> omega
theorem cmpI_gt {a b : Int} : 0 < cmpI a b ↔ b < a := by unfold cmpI; (repeat split) <;> omega
def cmpT (T S : List (List UInt8)) : Int := if cmpI T.length S.length = 0 then cmpL T S else cmpI T.length S.length
theorem cmpT_eq {T S : List (List UInt8)} : cmpT T S = 0 ↔ T = S := by
  unfold cmpT
  by_cases h : cmpI T.length S.length = 0
  · rw [if_pos h]; exact cmpL_eq
  · rw [if_neg h]; exact ⟨fun e => absurd e h, fun e => absurd (by subst e; exact cmpI_eq.2 rfl) h⟩
theorem cmpT_flip {T S : List (List UInt8)} : cmpT T S < 0 ↔ 0 < cmpT S T := by
  unfold cmpT
  by_cases h : cmpI T.length S.length = 0
  · rw [if_pos h, if_pos (cmpI_eq.2 (cmpI_eq.1 h).symm)]; exact cmpL_flip
  · rw [if_neg h, if_neg (fun e => h (cmpI_eq.2 (cmpI_eq.1 e).symm)), cmpI_lt, cmpI_gt]
theorem cmpT_trans {T S U : List (List UInt8)} (h1 : cmpT T S < 0) (h2 : cmpT S U < 0) : cmpT T U < 0 := by
  unfold cmpT at h1 h2 ⊢
  by_cases e1 : cmpI T.length S.length = 0
  · rw [if_pos e1] at h1
    have q1 := cmpI_eq.1 e1
    by_cases e2 : cmpI S.length U.length = 0
    · rw [if_pos e2] at h2
      have q2 := cmpI_eq.1 e2
      rw [if_pos (cmpI_eq.2 (by omega))]
      exact cmpL_trans h1 h2
    · rw [if_neg e2] at h2
      have q2 := cmpI_lt.1 h2
      rw [if_neg (fun e => by have := cmpI_eq.1 e; omega)]
      exact cmpI_lt.2 (by omega)
  · rw [if_neg e1] at h1
    have q1 := cmpI_lt.1 h1
    by_cases e2 : cmpI S.length U.length = 0
    · have q2 := cmpI_eq.1 e2
      rw [if_neg (fun e => by have := cmpI_eq.1 e; omega)]
      exact cmpI_lt.2 (by omega)
    · rw [if_neg e2] at h2
      have q2 := cmpI_lt.1 h2
      rw [if_neg (fun e => by have := cmpI_eq.1 e; omega)]
      exact cmpI_lt.2 (by omega)
theorem cmpT_self (T : List (List UInt8)) : cmpT T T = 0 := cmpT_eq.2 rfl
theorem cmpT_irr {T S : List (List UInt8)} (h : cmpT T S < 0) : T ≠ S := by intro e; subst e; rw [cmpT_self] at h; omega
/-- Tokens with a count. -/
abbrev TP := List (List UInt8) × Int
/-- In strictly ascending order, all counts positive. -/
def Srt (L : List TP) : Prop := L.Pairwise fun a b => cmpT a.1 b.1 < 0
def Pos (L : List TP) : Prop := ∀ t ∈ L, 1 ≤ t.2
def look (L : List TP) (T : List (List UInt8)) : Int := match L.find? (fun t => t.1 = T) with | some t => t.2 | none => 0
theorem look_nil (T : List (List UInt8)) : look [] T = 0 := rfl
theorem look_cons (t : TP) (L : List TP) (T : List (List UInt8)) : look (t :: L) T = if t.1 = T then t.2 else look L T := by
  unfold look
  by_cases h : t.1 = T
  · rw [List.find?_cons_of_pos (by simpa using h), if_pos h]
  · rw [List.find?_cons_of_neg (by simpa using h), if_neg h]
theorem look_none {L : List TP} {T : List (List UInt8)} (h : ∀ t ∈ L, t.1 ≠ T) : look L T = 0 := by
  induction L with
  | nil => rfl
  | cons t L ih => rw [look_cons, if_neg (h t List.mem_cons_self)]; exact ih fun x hx => h x (List.mem_cons_of_mem _ hx)
theorem Srt.tail {t : TP} {L : List TP} (h : Srt (t :: L)) : Srt L := (List.pairwise_cons.1 h).2
theorem Srt.head {t : TP} {L : List TP} (h : Srt (t :: L)) : ∀ x ∈ L, cmpT t.1 x.1 < 0 := (List.pairwise_cons.1 h).1
/-- Two states with the same counts are one. -/
theorem look_ext : ∀ {L M : List TP}, Srt L → Srt M → Pos L → Pos M → (∀ T, look L T = look M T) → L = M
  | [], [], _, _, _, _, _ => rfl
  | [], t :: M, _, _, _, hp, h => by
    have h1 := h t.1
    rw [look_nil, look_cons, if_pos rfl] at h1
    have := hp t List.mem_cons_self
    omega
  | t :: L, [], _, _, hp, _, h => by
    have h1 := h t.1
    rw [look_nil, look_cons, if_pos rfl] at h1
    have := hp t List.mem_cons_self
    omega
  | t :: L, u :: M, hs, hs', hp, hp', h => by
    have ht := hp t List.mem_cons_self
    have hu := hp' u List.mem_cons_self
    have e1 : t.1 = u.1 := by
      rcases Int.lt_trichotomy (cmpT t.1 u.1) 0 with hc | hc | hc
      · exfalso
        have h1 := h t.1
        rw [look_cons, if_pos rfl, look_cons, if_neg (fun e => cmpT_irr hc e.symm), look_none] at h1
        · omega
        · intro x hx e
          have := cmpT_trans hc (hs'.head x hx)
          exact cmpT_irr this e.symm
      · exact cmpT_eq.1 hc
      · exfalso
        have hc' := cmpT_flip.2 hc
        have h1 := h u.1
        rw [look_cons, if_neg (fun e => cmpT_irr hc' e.symm), look_cons, if_pos rfl, look_none] at h1
        · omega
        · intro x hx e
          have := cmpT_trans hc' (hs.head x hx)
          exact cmpT_irr this e.symm
    have e2 : t.2 = u.2 := by
      have h1 := h t.1
      rw [look_cons, if_pos rfl, look_cons, if_pos e1.symm] at h1
      exact h1
    have e3 : L = M := look_ext hs.tail hs'.tail (fun x hx => hp x (List.mem_cons_of_mem _ hx)) (fun x hx => hp' x (List.mem_cons_of_mem _ hx)) fun T => by
      have h1 := h T
      rw [look_cons, look_cons] at h1
      by_cases e : t.1 = T
      · rw [look_none (fun x hx e' => cmpT_irr (hs.head x hx) (e.trans e'.symm)), look_none (fun x hx e' => cmpT_irr (hs'.head x hx) ((e1.symm.trans e).trans e'.symm))]
      · rw [if_neg e, if_neg (fun e' => e (e1.trans e'))] at h1
        exact h1
    rw [Prod.ext e1 e2, e3]
/-- How often tokens are counted. -/
def cnt : List TP → List (List UInt8) → Int
  | [], _ => 0
  | t :: L, U => (if t.1 = U then t.2 else 0) + cnt L U
theorem cnt_append (A B : List TP) (U : List (List UInt8)) : cnt (A ++ B) U = cnt A U + cnt B U := by
  induction A with
  | nil => simp [cnt]
  | cons a A ih => rw [List.cons_append, cnt, cnt, ih]; omega
theorem cnt_look {L : List TP} (hs : Srt L) (U : List (List UInt8)) : cnt L U = look L U := by
  induction L with
  | nil => rfl
  | cons t L ih =>
    rw [cnt, look_cons, ih hs.tail]
    by_cases h : t.1 = U
    · rw [if_pos h, if_pos h, look_none (fun x hx e => cmpT_irr (hs.head x hx) (h.trans e.symm))]; omega
    · rw [if_neg h, if_neg h]; omega
theorem cnt_ext {L M : List TP} (hs : Srt L) (hs' : Srt M) (hp : Pos L) (hp' : Pos M) (h : ∀ T, cnt L T = cnt M T) : L = M :=
  look_ext hs hs' hp hp' fun T => by rw [← cnt_look hs, ← cnt_look hs', h]
theorem cnt_nonneg {L : List TP} (hp : Pos L) (U : List (List UInt8)) : 0 ≤ cnt L U := by
  induction L with
  | nil => exact Int.le_refl _
  | cons t L ih =>
    rw [cnt]
    have h1 := hp t List.mem_cons_self
    have h2 := ih fun x hx => hp x (List.mem_cons_of_mem _ hx)
    split <;> omega
/-- All the lines of a state. -/
def sumP (L : List TP) : Int := (L.map (·.2)).sum
theorem sumP_cons (t : TP) (L : List TP) : sumP (t :: L) = t.2 + sumP L := by simp [sumP]
theorem sumP_append (A B : List TP) : sumP (A ++ B) = sumP A + sumP B := by simp [sumP]
theorem sumP_len {L : List TP} (hp : Pos L) : (L.length : Int) ≤ sumP L := by
  induction L with
  | nil => simp [sumP]
  | cons t L ih =>
    rw [sumP_cons, List.length_cons]
    have h1 := hp t List.mem_cons_self
    have h2 := ih fun x hx => hp x (List.mem_cons_of_mem _ hx)
    omega
theorem sumP_le {L : List TP} (hp : Pos L) {t : TP} (h : t ∈ L) : t.2 ≤ sumP L := by
  induction L with
  | nil => cases h
  | cons x L ih =>
    rw [sumP_cons]
    have hp' : Pos L := fun y hy => hp y (List.mem_cons_of_mem _ hy)
    have h1 := hp x List.mem_cons_self
    have h2 := sumP_len hp'
    rcases List.mem_cons.1 h with rfl | h
    · omega
    · have := ih hp' h; omega
/-- A state in which tokens were counted n times more. -/
structure Added (P P' : List TP) (T : List (List UInt8)) (n : Int) : Prop where
  s : Srt P'
  p : Pos P'
  c : ∀ U, cnt P' U = cnt P U + if T = U then n else 0
  t : sumP P' = sumP P + n
theorem added_split (A B : List TP) (T : List (List UInt8)) (n : Int) (hs : Srt (A ++ B)) (hp : Pos (A ++ B)) (hn : 1 ≤ n) (hA : ∀ x ∈ A, cmpT x.1 T < 0) (hB : ∀ x ∈ B, cmpT T x.1 < 0) : Added (A ++ B) (A ++ [(T, n)] ++ B) T n := by
  obtain ⟨h1, h2, h3⟩ := List.pairwise_append.1 hs
  refine ⟨?_, ?_, fun U => ?_, ?_⟩
  · refine List.pairwise_append.2 ⟨List.pairwise_append.2 ⟨h1, List.pairwise_singleton _ _, fun a ha b hb => ?_⟩, h2, fun a ha b hb => ?_⟩
    · rw [List.mem_singleton.1 hb]; exact hA a ha
    · rcases List.mem_append.1 ha with ha | ha
      · exact h3 a ha b hb
      · rw [List.mem_singleton.1 ha]; exact hB b hb
  · intro x hx
    rcases List.mem_append.1 hx with hx | hx
    · rcases List.mem_append.1 hx with hx | hx
      · exact hp x (List.mem_append_left _ hx)
      · rw [List.mem_singleton.1 hx]; exact hn
    · exact hp x (List.mem_append_right _ hx)
  · rw [cnt_append, cnt_append, cnt_append, cnt, cnt]; simp only; omega
  · rw [sumP_append, sumP_append, sumP_append, sumP_cons]; simp [sumP]; omega
theorem added_at (A B : List TP) (x : TP) (n : Int) (hs : Srt (A ++ x :: B)) (hp : Pos (A ++ x :: B)) (hn : 0 ≤ n) : Added (A ++ x :: B) (A ++ (x.1, x.2 + n) :: B) x.1 n := by
  obtain ⟨h1, h2, h3⟩ := List.pairwise_append.1 hs
  refine ⟨?_, ?_, fun U => ?_, ?_⟩
  · refine List.pairwise_append.2 ⟨h1, List.pairwise_cons.2 ⟨fun b hb => (List.pairwise_cons.1 h2).1 b hb, (List.pairwise_cons.1 h2).2⟩, fun a ha b hb => ?_⟩
    rcases List.mem_cons.1 hb with rfl | hb
    · exact h3 a ha x List.mem_cons_self
    · exact h3 a ha b (List.mem_cons_of_mem _ hb)
  · intro y hy
    rcases List.mem_append.1 hy with hy | hy
    · exact hp y (List.mem_append_left _ hy)
    · rcases List.mem_cons.1 hy with rfl | hy
      · have := hp x (List.mem_append_right _ List.mem_cons_self)
        show 1 ≤ x.2 + n
        omega
      · exact hp y (List.mem_append_right _ (List.mem_cons_of_mem _ hy))
  · rw [cnt_append, cnt_append, cnt, cnt]
    simp only
    split <;> omega
  · rw [sumP_append, sumP_append, sumP_cons, sumP_cons]; simp only; omega
/-- A state in which tokens were counted once less. -/
structure Removed (P P' : List TP) (T : List (List UInt8)) : Prop where
  s : Srt P'
  p : Pos P'
  c : ∀ U, cnt P' U = cnt P U - if T = U then 1 else 0
  t : sumP P' = sumP P - 1
theorem removed_at (A B : List TP) (x : TP) (hs : Srt (A ++ x :: B)) (hp : Pos (A ++ x :: B)) (h1 : x.2 ≠ 1) : Removed (A ++ x :: B) (A ++ (x.1, x.2 - 1) :: B) x.1 := by
  obtain ⟨q1, q2, q3⟩ := List.pairwise_append.1 hs
  refine ⟨?_, ?_, fun U => ?_, ?_⟩
  · refine List.pairwise_append.2 ⟨q1, List.pairwise_cons.2 ⟨fun b hb => (List.pairwise_cons.1 q2).1 b hb, (List.pairwise_cons.1 q2).2⟩, fun a ha b hb => ?_⟩
    rcases List.mem_cons.1 hb with rfl | hb
    · exact q3 a ha x List.mem_cons_self
    · exact q3 a ha b (List.mem_cons_of_mem _ hb)
  · intro y hy
    rcases List.mem_append.1 hy with hy | hy
    · exact hp y (List.mem_append_left _ hy)
    · rcases List.mem_cons.1 hy with rfl | hy
      · have := hp x (List.mem_append_right _ List.mem_cons_self)
        show 1 ≤ x.2 - 1
        omega
      · exact hp y (List.mem_append_right _ (List.mem_cons_of_mem _ hy))
  · rw [cnt_append, cnt_append, cnt, cnt]
    simp only
    split <;> omega
  · rw [sumP_append, sumP_append, sumP_cons, sumP_cons]; simp only; omega
theorem removed_gone (A B : List TP) (x : TP) (hs : Srt (A ++ x :: B)) (hp : Pos (A ++ x :: B)) (h1 : x.2 = 1) : Removed (A ++ x :: B) (A ++ B) x.1 := by
  obtain ⟨q1, q2, q3⟩ := List.pairwise_append.1 hs
  refine ⟨?_, ?_, fun U => ?_, ?_⟩
  · exact List.pairwise_append.2 ⟨q1, (List.pairwise_cons.1 q2).2, fun a ha b hb => q3 a ha b (List.mem_cons_of_mem _ hb)⟩
  · intro y hy
    rcases List.mem_append.1 hy with hy | hy
    · exact hp y (List.mem_append_left _ hy)
    · exact hp y (List.mem_append_right _ (List.mem_cons_of_mem _ hy))
  · rw [cnt_append, cnt_append, cnt, h1]
    split <;> omega
  · rw [sumP_append, sumP_append, sumP_cons]; omega
theorem cnt_zero {L : List TP} {T : List (List UInt8)} (h : ∀ t ∈ L, t.1 ≠ T) : cnt L T = 0 := by
  induction L with
  | nil => rfl
  | cons t L ih => rw [cnt, if_neg (h t List.mem_cons_self), ih fun x hx => h x (List.mem_cons_of_mem _ hx)]; omega
end Go.Proofs.YtigogjlbemkhdaaGreat
