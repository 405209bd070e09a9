/- Templates of elements with counts, as a plain function; they depend on the counts alone. No program in sight. -/
import Derived.Test.YtigogjlbemkhdaaGreatTmMath
namespace Go.Proofs.YtigogjlbemkhdaaGreat
open Go.RowKit
/-- Different elements, each once. -/
def dd {α : Type} [DecidableEq α] : List α → List α
  | [] => []
  | x :: l => x :: (dd l).filter fun y => decide (y ≠ x)
section
variable {α : Type} [DecidableEq α]
theorem mem_dd {l : List α} {x : α} : x ∈ dd l ↔ x ∈ l := by
  induction l with
  | nil => simp [dd]
  | cons y l ih =>
    simp only [dd, List.mem_cons, List.mem_filter, decide_eq_true_eq, ih]
    by_cases h : x = y
    · simp [h]
    · simp [h]
theorem nodup_dd (l : List α) : (dd l).Nodup := by
  induction l with
  | nil => exact List.nodup_nil
  | cons y l ih =>
    rw [dd, List.nodup_cons]
    exact ⟨by simp, List.Pairwise.filter _ ih⟩
theorem dd_perm {l m : List α} (h : ∀ x, x ∈ l ↔ x ∈ m) : (dd l).Perm (dd m) :=
  (List.perm_ext_iff_of_nodup (nodup_dd l) (nodup_dd m)).2 fun x => by rw [mem_dd, mem_dd, h]
end
def MAXI : Int := 9223372036854775807
def sat (x : Int) : Int := min x MAXI
/-- The token at a place. -/
def tkA (p : Nat) (t : TP) : List UInt8 := t.1.getD p []
def tksA (p : Nat) (l : List TP) : List (List UInt8) := dd (l.map (tkA p))
def partA (p : Nat) (w : List UInt8) (l : List TP) : List TP := l.filter fun t => decide (tkA p t = w)
def sumC (l : List TP) : Int := (l.map (·.2)).sum
/-- Is a group split at a place? -/
def splA (p : Nat) (l : List TP) : Bool := decide (2 ≤ (tksA p l).length) && decide ((tksA p l).length ≤ 4) && (tksA p l).all fun w => decide (w ≠ []) && decide (2 ≤ sumC (partA p w l))
def posA (n : Nat) (l : List TP) : Option Nat := (List.range n).find? fun p => splA p l
def oneW : List (List UInt8) → List UInt8
  | [w] => w
  | _ => []
def mrgT (p : Nat) (l : List TP) : List UInt8 := oneW (tksA p l)
def mrgA (n : Nat) (l : List TP) : TP := ((List.range n).map fun p => mrgT p l, sat (sumC l))
/-- The templates of a group of elements with n tokens each. -/
def tplF (n : Nat) : Nat → List TP → List TP
  | 0, _ => []
  | f + 1, l => match posA n l with
    | none => [mrgA n l]
    | some p => (tksA p l).flatMap fun w => tplF n f (partA p w l)
def grpA (n : Nat) (l : List TP) : List TP := l.filter fun t => decide (t.1.length = n) && decide (1 ≤ t.2)
def FUEL : Nat := 100000
/-- The templates of elements. -/
def ofA (l : List TP) : List TP := (List.range 61).flatMap fun n => if n = 0 ∨ grpA n l = [] then [] else tplF n FUEL (grpA n l)
/-- Two lists with the same counts. -/
def Eqv (l m : List TP) : Prop := Pos l ∧ Pos m ∧ ∀ U, cnt l U = cnt m U
theorem Eqv.symm {l m : List TP} (h : Eqv l m) : Eqv m l := ⟨h.2.1, h.1, fun U => (h.2.2 U).symm⟩
theorem cnt_pos {l : List TP} (hp : Pos l) (U : List (List UInt8)) : 0 ≤ cnt l U ∧ (0 < cnt l U ↔ ∃ t ∈ l, t.1 = U) := by
  induction l with
  | nil => simp [cnt]
  | cons t l ih =>
    have h1 := hp t (by simp)
    obtain ⟨h2, h3⟩ := ih fun x hx => hp x (by simp [hx])
    simp only [cnt, List.mem_cons]
    by_cases e : t.1 = U
    · rw [if_pos e]
      exact ⟨by omega, fun _ => ⟨t, .inl rfl, e⟩, fun _ => by omega⟩
    · rw [if_neg e]
      refine ⟨by omega, fun h => ?_, ?_⟩
      · obtain ⟨x, hx, hu⟩ := h3.1 (by omega)
        exact ⟨x, .inr hx, hu⟩
      · rintro ⟨x, rfl | hx, hu⟩
        · exact absurd hu e
        · have := h3.2 ⟨x, hx, hu⟩; omega
theorem Eqv.mem {l m : List TP} (h : Eqv l m) (U : List (List UInt8)) : (∃ t ∈ l, t.1 = U) ↔ ∃ t ∈ m, t.1 = U := by
  rw [← (cnt_pos h.1 U).2, ← (cnt_pos h.2.1 U).2, h.2.2]
theorem Pos.filter {l : List TP} (h : Pos l) (q : TP → Bool) : Pos (l.filter q) := fun t ht => h t (List.mem_filter.1 ht).1
theorem cnt_filter (q : List (List UInt8) → Bool) (l : List TP) (U : List (List UInt8)) : cnt (l.filter fun t => q t.1) U = if q U = true then cnt l U else 0 := by
  induction l with
  | nil => simp [cnt]
  | cons t l ih =>
    by_cases h : q t.1 = true
    · rw [List.filter_cons_of_pos (by simpa using h), cnt, cnt, ih]
      by_cases e : t.1 = U
      · subst e; simp [h]
      · by_cases h2 : q U = true <;> simp [e, h2]
    · rw [List.filter_cons_of_neg (by simpa using h), ih, cnt]
      by_cases e : t.1 = U
      · subst e; simp [h]
      · by_cases h2 : q U = true <;> simp [e, h2]
theorem Eqv.filter {l m : List TP} (h : Eqv l m) (q : List (List UInt8) → Bool) : Eqv (l.filter fun t => q t.1) (m.filter fun t => q t.1) :=
  ⟨h.1.filter _, h.2.1.filter _, fun U => by rw [cnt_filter, cnt_filter, h.2.2]⟩
/-- The sum of the counts is that of the counts of the different elements. -/
theorem sumC_cons (t : TP) (l : List TP) : sumC (t :: l) = t.2 + sumC l := by simp [sumC]
theorem sum_map_add {β : Type} (f g : β → Int) (l : List β) : (l.map fun x => f x + g x).sum = (l.map f).sum + (l.map g).sum := by
  induction l with
  | nil => simp
  | cons x l ih => simp only [List.map_cons, List.sum_cons, ih]; omega
theorem sum_zero {β : Type} : ∀ l : List β, (l.map fun _ => (0 : Int)).sum = 0
  | [] => rfl
  | x :: l => by simp only [List.map_cons, List.sum_cons, sum_zero l]; rfl
theorem sum_hit {β : Type} [DecidableEq β] (c : Int) (x : β) : ∀ l : List β, l.Nodup → x ∈ l → (l.map fun y => if x = y then c else 0).sum = c
  | [], _, h => by cases h
  | y :: l, hn, h => by
    rw [List.nodup_cons] at hn
    simp only [List.map_cons, List.sum_cons]
    by_cases e : x = y
    · subst e
      rw [if_pos rfl]
      have : (l.map fun z => if x = z then c else 0).sum = 0 := by
        have h0 : ∀ z ∈ l, (if x = z then c else 0) = 0 := fun z hz => if_neg (fun e => hn.1 (by rw [e]; exact hz))
        rw [List.map_congr_left h0]
        exact sum_zero l
      omega
    · have hx : x ∈ l := by
        rcases List.mem_cons.1 h with h | h
        · exact absurd h e
        · exact h
      rw [if_neg e, sum_hit c x l hn.2 hx]
      omega
theorem sum_cover {l : List TP} (K : List (List (List UInt8))) (hK : K.Nodup) (h : ∀ t ∈ l, t.1 ∈ K) : sumC l = (K.map (cnt l)).sum := by
  induction l with
  | nil =>
    exact (sum_zero K).symm
  | cons t l ih =>
    rw [sumC_cons, ih fun x hx => h x (by simp [hx])]
    have e : cnt (t :: l) = fun U => (if t.1 = U then t.2 else 0) + cnt l U := rfl
    rw [e, sum_map_add, sum_hit t.2 t.1 K hK (h t (by simp))]
theorem Eqv.sum {l m : List TP} (h : Eqv l m) : sumC l = sumC m := by
  have h1 : ∀ t ∈ l, t.1 ∈ dd (l.map (·.1)) := fun t ht => mem_dd.2 (List.mem_map.2 ⟨t, ht, rfl⟩)
  have h2 : ∀ t ∈ m, t.1 ∈ dd (l.map (·.1)) := fun t ht => by
    obtain ⟨x, hx, hu⟩ := (h.mem t.1).2 ⟨t, ht, rfl⟩
    exact mem_dd.2 (List.mem_map.2 ⟨x, hx, hu⟩)
  rw [sum_cover _ (nodup_dd _) h1, sum_cover _ (nodup_dd _) h2]
  congr 1
  exact List.map_congr_left fun U _ => h.2.2 U
theorem Eqv.tks {l m : List TP} (h : Eqv l m) (p : Nat) : (tksA p l).Perm (tksA p m) := by
  refine dd_perm fun w => ?_
  have key : ∀ {a b : List TP}, Eqv a b → w ∈ a.map (tkA p) → w ∈ b.map (tkA p) := fun hab hw => by
    obtain ⟨t, ht, rfl⟩ := List.mem_map.1 hw
    obtain ⟨u, hu, e⟩ := (hab.mem t.1).1 ⟨t, ht, rfl⟩
    exact List.mem_map.2 ⟨u, hu, by unfold tkA; rw [e]⟩
  exact ⟨key h, key h.symm⟩
theorem Eqv.part {l m : List TP} (h : Eqv l m) (p : Nat) (w : List UInt8) : Eqv (partA p w l) (partA p w m) := h.filter fun U => decide (U.getD p [] = w)
theorem Eqv.spl {l m : List TP} (h : Eqv l m) (p : Nat) : splA p l = splA p m := by
  unfold splA
  have h1 := h.tks p
  rw [h1.length_eq]
  congr 1
  rw [Bool.eq_iff_iff, List.all_eq_true, List.all_eq_true]
  constructor
  · intro hh w hw
    have := hh w (h1.mem_iff.2 hw)
    rwa [(h.part p w).sum] at this
  · intro hh w hw
    have := hh w (h1.mem_iff.1 hw)
    rwa [← (h.part p w).sum] at this
theorem Eqv.pos {l m : List TP} (h : Eqv l m) (n : Nat) : posA n l = posA n m := by
  unfold posA
  congr 1
  funext p
  exact h.spl p
theorem one_perm {a b : List (List UInt8)} (h : a.Perm b) : oneW a = oneW b := by
  have hl := h.length_eq
  match a, b, h, hl with
  | [], [], _, _ => rfl
  | [x], [y], h, _ =>
    have := h.mem_iff (a := x)
    simp at this
    rw [this]
  | _ :: _ :: _, _ :: _ :: _, _, _ => rfl
theorem Eqv.mrgT {l m : List TP} (h : Eqv l m) (p : Nat) : mrgT p l = mrgT p m := one_perm (h.tks p)
theorem Eqv.mrg {l m : List TP} (h : Eqv l m) (n : Nat) : mrgA n l = mrgA n m := by
  unfold mrgA
  rw [h.sum]
  congr 1
  exact List.map_congr_left fun p _ => h.mrgT p
theorem perm_flatMap {α β : Type} {a b : List α} {f g : α → List β} (h : a.Perm b) (hf : ∀ x ∈ b, (f x).Perm (g x)) : (a.flatMap f).Perm (b.flatMap g) := by
  refine (h.flatMap_right f).trans ?_
  clear h
  induction b with
  | nil => exact List.Perm.refl _
  | cons x b ih =>
    rw [List.flatMap_cons, List.flatMap_cons]
    exact (hf x (by simp)).append (ih fun y hy => hf y (by simp [hy]))
/-- The templates depend on the counts alone. -/
theorem Eqv.tpl (n : Nat) : ∀ (f : Nat) {l m : List TP}, Eqv l m → (tplF n f l).Perm (tplF n f m)
  | 0, _, _, _ => List.Perm.refl _
  | f + 1, l, m, h => by
    unfold tplF
    rw [h.pos n]
    cases posA n m with
    | none => simp only; rw [h.mrg n]
    | some p => exact perm_flatMap (h.tks p) fun w _ => Eqv.tpl n f (h.part p w)
theorem perm_cnt {l m : List TP} (h : l.Perm m) (U : List (List UInt8)) : cnt l U = cnt m U := by
  induction h with
  | nil => rfl
  | cons x _ ih => rw [cnt, cnt, ih]
  | swap x y l => rw [cnt, cnt, cnt, cnt]; omega
  | trans _ _ h1 h2 => exact h1.trans h2
theorem Eqv.of_perm {l m : List TP} (hp : Pos l) (h : l.Perm m) : Eqv l m := ⟨hp, fun t ht => hp t (h.mem_iff.2 ht), fun U => perm_cnt h U⟩
end Go.Proofs.YtigogjlbemkhdaaGreat
