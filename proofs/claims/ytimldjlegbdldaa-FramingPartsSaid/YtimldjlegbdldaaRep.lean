/- The repair of damaged bytes: plain Lean, no program in sight. -/
import Derived.Test.YtimldjlegbdldaaBytes
namespace Go.Proofs.Ytimldjlegbdldaa

/-- A byte from lo to hi lies at place i. -/
def inB (l : List UInt8) (i : Nat) (lo hi : Int) : Bool := decide (i < l.length) && decide (lo ≤ ((l.getD i 0).toNat : Int)) && decide (((l.getD i 0).toNat : Int) ≤ hi)
def loB (c : Int) : Int := if c = 224 then 160 else if c = 240 then 144 else 128
def hiB (c : Int) : Int := if c = 237 then 159 else if c = 244 then 143 else 191
def lenB (c : Int) : Nat := if c < 194 then 0 else if c < 224 then 2 else if c < 240 then 3 else if c < 245 then 4 else 0
/-- The bytes that follow the first one. -/
def restB (l : List UInt8) (c : Int) : Bool := inB l 1 (loB c) (hiB c) && (decide (lenB c < 3) || inB l 2 128 191) && (decide (lenB c < 4) || inB l 3 128 191)
def hdB (l : List UInt8) : Int := ((l.getD 0 0).toNat : Int)
/-- The length of the valid sequence at the head, 0 if there is none. -/
def seqL (l : List UInt8) : Nat := if hdB l < 128 then 1 else if restB l (hdB l) then lenB (hdB l) else 0

theorem inB_lt {l : List UInt8} {i : Nat} {lo hi : Int} (h : inB l i lo hi = true) : i < l.length := by
  unfold inB at h
  simp only [Bool.and_eq_true, decide_eq_true_eq] at h
  exact h.1.1
theorem lenB_le (c : Int) : lenB c ≤ 4 := by unfold lenB; (repeat' split) <;> omega
theorem seqL_le4 (l : List UInt8) : seqL l ≤ 4 := by
  have := lenB_le (hdB l)
  unfold seqL
  (repeat' split) <;> omega
theorem seqL_le (l : List UInt8) (h0 : l ≠ []) : seqL l ≤ l.length := by
  have hl : 0 < l.length := List.length_pos_iff.2 h0
  unfold seqL
  split
  · omega
  · split
    · rename_i h
      unfold restB at h
      simp only [Bool.and_eq_true, Bool.or_eq_true, decide_eq_true_eq] at h
      obtain ⟨⟨h1, h2⟩, h3⟩ := h
      have a1 := inB_lt h1
      have a2 : 3 ≤ lenB (hdB l) → 2 < l.length := fun hh => h2.elim (fun k => absurd k (by omega)) inB_lt
      have a3 : 4 ≤ lenB (hdB l) → 3 < l.length := fun hh => h3.elim (fun k => absurd k (by omega)) inB_lt
      have := lenB_le (hdB l)
      omega
    · omega

/-- How far a step goes. -/
def stepL (l : List UInt8) : Nat := max (seqL l) 1
theorem stepL_pos (l : List UInt8) : 1 ≤ stepL l := Nat.le_max_right _ _
theorem stepL_le4 (l : List UInt8) : stepL l ≤ 4 := by have := seqL_le4 l; unfold stepL; omega
theorem stepL_le (l : List UInt8) (h0 : l ≠ []) : stepL l ≤ l.length := by
  have hl : 0 < l.length := List.length_pos_iff.2 h0
  have := seqL_le l h0
  unfold stepL
  omega
/-- What stands for the sequence, or the byte, at the head. -/
def pieceL (l : List UInt8) : List UInt8 := if seqL l = 0 then [63] else l.take (seqL l)
def badL (l : List UInt8) : Nat := if seqL l = 0 then 1 else 0
theorem pieceL_len (l : List UInt8) (h0 : l ≠ []) : (pieceL l).length = stepL l := by
  have := seqL_le l h0
  unfold pieceL stepL
  split
  · simp; omega
  · rw [List.length_take]; omega
theorem pieceL_le4 (l : List UInt8) : (pieceL l).length ≤ 4 := by
  have := seqL_le4 l
  unfold pieceL
  split
  · simp
  · rw [List.length_take]; omega

def repF : Nat → List UInt8 → List UInt8 × Nat
  | 0, _ => ([], 0)
  | k + 1, l => if l = [] then ([], 0) else (pieceL l ++ (repF k (l.drop (stepL l))).1, badL l + (repF k (l.drop (stepL l))).2)
/-- The repaired bytes, and how many were replaced. -/
def rep (l : List UInt8) : List UInt8 × Nat := repF l.length l
theorem rep_nil : rep [] = ([], 0) := rfl
theorem repF_more : ∀ (k : Nat) (l : List UInt8), l.length ≤ k → ∀ j, l.length ≤ j → repF k l = repF j l
  | 0, l, h, j, _ => by
    obtain rfl : l = [] := List.eq_nil_of_length_eq_zero (by omega)
    cases j <;> simp [repF]
  | k + 1, l, h, j, hj => by
    by_cases h0 : l = []
    · subst h0; cases j <;> simp [repF]
    · have hl : 0 < l.length := List.length_pos_iff.2 h0
      obtain ⟨j, rfl⟩ : ∃ i, j = i + 1 := ⟨j - 1, by omega⟩
      have hp := stepL_pos l
      have ih := repF_more k (l.drop (stepL l)) (by rw [List.length_drop]; omega) j (by rw [List.length_drop]; omega)
      simp only [repF, if_neg h0, ih]
theorem rep_step (l : List UInt8) (h0 : l ≠ []) : rep l = (pieceL l ++ (rep (l.drop (stepL l))).1, badL l + (rep (l.drop (stepL l))).2) := by
  have hl : 0 < l.length := List.length_pos_iff.2 h0
  have hp := stepL_pos l
  obtain ⟨k, hk⟩ : ∃ k, l.length = k + 1 := ⟨l.length - 1, by omega⟩
  have hm := repF_more k (l.drop (stepL l)) (by rw [List.length_drop]; omega) (l.drop (stepL l)).length (Nat.le_refl _)
  unfold rep
  rw [hk]
  simp only [repF, if_neg h0, hm]
theorem repF_len : ∀ (k : Nat) (l : List UInt8), l.length ≤ k → (repF k l).1.length = l.length ∧ (repF k l).2 ≤ l.length
  | 0, l, h => by obtain rfl : l = [] := List.eq_nil_of_length_eq_zero (by omega); simp [repF]
  | k + 1, l, h => by
    by_cases h0 : l = []
    · subst h0; simp [repF]
    · have hl : 0 < l.length := List.length_pos_iff.2 h0
      have hp := stepL_pos l
      have hs := stepL_le l h0
      have ih := repF_len k (l.drop (stepL l)) (by rw [List.length_drop]; omega)
      have hb : badL l ≤ 1 := by unfold badL; split <;> omega
      rw [List.length_drop] at ih
      simp only [repF, if_neg h0, List.length_append, pieceL_len l h0]
      omega
theorem rep_len (l : List UInt8) : (rep l).1.length = l.length := (repF_len _ l (Nat.le_refl _)).1
theorem rep_bad (l : List UInt8) : (rep l).2 ≤ l.length := (repF_len _ l (Nat.le_refl _)).2

/-- Where the steps begin. -/
def posN (l : List UInt8) : Nat → Nat
  | 0 => 0
  | k + 1 => posN l k + stepL (l.drop (posN l k))
theorem posN_lt (l : List UInt8) (k : Nat) : posN l k < posN l (k + 1) := by have := stepL_pos (l.drop (posN l k)); simp only [posN]; omega
theorem posN_ge (l : List UInt8) : ∀ k, k ≤ posN l k
  | 0 => Nat.zero_le _
  | k + 1 => by have := posN_ge l k; have := posN_lt l k; omega
theorem posN_next (l : List UInt8) (k : Nat) (h : posN l k < l.length) : posN l (k + 1) ≤ l.length := by
  have h1 := stepL_le (l.drop (posN l k)) (by intro e; have := congrArg List.length e; simp at this; omega)
  rw [List.length_drop] at h1
  simp only [posN]
  omega
def outL (l : List UInt8) (ps : List Nat) : List UInt8 := ps.flatMap fun i => pieceL (l.drop i)
def badsL (l : List UInt8) : List Nat → Nat
  | [] => 0
  | i :: ps => badL (l.drop i) + badsL l ps
theorem outL_push (l : List UInt8) (ps : List Nat) (i : Nat) : outL l (ps ++ [i]) = outL l ps ++ pieceL (l.drop i) := by simp [outL]
theorem badsL_push (l : List UInt8) : ∀ (ps : List Nat) (i : Nat), badsL l (ps ++ [i]) = badsL l ps + badL (l.drop i)
  | [], i => by simp [badsL]
  | p :: ps, i => by simp only [List.cons_append, badsL, badsL_push l ps i]; omega
theorem outL_le (l : List UInt8) : ∀ ps, (outL l ps).length ≤ 4 * ps.length
  | [] => by simp [outL]
  | i :: ps => by
    have h1 := pieceL_le4 (l.drop i)
    have h2 := outL_le l ps
    unfold outL at *
    rw [List.flatMap_cons, List.length_append, List.length_cons]
    omega
theorem badsL_le (l : List UInt8) : ∀ ps, badsL l ps ≤ ps.length
  | [] => by simp [badsL]
  | i :: ps => by
    have hb : badL (l.drop i) ≤ 1 := by unfold badL; split <;> omega
    have := badsL_le l ps
    simp only [badsL, List.length_cons]
    omega
theorem rep_pos (l : List UInt8) (k : Nat) : posN l k ≤ l.length →
    outL l ((List.range k).map (posN l)) ++ (rep (l.drop (posN l k))).1 = (rep l).1 ∧ badsL l ((List.range k).map (posN l)) + (rep (l.drop (posN l k))).2 = (rep l).2 := by
  induction k with
  | zero => intro _; exact ⟨rfl, Nat.zero_add _⟩
  | succ k ih =>
    intro h
    have hlt := posN_lt l k
    obtain ⟨i1, i2⟩ := ih (by omega)
    have hne : l.drop (posN l k) ≠ [] := by intro e; have := congrArg List.length e; simp at this; omega
    have e : posN l (k + 1) = posN l k + stepL (l.drop (posN l k)) := rfl
    have hs := rep_step (l.drop (posN l k)) hne
    rw [List.drop_drop, ← e] at hs
    have s1 := congrArg (·.1) hs
    have s2 := congrArg (·.2) hs
    dsimp only at s1 s2
    rw [s1, ← List.append_assoc] at i1
    rw [s2] at i2
    rw [List.range_succ, List.map_append, List.map_singleton, outL_push, badsL_push]
    exact ⟨i1, by omega⟩
/-- All steps. -/
def StAll (l : List UInt8) (ps : List Nat) : Prop := ps = (List.range ps.length).map (posN l) ∧ posN l ps.length = l.length
theorem StAll.rep {l : List UInt8} {ps : List Nat} (h : StAll l ps) : outL l ps = (rep l).1 ∧ badsL l ps = (rep l).2 := by
  obtain ⟨h1, h2⟩ := rep_pos l ps.length (by rw [h.2]; exact Nat.le_refl _)
  rw [← h.1, h.2] at h1 h2
  rw [List.drop_length, rep_nil] at h1 h2
  simpa using And.intro h1 h2
theorem StPush {l : List UInt8} {ps : List Nat} (h : ps = (List.range ps.length).map (posN l)) (i : Nat) (hi : i = posN l ps.length) : ps ++ [i] = (List.range (ps ++ [i]).length).map (posN l) := by
  rw [List.length_append, List.length_singleton, List.range_succ, List.map_append, List.map_singleton, ← h, hi]
end Go.Proofs.Ytimldjlegbdldaa
