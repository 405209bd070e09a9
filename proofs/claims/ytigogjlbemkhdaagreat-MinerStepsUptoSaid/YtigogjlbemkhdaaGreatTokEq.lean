/- The program's tokens are the reference's. No program in sight. -/
import Derived.Test.YtigogjlbemkhdaaGreatRefTok
namespace Go.Proofs.YtigogjlbemkhdaaGreat
open Go.RowKit
theorem get_bang {s : ByteArray} {i : Nat} (h : i < s.size) : s.get! i = s[i] := by
  cases s with
  | mk a => simp only [ByteArray.get!]; exact getElem!_pos a i h
theorem decode_lo {s : ByteArray} {i : Nat} (h : i < s.size) (hb : s[i].toNat < 128) : Utf8.decode s i = (s[i].toNat, 1) := by
  unfold Utf8.decode
  simp only [Nat.add_zero, get_bang h]
  rw [if_pos hb]
theorem cont_hi {s : ByteArray} {i k : Nat} (h : (decide (i + k < s.size) && ((s.get! (i + k)).toNat / 64 == 2)) = true) : ∃ h : i + k < s.size, 128 ≤ s[i + k].toNat := by
  rw [Bool.and_eq_true, decide_eq_true_iff, beq_iff_eq] at h
  refine ⟨h.1, ?_⟩
  rw [get_bang h.1] at h
  omega
/-- A byte from 128 on: the rune is none of the first 128, and so are the bytes that it takes. -/
theorem decode_hi {s : ByteArray} {i : Nat} (h : i < s.size) (hb : 128 ≤ s[i].toNat) :
    128 ≤ (Utf8.decode s i).1 ∧ 1 ≤ (Utf8.decode s i).2 ∧ i + (Utf8.decode s i).2 ≤ s.size ∧ ∀ j, i ≤ j → (hj : j < i + (Utf8.decode s i).2) → (hs : j < s.size) → 128 ≤ s[j].toNat := by
  have one : ∀ r : Nat, 128 ≤ r → (128 ≤ (r, 1).1 ∧ 1 ≤ ((r, 1) : Nat × Nat).2 ∧ i + ((r, 1) : Nat × Nat).2 ≤ s.size ∧ ∀ j, i ≤ j → (hj : j < i + ((r, 1) : Nat × Nat).2) → (hs : j < s.size) → 128 ≤ s[j].toNat) := fun r hr => by
    refine ⟨hr, Nat.le_refl _, h, fun j h1 h2 h3 => ?_⟩
    obtain rfl : j = i := by simp only at h2; omega
    exact hb
  have more : ∀ r n : Nat, 128 ≤ r → 1 ≤ n → (∀ k, 1 ≤ k → k < n → ∃ h : i + k < s.size, 128 ≤ s[i + k].toNat) → (128 ≤ ((r, n) : Nat × Nat).1 ∧ 1 ≤ ((r, n) : Nat × Nat).2 ∧ i + ((r, n) : Nat × Nat).2 ≤ s.size ∧ ∀ j, i ≤ j → (hj : j < i + ((r, n) : Nat × Nat).2) → (hs : j < s.size) → 128 ≤ s[j].toNat) := fun r n hr hn hk => by
    refine ⟨hr, hn, ?_, fun j h1 h2 h3 => ?_⟩
    · rcases Nat.lt_or_ge 1 n with h1 | h1
      · obtain ⟨h2, _⟩ := hk (n - 1) (by omega) (by omega)
        show i + n ≤ s.size
        omega
      · show i + n ≤ s.size
        omega
    · simp only at h2
      rcases Nat.lt_or_ge i j with h4 | h4
      · obtain ⟨_, h5⟩ := hk (j - i) (by omega) (by omega)
        simp only [show i + (j - i) = j by omega] at h5
        exact h5
      · obtain rfl : j = i := by omega
        exact hb
  have hE : 128 ≤ Utf8.runeError := by decide
  unfold Utf8.decode
  simp only [Nat.add_zero, get_bang h]
  rw [if_neg (by omega)]
  split
  · next h2 =>
    rw [Bool.and_eq_true] at h2
    split
    · next hc => exact more _ 2 hc (by omega) (fun k h3 h4 => by
        obtain rfl : k = 1 := by omega
        exact cont_hi h2.2)
    · exact one _ hE
  · split
    · next h2 =>
      simp only [Bool.and_eq_true] at h2
      split
      · next hc =>
        simp only [Bool.and_eq_true, decide_eq_true_iff] at hc
        refine more _ 3 (by omega) (by omega) (fun k h3 h4 => ?_)
        rcases Nat.lt_or_ge k 2 with h5 | h5
        · obtain rfl : k = 1 := by omega
          exact cont_hi (by rw [Bool.and_eq_true]; exact h2.1.2)
        · obtain rfl : k = 2 := by omega
          exact cont_hi (by rw [Bool.and_eq_true]; exact h2.2)
      · exact one _ hE
    · split
      · next h2 =>
        simp only [Bool.and_eq_true] at h2
        split
        · next hc =>
          simp only [Bool.and_eq_true, decide_eq_true_iff] at hc
          refine more _ 4 (by omega) (by omega) (fun k h3 h4 => ?_)
          rcases Nat.lt_or_ge k 2 with h5 | h5
          · obtain rfl : k = 1 := by omega
            exact cont_hi (by rw [Bool.and_eq_true]; exact h2.1.1.2)
          · rcases Nat.lt_or_ge k 3 with h6 | h6
            · obtain rfl : k = 2 := by omega
              exact cont_hi (by rw [Bool.and_eq_true]; exact h2.1.2)
            · obtain rfl : k = 3 := by omega
              exact cont_hi (by rw [Bool.and_eq_true]; exact h2.2)
        · exact one _ hE
      · exact one _ hE
theorem spR_hi {r : Nat} (h : 128 ≤ r) : spR r = false := by simp [spR]; omega
theorem dgR_hi {r : Nat} (h : 128 ≤ r) : dgR r = false := by simp [dgR]; omega
theorem sp_run {s : ByteArray} {a : Nat} : ∀ (n pos : Nat), a ≤ pos → pos + n ≤ s.size → (∀ j, pos ≤ j → j < pos + n → (h : j < s.size) → spR s[j].toNat = false) → sp ((lb s).drop pos) (lb (s.extract a pos)) = sp ((lb s).drop (pos + n)) (lb (s.extract a (pos + n)))
  | 0, pos, _, _, _ => rfl
  | n + 1, pos, ha, hn, h => by
    have hp : pos < s.size := by omega
    rw [sp_more hp (h pos (Nat.le_refl _) (by omega) hp), ← lb_extract_snoc ha hp, sp_run n (pos + 1) (by omega) (by omega) (fun j h1 h2 h3 => h j (by omega) (by omega) h3), show pos + 1 + n = pos + (n + 1) by omega]
theorem any_run {s : ByteArray} : ∀ (n pos : Nat), pos + n ≤ s.size → (∀ j, pos ≤ j → j < pos + n → (h : j < s.size) → dgR s[j].toNat = false) → ((lb s).drop pos).any (fun c => dgR c.toNat) = ((lb s).drop (pos + n)).any (fun c => dgR c.toNat)
  | 0, pos, _, _ => rfl
  | n + 1, pos, hn, h => by
    have hp : pos < s.size := by omega
    rw [any_drop hp, h pos (Nat.le_refl _) (by omega) hp, Bool.false_or, any_run n (pos + 1) (by omega) (fun j h1 h2 h3 => h j (by omega) (by omega) h3), show pos + 1 + n = pos + (n + 1) by omega]
def spanW (s : ByteArray) (l : List (Nat × Nat)) : List (List UInt8) := l.map fun x => lb (s.extract x.1 x.2)
def stW (s : ByteArray) (pos : Nat) (st : Option Nat) : List (List UInt8) := match st with | none => sp ((lb s).drop pos) [] | some a => sp ((lb s).drop pos) (lb (s.extract a pos))
theorem ext_ne {s : ByteArray} {a b : Nat} (h : a < b) (hb : b ≤ s.size) : lb (s.extract a b) ≠ [] := by
  intro e
  have := congrArg List.length e
  rw [lb_ext, List.length_take, List.length_drop] at this
  simp [lb] at this
  omega
theorem spans_words (s : ByteArray) : ∀ (f pos : Nat) (st : Option Nat) (acc : List (Nat × Nat)), s.size - pos ≤ f → pos ≤ s.size → (∀ a, st = some a → a < pos) →
    spanW s (Lib.closeSpans s (Lib.spansFromP spR s f pos st acc)) = spanW s acc ++ stW s pos st := by
  intro f
  induction f with
  | zero =>
    intro pos st acc hf hp ha
    obtain rfl : pos = s.size := by omega
    have hd : (lb s).drop s.size = [] := List.drop_eq_nil_of_le (by simp [lb])
    cases st with
    | none => simp [Lib.spansFromP, Lib.closeSpans, stW, hd, sp]
    | some a => simp [Lib.spansFromP, Lib.closeSpans, stW, hd, sp, spanW, ext_ne (ha a rfl) (Nat.le_refl _)]
  | succ f ih =>
    intro pos st acc hf hp ha
    by_cases hlt : pos < s.size
    · have hdrop : ∀ (n : Nat), s.size - (pos + (n + 1)) ≤ f := fun n => by omega
      by_cases hb : s[pos].toNat < 128
      · have hd := decode_lo hlt hb
        unfold Lib.spansFromP
        rw [if_pos hlt, hd]
        simp only
        cases hsp : spR s[pos].toNat
        · rw [if_neg (by decide)]
          cases st with
          | none =>
            rw [ih (pos + 1) (some pos) acc (hdrop 0) (by omega) (fun a h => by injection h; omega)]
            congr 1
            show sp ((lb s).drop (pos + 1)) (lb (s.extract pos (pos + 1))) = sp ((lb s).drop pos) []
            rw [sp_more hlt hsp, lb_extract_snoc (Nat.le_refl _) hlt]
            congr 1
            rw [lb_ext, Nat.sub_self]; rfl
          | some a =>
            have hapos := ha a rfl
            rw [ih (pos + 1) (some a) acc (hdrop 0) (by omega) (fun b h => by injection h; omega)]
            congr 1
            show sp ((lb s).drop (pos + 1)) (lb (s.extract a (pos + 1))) = sp ((lb s).drop pos) (lb (s.extract a pos))
            rw [sp_more hlt hsp, lb_extract_snoc (by omega) hlt]
        · rw [if_pos rfl]
          cases st with
          | none =>
            rw [ih (pos + 1) none acc (hdrop 0) (by omega) (fun a h => by cases h)]
            congr 1
            exact (sp_skip hlt hsp).symm
          | some a =>
            have hapos := ha a rfl
            rw [ih (pos + 1) none (acc ++ [(a, pos)]) (hdrop 0) (by omega) (fun a h => by cases h)]
            show spanW s (acc ++ [(a, pos)]) ++ sp ((lb s).drop (pos + 1)) [] = spanW s acc ++ sp ((lb s).drop pos) (lb (s.extract a pos))
            rw [sp_word (ext_ne hapos hp) (.inr ⟨hlt, hsp⟩), sp_skip hlt hsp]
            simp [spanW]
      · obtain ⟨h1, h2, h3, h4⟩ := decode_hi hlt (by omega)
        have hrun : ∀ j, pos ≤ j → j < pos + (Utf8.decode s pos).2 → (h : j < s.size) → spR s[j].toNat = false := fun j q1 q2 q3 => spR_hi (h4 j q1 q2 q3)
        unfold Lib.spansFromP
        rw [if_pos hlt, if_neg (by rw [spR_hi h1]; decide)]
        cases st with
        | none =>
          simp only
          rw [ih _ (some pos) acc (by omega) h3 (fun a h => by injection h; omega)]
          congr 1
          show sp ((lb s).drop (pos + (Utf8.decode s pos).2)) (lb (s.extract pos (pos + (Utf8.decode s pos).2))) = sp ((lb s).drop pos) []
          rw [← sp_run _ pos (Nat.le_refl _) h3 hrun]
          congr 1
          rw [lb_ext, Nat.sub_self]; rfl
        | some a =>
          have hapos := ha a rfl
          simp only
          rw [ih _ (some a) acc (by omega) h3 (fun b h => by injection h; omega)]
          congr 1
          show sp ((lb s).drop (pos + (Utf8.decode s pos).2)) (lb (s.extract a (pos + (Utf8.decode s pos).2))) = sp ((lb s).drop pos) (lb (s.extract a pos))
          rw [← sp_run _ pos (by omega) h3 hrun]
    · obtain rfl : pos = s.size := by omega
      have hd : (lb s).drop s.size = [] := List.drop_eq_nil_of_le (by simp [lb])
      rw [Lib.spansFromP_end _ _ _ _ _ _ hlt]
      cases st with
      | none => simp [Lib.closeSpans, stW, hd, sp]
      | some a => simp [Lib.closeSpans, stW, hd, sp, spanW, ext_ne (ha a rfl) (Nat.le_refl _)]
theorem flds_words (s : ByteArray) : strs (flds s) = words (lb s) := by
  have h := spans_words s s.size 0 none [] (by omega) (Nat.zero_le _) (fun a h => by cases h)
  unfold flds Lib.goFieldsP Lib.spansOfP strs
  rw [List.map_map]
  exact h
theorem idx_any (s : ByteArray) : ∀ (f pos : Nat), s.size - pos ≤ f → pos ≤ s.size → decide (0 ≤ Lib.idxFuncFrom dgR true s f pos) = ((lb s).drop pos).any (fun c => dgR c.toNat) := by
  intro f
  induction f with
  | zero =>
    intro pos hf hp
    obtain rfl : pos = s.size := by omega
    rw [List.drop_eq_nil_of_le (by simp [lb])]
    rfl
  | succ f ih =>
    intro pos hf hp
    by_cases hlt : pos < s.size
    · unfold Lib.idxFuncFrom
      rw [if_pos hlt]
      by_cases hb : s[pos].toNat < 128
      · rw [decode_lo hlt hb, any_drop hlt]
        simp only
        cases hd : dgR s[pos].toNat
        · rw [if_neg (by decide), Bool.false_or]
          exact ih (pos + 1) (by omega) (by omega)
        · rw [if_pos rfl, Bool.true_or]
          exact decide_eq_true (by omega)
      · obtain ⟨h1, h2, h3, h4⟩ := decode_hi hlt (by omega)
        rw [if_neg (by rw [dgR_hi h1]; decide), any_run _ pos h3 (fun j q1 q2 q3 => dgR_hi (h4 j q1 q2 q3))]
        exact ih _ (by omega) h3
    · obtain rfl : pos = s.size := by omega
      rw [Lib.idxFuncFrom_end _ _ _ _ _ hlt, List.drop_eq_nil_of_le (by simp [lb])]
      rfl
theorem vr_eq (s : ByteArray) : lb (vr s) = vrL (lb s) := by
  have h := idx_any s s.size 0 (by omega) (Nat.zero_le _)
  rw [List.drop_zero] at h
  unfold vr vrL
  by_cases hd : 0 ≤ Lib.idxFunc dgR true s
  · rw [if_pos hd, if_pos (by rw [← h]; exact decide_eq_true hd)]
  · rw [if_neg hd, if_neg (by rw [← h, show Lib.idxFuncFrom dgR true s s.size 0 = Lib.idxFunc dgR true s from rfl]; simpa using hd)]
/-- The program's tokens, as lists of bytes, are the reference's. -/
theorem toks_eq (s : ByteArray) : (toks s).map strs = tokW (lb s) := by
  unfold toks tokF tokW
  rw [← flds_words, strs_len]
  split
  · rfl
  · show some (strs ((flds s).map vr)) = _
    congr 1
    unfold strs
    rw [List.map_map, List.map_map]
    exact List.map_congr_left fun t _ => vr_eq t
end Go.Proofs.YtigogjlbemkhdaaGreat
