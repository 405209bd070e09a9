/- Reading the bytes of a posting list as the reference does: plain data. -/
import Derived.Test.YtihimbmbhmgjoaaPostD
namespace Go.Proofs.Ytihimbmbhmgjoaa
open Go.RowKit

theorem or_shift (acc n i : Nat) (ha : acc < 2 ^ i) : acc ||| n * 2 ^ i = acc + n * 2 ^ i := by
  rw [Nat.or_comm, Nat.mul_comm, ← Nat.two_pow_add_eq_or_of_lt ha, Nat.add_comm]
theorem gvGo_uvar (n : Nat) : ∀ (i acc : Nat) (t : List UInt8), i ≤ 9 → acc < 2 ^ (7 * i) → (i = 0 ∨ 0 < n) → acc + n * 2 ^ (7 * i) < 18446744073709551616 → gvGo i acc (uvar n ++ t) = some (acc + n * 2 ^ (7 * i), i + (uvar n).length) := by
  induction n using Nat.strongRecOn with
  | ind n ih =>
    intro i acc t hi ha hz hlt
    have h9 : i = 9 → n ≤ 1 := fun h => by
      subst h
      have h4 : (2 : Nat) ^ (7 * 9) = 9223372036854775808 := by decide
      rw [h4] at hlt
      omega
    by_cases hn : n < 128
    · rw [uvar_small hn]
      simp only [List.cons_append, List.nil_append, List.length_cons, List.length_nil]
      rw [gvGo, if_neg (by omega), u8_nat n (by omega), if_neg (by intro h; have := h9 h.1; omega), if_pos hn, if_neg (by omega)]
      have e1 : n % 128 = n := Nat.mod_eq_of_lt hn
      rw [e1, Nat.mod_eq_of_lt (by omega), or_shift acc n _ ha]
    · rw [uvar_big hn]
      simp only [List.cons_append, List.length_cons]
      have hc : (UInt8.ofNat (n % 128 + 128)).toNat = n % 128 + 128 := u8_nat _ (by omega)
      rw [gvGo, if_neg (by omega), hc, if_neg (by intro h; have := h9 h.1; omega), if_neg (by omega)]
      have e1 : (n % 128 + 128) % 128 = n % 128 := by omega
      have hp : 2 ^ (7 * (i + 1)) = 128 * 2 ^ (7 * i) := by rw [show 7 * (i + 1) = 7 + 7 * i by omega, Nat.pow_add]
      have hpos : 0 < 2 ^ (7 * i) := Nat.two_pow_pos _
      have hdm : n * 2 ^ (7 * i) = (n % 128) * 2 ^ (7 * i) + (n / 128) * (128 * 2 ^ (7 * i)) := by
        have : n = n % 128 + n / 128 * 128 := by omega
        calc n * 2 ^ (7 * i) = (n % 128 + n / 128 * 128) * 2 ^ (7 * i) := by rw [← this]
          _ = _ := by rw [Nat.add_mul, Nat.mul_assoc]
      have hm : n % 128 * 2 ^ (7 * i) ≤ 127 * 2 ^ (7 * i) := Nat.mul_le_mul_right _ (by omega)
      have hi' : i + 1 ≤ 9 := by
        by_cases h9' : i + 1 ≤ 9
        · exact h9'
        · have := h9 (by omega); omega
      rw [e1, Nat.mod_eq_of_lt (by omega), or_shift acc (n % 128) _ ha, ih (n / 128) (by omega) (i + 1) _ t hi' (by rw [hp]; omega) (.inr (by omega)) (by rw [hp]; omega), hp]
      congr 2
      · omega
      · omega
theorem getVar_uvar {l t : List UInt8} {p n : Nat} (h : l.drop p = uvar n ++ t) (hn : n < 18446744073709551616) : getVar l p = (n, p + (uvar n).length, true) := by
  have := gvGo_uvar n 0 0 t (by omega) (by simp) (.inl rfl) (by simpa using hn)
  rw [← h] at this
  rw [getVar_some this]
  simp
theorem drop_next {l a t : List UInt8} {p : Nat} (h : l.drop p = a ++ t) : l.drop (p + a.length) = t := by
  rw [← List.drop_drop, h, List.drop_left]
theorem gvGo_le : ∀ (l : List UInt8) (k v n m : Nat), v < 18446744073709551616 → gvGo k v l = some (n, m) → m ≤ k + l.length ∧ n < 18446744073709551616
  | [], k, v, n, m, _, h => by rw [gvGo] at h; cases h
  | c :: l, k, v, n, m, hv, h => by
    have hb := (gv_acc v k c hv).2
    rw [gvGo] at h
    split at h
    · cases h
    · split at h
      · cases h
      · split at h
        · split at h
          · cases h
          · injection h with h
            injection h with h1 h2
            subst h1 h2
            exact ⟨by simp, hb⟩
        · have := gvGo_le l _ _ n m hb h
          exact ⟨by simp; omega, this.2⟩
theorem getVar_le (l : List UInt8) (p : Nat) (hp : p ≤ l.length) : (getVar l p).1 < 18446744073709551616 ∧ (getVar l p).2.1 ≤ l.length := by
  unfold getVar
  split
  · rename_i n k h
    have := gvGo_le _ 0 0 n k (by omega) h
    rw [List.length_drop] at this
    exact ⟨this.2, by simp only; omega⟩
  · exact ⟨by simp, by simp⟩
theorem gvGo_pos : ∀ (l : List UInt8) (k v n m : Nat), gvGo k v l = some (n, m) → k < m
  | [], k, v, n, m, h => by rw [gvGo] at h; cases h
  | c :: l, k, v, n, m, h => by
    rw [gvGo] at h
    split at h
    · cases h
    · split at h
      · cases h
      · split at h
        · split at h
          · cases h
          · injection h with h
            injection h with h1 h2
            omega
        · have := gvGo_pos l _ _ n m h
          omega

/-- k varints are passed over. -/
def skipR : Nat → List UInt8 → Nat → Option Nat
  | 0, _, p => some p
  | k + 1, b, p => if (getVar b p).2.2 = true then skipR k b (getVar b p).2.1 else none
/-- The identifier before, 0 where a block begins. -/
def prevR (acc : List Int) : Int := if acc.length % 32 = 0 then 0 else acc.getLastD 0
def idsR : Nat → List Int → List UInt8 → Nat → Option (List Int)
  | 0, acc, _, _ => some acc
  | k + 1, acc, b, p => if (getVar b p).2.2 = true ∧ (getVar b p).1 < 4096 then idsR k (acc ++ [((getVar b p).1 : Int) + prevR acc]) b (getVar b p).2.1 else none
def decR (b : List UInt8) : Option (List Int) :=
  if (getVar b 0).2.2 = true ∧ (getVar b 0).1 ≤ 4096 then
    match skipR (2 * blocksNo (getVar b 0).1) b (getVar b 0).2.1 with
    | none => none
    | some p => idsR (getVar b 0).1 [] b p
  else none

theorem skipR_heads (b : List UInt8) : ∀ (ps : List (List Int)) (p : Nat) (r : List UInt8), (∀ c ∈ ps, c.length ≤ 32) → (∀ c ∈ ps, Rise 0 c) → b.drop p = ps.flatMap entryB ++ r → skipR (2 * ps.length) b p = some (p + (ps.flatMap entryB).length)
  | [], p, _, _, _, _ => by simp [skipR]
  | c :: ps, p, r, h1, h2, h => by
    have h3 := entry_small (h1 c (by simp)) (h2 c (by simp))
    rw [List.flatMap_cons, entryB, List.append_assoc, List.append_assoc] at h
    have g1 := getVar_uvar h (by omega)
    have h4 := drop_next h
    have g2 := getVar_uvar h4 (by omega)
    have h5 := drop_next h4
    rw [List.length_cons, show 2 * (ps.length + 1) = (2 * ps.length + 1) + 1 by omega, skipR, g1, if_pos rfl, skipR, g2, if_pos rfl]
    simp only
    rw [skipR_heads b ps _ r (fun c hc => h1 c (by simp [hc])) (fun c hc => h2 c (by simp [hc])) h5, List.flatMap_cons, entryB, List.length_append, List.length_append]
    congr 1
    omega
theorem prevR_push (acc : List Int) (x : Int) (h : (acc.length + 1) % 32 ≠ 0) : prevR (acc ++ [x]) = x := by
  unfold prevR
  rw [if_neg (by simpa using h)]
  simp [List.getLastD_eq_getLast?]
theorem idsR_gaps (b : List UInt8) (k : Nat) : ∀ (xs : List Int) (a : Int) (acc : List Int) (p : Nat) (r : List UInt8), 0 ≤ a → (xs = [] ∨ prevR acc = a) → xs.length ≤ 32 - acc.length % 32 → Rise a xs → b.drop p = gaps a xs ++ r →
    idsR (xs.length + k) acc b p = idsR k (acc ++ xs) b (p + (gaps a xs).length)
  | [], a, acc, p, r, _, _, _, _, _ => by simp [gaps]
  | x :: xs, a, acc, p, r, h0, hp, hl, ⟨h1, h2, h3⟩, h => by
    have hp : prevR acc = a := hp.resolve_left (by simp)
    rw [gaps, List.append_assoc] at h
    have g1 := getVar_uvar h (by omega)
    have h4 := drop_next h
    rw [List.length_cons] at hl
    rw [List.length_cons, show xs.length + 1 + k = (xs.length + k) + 1 by omega, idsR, g1, if_pos ⟨rfl, by simp only; omega⟩, hp]
    simp only
    have e : ((x - a).toNat : Int) + a = x := by omega
    rw [e]
    have hx : xs = [] ∨ prevR (acc ++ [x]) = x := by
      rcases Nat.eq_zero_or_pos xs.length with hz | hz
      · exact .inl (List.eq_nil_of_length_eq_zero hz)
      · exact .inr (prevR_push acc x (by omega))
    have hlen : xs.length ≤ 32 - (acc ++ [x]).length % 32 := by
      rw [List.length_append, List.length_singleton]
      omega
    rw [idsR_gaps b k xs x (acc ++ [x]) _ r (by omega) hx hlen h3 h4, List.append_assoc, gaps, List.length_append, List.singleton_append]
    congr 1
    omega
theorem idsR_bodies (b : List UInt8) : ∀ (K : Nat) (l acc : List Int) (p : Nat) (r : List UInt8), Rise 0 l → l.length ≤ 32 * K → acc.length % 32 = 0 → b.drop p = (parts K l).flatMap (gaps 0) ++ r → idsR l.length acc b p = some (acc ++ l)
  | 0, l, acc, _, _, _, h, _, _ => by
    have : l = [] := List.eq_nil_of_length_eq_zero (by omega)
    subst this
    simp [idsR]
  | K + 1, l, acc, p, r, hl, h, ha, hb => by
    rw [parts, List.flatMap_cons, List.append_assoc] at hb
    have h1 : prevR acc = 0 := if_pos ha
    have h2 := idsR_gaps b (l.drop 32).length (l.take 32) 0 acc p _ (Int.le_refl _) (.inr h1) (by simp; omega) (hl.take 32) hb
    rw [show (l.take 32).length + (l.drop 32).length = l.length by simp; omega] at h2
    rw [h2]
    rcases Nat.lt_or_ge 32 l.length with h3 | h3
    · rw [idsR_bodies b K (l.drop 32) (acc ++ l.take 32) _ r (hl.drop 32 (Int.le_refl _)) (by simp; omega) (by simp; omega) (drop_next hb), List.append_assoc, List.take_append_drop]
    · rw [List.drop_of_length_le h3, List.take_of_length_le h3]
      rfl
theorem decR_post {l : List Int} (hr : Rise 0 l) (hn : l.length ≤ 4096) : decR (postB l) = some l := by
  have h1 := parts_len (blocksNo l.length) l
  have h2 := parts_rise (blocksNo l.length) l hr
  have h3 := parts_count (blocksNo l.length) l
  have hd : (postB l).drop 0 = uvar l.length ++ ((parts (blocksNo l.length) l).flatMap entryB ++ (parts (blocksNo l.length) l).flatMap (gaps 0)) := by
    rw [List.drop_zero, postB, List.append_assoc, heads_parts, bodies_parts]
  have g := getVar_uvar hd (by omega)
  have hd2 := drop_next hd
  have h4 := skipR_heads (postB l) (parts (blocksNo l.length) l) _ _ h1 h2 hd2
  rw [h3] at h4
  have hd3 := drop_next hd2
  have h5 := idsR_bodies (postB l) (blocksNo l.length) l [] _ [] hr (by unfold blocksNo; omega) rfl (by rw [List.append_nil]; exact hd3)
  unfold decR
  rw [g]
  rw [if_pos ⟨rfl, hn⟩, h4]
  exact h5

/-- b are the bytes of the posting list l. -/
def IsPost (b : List UInt8) (l : List Int) : Prop := checkOf l = 0 ∧ postB l = b
theorem rise_of_check {l : List Int} (h : checkOf l = 0) : Rise 0 l ∧ l.length ≤ 4096 := by
  unfold checkOf at h
  split at h
  · cases h
  · rename_i h1
    split at h
    · cases h
    · rename_i h2
      split at h
      · rename_i h3
        have hb : ∀ x ∈ l, 0 ≤ x ∧ x < 4096 := fun x hx => by
          have h2' : l.any bad = false := by simpa using h2
          have h4 := List.any_eq_false.1 h2' x hx
          simp [bad] at h4
          omega
        exact ⟨Rise.of_up l 0 hb h3 (fun x hx => (hb x hx).1), by omega⟩
      · cases h
theorem IsPost.decP {b : List UInt8} {l : List Int} (h : IsPost b l) : decP b = some l := h.2 ▸ decP_post (rise_of_check h.1).1 (rise_of_check h.1).2
theorem IsPost.decR {b : List UInt8} {l : List Int} (h : IsPost b l) : decR b = some l := h.2 ▸ decR_post (rise_of_check h.1).1 (rise_of_check h.1).2
theorem IsPost.unique {b : List UInt8} {l m : List Int} (h : IsPost b l) (k : IsPost b m) : l = m := by
  have := h.decP.symm.trans k.decP
  injection this
end Go.Proofs.Ytihimbmbhmgjoaa
