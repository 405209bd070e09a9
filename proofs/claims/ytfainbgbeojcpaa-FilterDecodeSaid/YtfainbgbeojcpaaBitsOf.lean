/- The bits of a filter's words: what setting them and combining them does. -/
import Derived.Test.YtfainbgbeojcpaaOnesTwo
namespace Go.Proofs.Ytfainbgbeojcpaa
open Go.RowKit

def UL (l : List Int) : Prop := ∀ x ∈ l, U64 x
theorem UL.at {l : List Int} (h : UL l) (i : Nat) : U64 (l.getD i 0) := by
  by_cases hq : i < l.length
  · have e : l.getD i 0 = l[i] := by simp [hq]
    rw [e]; exact h _ (List.getElem_mem _)
  · have e : l.getD i 0 = 0 := by simp [List.getElem?_eq_none (Nat.not_lt.1 hq)]
    rw [e]; exact ⟨by omega, by omega⟩
theorem UL.get {l : List Int} (h : UL l) (i : Nat) : ∃ n : Nat, l.getD i 0 = (n : Int) ∧ n < 18446744073709551616 := by
  obtain ⟨h0, h1⟩ := h.at i
  exact ⟨(l.getD i 0).toNat, by omega, by omega⟩
theorem two_pow_lt (r : Nat) (h : r < 64) : 2 ^ r < 18446744073709551616 := by
  have : 2 ^ r < 2 ^ 64 := Nat.pow_lt_pow_right (by omega) h
  omega
theorem orBit_nat (n : Nat) (h : n < 18446744073709551616) (p : Int) : orBit (n : Int) p = ((n ||| 2 ^ (p % 64).toNat : Nat) : Int) := by
  have hr : (p % 64).toNat < 64 := by omega
  have h2 := two_pow_lt _ hr
  unfold orBit
  generalize (p % 64).toNat = r at hr h2 ⊢
  rw [show ((2 : Int) ^ r) = ((2 ^ r : Nat) : Int) from by simp, wrap_u64_in _ h2, u64_or_nat _ _ h h2]
theorem or_lt (n m : Nat) (h : n < 18446744073709551616) (h' : m < 18446744073709551616) : n ||| m < 18446744073709551616 := Nat.or_lt_two_pow (n := 64) h h'
theorem setBit_UL {l : List Int} (h : UL l) (p : Int) : UL (setBit l p) := by
  intro x hx
  obtain ⟨n, hn, hlt⟩ := h.get (p / 64).toNat
  rcases List.mem_or_eq_of_mem_set hx with hm | rfl
  · exact h x hm
  · rw [hn, orBit_nat n hlt]
    have := or_lt n (2 ^ (p % 64).toNat) hlt (two_pow_lt _ (by omega))
    exact ⟨by omega, by omega⟩
theorem setBits_UL {l : List Int} (h : UL l) (ps : List Int) : UL (setBits l ps) := by
  unfold setBits
  induction ps generalizing l with
  | nil => exact h
  | cons p ps ih => exact ih (setBit_UL h p)
theorem zeros_UL (n : Nat) : UL (zeros n) := by
  intro x hx
  rw [zeros, List.mem_replicate] at hx
  rw [hx.2]; exact ⟨by omega, by omega⟩
/-- The bit at a position. -/
def bt (l : List Int) (p : Int) : Bool := (l.getD (p / 64).toNat 0).toNat.testBit (p % 64).toNat
theorem hasB_bt {l : List Int} (h : UL l) (p : Int) : hasB l p = bt l p := by
  obtain ⟨n, hn, hlt⟩ := h.get (p / 64).toNat
  unfold hasB bt bitVal
  rw [and_one _ (div_u64 (h.at _) _), hn, Nat.testBit_eq_decide_div_mod_eq]
  generalize (p % 64).toNat = r
  rw [show ((2 : Int) ^ r) = ((2 ^ r : Nat) : Int) from by simp, ← Int.natCast_ediv, Int.toNat_natCast]
  generalize n / 2 ^ r = m
  rw [Bool.eq_iff_iff]
  simp
  omega
theorem bt_setBit {l : List Int} (h : UL l) (p q : Int) (hp : 0 ≤ p ∧ p < 64 * l.length) (hq : 0 ≤ q) : bt (setBit l p) q = (bt l q || decide (p = q)) := by
  obtain ⟨n, hn, hlt⟩ := h.get (p / 64).toNat
  have hpl : (p / 64).toNat < l.length := by omega
  unfold bt setBit
  rw [hn, orBit_nat n hlt]
  by_cases e : (p / 64).toNat = (q / 64).toNat
  · rw [← e, hn]
    rw [show (l.set (p / 64).toNat ((n ||| 2 ^ (p % 64).toNat : Nat) : Int)).getD (p / 64).toNat 0 = ((n ||| 2 ^ (p % 64).toNat : Nat) : Int) from by simp [hpl]]
    rw [Int.toNat_natCast, Int.toNat_natCast, Nat.testBit_or, Nat.testBit_two_pow]
    congr 1
    rw [decide_eq_decide]
    omega
  · rw [show (l.set (p / 64).toNat ((n ||| 2 ^ (p % 64).toNat : Nat) : Int)).getD (q / 64).toNat 0 = l.getD (q / 64).toNat 0 from by simp [e]]
    have : decide (p = q) = false := by simp; intro h; exact e (by rw [h])
    rw [this, Bool.or_false]
theorem bt_setBits {l : List Int} (h : UL l) (ps : List Int) (q : Int) (hp : ∀ p ∈ ps, 0 ≤ p ∧ p < 64 * l.length) (hq : 0 ≤ q) : bt (setBits l ps) q = (bt l q || decide (q ∈ ps)) := by
  unfold setBits
  induction ps generalizing l with
  | nil => simp
  | cons p ps ih =>
    rw [List.foldl_cons, ih (setBit_UL h p) (fun x hx => by rw [setBit_len]; exact hp x (List.mem_cons_of_mem _ hx)), bt_setBit h p q (hp p (List.mem_cons_self ..)) hq, Bool.or_assoc]
    congr 1
    rw [Bool.eq_iff_iff, Bool.or_eq_true, decide_eq_true_eq, decide_eq_true_eq, decide_eq_true_eq, List.mem_cons, eq_comm]
theorem bt_zeros (n : Nat) (q : Int) : bt (zeros n) q = false := by
  have : (zeros n).getD (q / 64).toNat 0 = 0 := by
    unfold zeros
    by_cases h : (q / 64).toNat < n <;> simp [h]
  unfold bt
  rw [this]; simp
/-- Words with the same bits are the same. -/
theorem ext_bt {a b : List Int} (ha : UL a) (hb : UL b) (hl : a.length = b.length) (h : ∀ q : Int, 0 ≤ q → bt a q = bt b q) : a = b := by
  refine List.ext_getElem hl fun i h1 h2 => ?_
  obtain ⟨n, hn, hnl⟩ := ha.get i
  obtain ⟨m, hm, hml⟩ := hb.get i
  have e1 : a[i] = (n : Int) := by rw [← hn]; simp [h1]
  have e2 : b[i] = (m : Int) := by rw [← hm]; simp [h2]
  rw [e1, e2]
  congr 1
  refine Nat.eq_of_testBit_eq fun r => ?_
  by_cases hr : r < 64
  · have := h (64 * i + r) (by omega)
    unfold bt at this
    rw [show ((64 * i + r : Int) / 64).toNat = i from by omega, show ((64 * i + r : Int) % 64).toNat = r from by omega, hn, hm, Int.toNat_natCast, Int.toNat_natCast] at this
    exact this
  · have hpow : 18446744073709551616 ≤ 2 ^ r := by
      have : 2 ^ 64 ≤ 2 ^ r := Nat.pow_le_pow_right (by omega) (by omega)
      omega
    rw [Nat.testBit_lt_two_pow (Nat.lt_of_lt_of_le hnl hpow), Nat.testBit_lt_two_pow (Nat.lt_of_lt_of_le hml hpow)]
theorem orZip_at (a b : List Int) (i : Nat) (h : i < a.length) : (orZip a b).getD i 0 = bits .or .u64 (a.getD i 0) (b.getD i 0) := by
  simp [orZip, orUpto, h]
theorem orZip_UL {a b : List Int} (ha : UL a) (hb : UL b) : UL (orZip a b) := by
  intro x hx
  simp only [orZip, orUpto, List.mem_map, List.mem_range] at hx
  obtain ⟨i, hi, rfl⟩ := hx
  rw [if_pos hi]
  obtain ⟨n, hn, hnl⟩ := ha.get i
  obtain ⟨m, hm, hml⟩ := hb.get i
  rw [hn, hm, u64_or_nat n m hnl hml]
  have := or_lt n m hnl hml
  exact ⟨by omega, by omega⟩
theorem bt_orZip {a b : List Int} (ha : UL a) (hb : UL b) (hl : a.length = b.length) (q : Int) : bt (orZip a b) q = (bt a q || bt b q) := by
  unfold bt
  obtain ⟨n, hn, hnl⟩ := ha.get (q / 64).toNat
  obtain ⟨m, hm, hml⟩ := hb.get (q / 64).toNat
  by_cases h : (q / 64).toNat < a.length
  · rw [orZip_at a b _ h, hn, hm, u64_or_nat n m hnl hml, Int.toNat_natCast, Int.toNat_natCast, Int.toNat_natCast, Nat.testBit_or]
  · have e1 : (orZip a b).getD (q / 64).toNat 0 = 0 := by simp [orZip, orUpto, h]
    have e2 : a.getD (q / 64).toNat 0 = 0 := by simp [List.getElem?_eq_none (Nat.not_lt.1 h)]
    have e3 : b.getD (q / 64).toNat 0 = 0 := by simp [List.getElem?_eq_none (hl ▸ Nat.not_lt.1 h)]
    rw [e1, e2, e3]; simp
theorem orZip_len (a b : List Int) : (orZip a b).length = a.length := orUpto_len _ _ _
theorem orZip_comm {a b : List Int} (ha : UL a) (hb : UL b) (hl : a.length = b.length) : orZip a b = orZip b a :=
  ext_bt (orZip_UL ha hb) (orZip_UL hb ha) (by rw [orZip_len, orZip_len, hl]) fun q _ => by rw [bt_orZip ha hb hl, bt_orZip hb ha hl.symm, Bool.or_comm]
end Go.Proofs.Ytfainbgbeojcpaa
