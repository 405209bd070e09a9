/- A changed byte changes the checksum. No program in sight. -/
import Derived.Test.YtkjhnipjhefndaaSum
namespace Go.Proofs.Ytkjhnipjhefndaa
open Go.RowKit

theorem xor_poly_ge (x : Nat) (hx : x < 2147483648) : 2147483648 ≤ x ^^^ 3988292384 := by
  by_cases h : x ^^^ 3988292384 < 2147483648
  · have h1 : x ^^^ (x ^^^ 3988292384) < 2147483648 := Nat.xor_lt_two_pow (n := 31) hx h
    rw [← Nat.xor_assoc, Nat.xor_self, Nat.zero_xor] at h1
    omega
  · omega
theorem xor_cancel {a b c : Nat} (h : a ^^^ c = b ^^^ c) : a = b := by
  have := congrArg (· ^^^ c) h
  simpa [Nat.xor_assoc] using this
theorem xor_cancel' {a b c : Nat} (h : c ^^^ a = c ^^^ b) : a = b := by
  rw [Nat.xor_comm c a, Nat.xor_comm c b] at h
  exact xor_cancel h
theorem cstep_inj {a b : Nat} (ha : a < 4294967296) (hb : b < 4294967296) (h : cstep a = cstep b) : a = b := by
  have h1 := xor_poly_ge (a / 2) (by omega)
  have h2 := xor_poly_ge (b / 2) (by omega)
  unfold cstep at h
  by_cases p : a % 2 = 1
  · by_cases q : b % 2 = 1
    · rw [if_pos p, if_pos q] at h
      have := xor_cancel h
      omega
    · rw [if_pos p, if_neg q] at h
      omega
  · by_cases q : b % 2 = 1
    · rw [if_neg p, if_pos q] at h
      omega
    · rw [if_neg p, if_neg q] at h
      omega
theorem cit_inj : ∀ (n : Nat) {a b : Nat}, a < 4294967296 → b < 4294967296 → cit n a = cit n b → a = b
  | 0, _, _, _, _, h => h
  | n + 1, _, _, ha, hb, h => cit_inj n ha hb (cstep_inj (cit_lt n ha) (cit_lt n hb) h)
theorem u8_lt32 (x : UInt8) : x.toNat < 4294967296 := by have := x.toNat_lt; omega
theorem cbyte_inj {a b : Nat} (x : UInt8) (ha : a < 4294967296) (hb : b < 4294967296) (h : cbyte a x = cbyte b x) : a = b :=
  xor_cancel (cit_inj 8 (xor_lt32 ha (u8_lt32 x)) (xor_lt32 hb (u8_lt32 x)) h)
theorem cbyte_inj' {a : Nat} {x y : UInt8} (ha : a < 4294967296) (h : cbyte a x = cbyte a y) : x = y :=
  UInt8.toNat_inj.1 (xor_cancel' (cit_inj 8 (xor_lt32 ha (u8_lt32 x)) (xor_lt32 ha (u8_lt32 y)) h))
theorem fold_inj : ∀ (l : List UInt8) {a b : Nat}, a < 4294967296 → b < 4294967296 → l.foldl cbyte a = l.foldl cbyte b → a = b
  | [], _, _, _, _, h => h
  | x :: l, _, _, ha, hb, h => cbyte_inj x ha hb (fold_inj l (cbyte_lt ha x) (cbyte_lt hb x) h)
theorem crc_flip (p s : List UInt8) (x y : UInt8) (h : crc (p ++ x :: s) = crc (p ++ y :: s)) : x = y := by
  have h1 := xor_cancel' h
  unfold crcN at h1
  rw [List.foldl_append, List.foldl_append, List.foldl_cons, List.foldl_cons] at h1
  have hp := crcN_lt p
  exact cbyte_inj' hp (fold_inj s (cbyte_lt hp x) (cbyte_lt hp y) h1)
theorem crcB_inj {a b : Nat} (ha : a < 4294967296) (hb : b < 4294967296) (h : crcB a = crcB b) : a = b := by
  unfold crcB at h
  injection h with h1 h
  injection h with h2 h
  injection h with h3 h
  injection h with h4 _
  have e1 := congrArg UInt8.toNat h1
  have e2 := congrArg UInt8.toNat h2
  have e3 := congrArg UInt8.toNat h3
  have e4 := congrArg UInt8.toNat h4
  simp only [UInt8.toNat_ofNat'] at e1 e2 e3 e4
  omega
/-- A list with one element changed. -/
theorem set_split (b : List UInt8) (i : Nat) (y : UInt8) (h : i < b.length) : b = b.take i ++ b[i] :: b.drop (i + 1) ∧ b.set i y = b.take i ++ y :: b.drop (i + 1) := by
  refine ⟨by rw [← List.drop_eq_getElem_cons h, List.take_append_drop], ?_⟩
  rw [List.set_eq_take_append_cons_drop, if_pos h]
theorem crc_set (b : List UInt8) (i : Nat) (y : UInt8) (h : i < b.length) (hy : y ≠ b[i]) : crc (b.set i y) ≠ crc b := by
  intro e
  obtain ⟨h1, h2⟩ := set_split b i y h
  rw [h2] at e
  have e' : crc (b.take i ++ y :: b.drop (i + 1)) = crc (b.take i ++ b[i] :: b.drop (i + 1)) := by rw [e, ← h1]
  exact hy (crc_flip _ _ _ _ e')
/-- Bytes and their checksum, with one byte changed: the checksum does not fit any more. -/
theorem sum_set (d : List UInt8) (i : Nat) (y : UInt8) (h : i < (d ++ crcB (crc d)).length) (hy : y ≠ (d ++ crcB (crc d))[i]) :
    crcB (crc (((d ++ crcB (crc d)).set i y).take d.length)) ≠ ((d ++ crcB (crc d)).set i y).drop d.length := by
  by_cases hi : i < d.length
  · rw [List.set_append_left _ _ hi, List.take_left' (by simp), List.drop_left' (by simp)]
    rw [List.getElem_append_left hi] at hy
    intro e
    exact crc_set d i y hi hy (crcB_inj (crc_lt _) (crc_lt _) e)
  · rw [List.set_append_right _ _ (by omega), List.take_left' rfl, List.drop_left' rfl]
    rw [List.getElem_append_right (by omega)] at hy
    intro e
    have hi2 : i - d.length < (crcB (crc d)).length := by rw [List.length_append] at h; omega
    have := congrArg (fun l => l[i - d.length]?) e
    simp only [List.getElem?_set_self hi2, List.getElem?_eq_getElem hi2] at this
    injection this with this
    exact hy this.symm
end Go.Proofs.Ytkjhnipjhefndaa
