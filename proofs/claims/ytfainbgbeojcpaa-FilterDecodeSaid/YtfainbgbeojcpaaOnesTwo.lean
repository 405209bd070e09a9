/- Ones counts the set bits; a bit that is set adds at most one. -/
import Derived.Test.YtfainbgbeojcpaaOnes
namespace Go.Proofs.Ytfainbgbeojcpaa
open Go.RowKit

theorem wrap_u64_in (n : Nat) (h : n < 18446744073709551616) : IntKind.u64.wrap (n : Int) = (n : Int) := by rw [IntKind.wrap_u64]; omega
theorem rep85 : rep 85 8 = 6148914691236517205 := by simp [rep]
theorem rep51 : rep 51 8 = 3689348814741910323 := by simp [rep]
theorem rep15 : rep 15 8 = 1085102592571150095 := by simp [rep]
theorem oc1_nat (n : Nat) (h : n < 18446744073709551616) : oc1 (n : Int) = ((s1 (rep 85 8) n : Nat) : Int) := by
  have a := u64_and_nat (n / 2) 6148914691236517205 (by omega) (by omega)
  have b := u64_and_nat n 6148914691236517205 h (by omega)
  have l1 := @Nat.and_le_right (n / 2) 6148914691236517205
  have l2 := @Nat.and_le_right n 6148914691236517205
  unfold oc1 s1
  rw [rep85, show ((n : Int) / 2) = ((n / 2 : Nat) : Int) from by omega, show (6148914691236517205 : Int) = ((6148914691236517205 : Nat) : Int) from rfl, a, b, ← Int.natCast_add]
  exact wrap_u64_in _ (by omega)
theorem s1_le (n : Nat) : s1 (rep 85 8) n ≤ 12297829382473034410 := by
  have l1 := @Nat.and_le_right (n / 2) 6148914691236517205
  have l2 := @Nat.and_le_right n 6148914691236517205
  unfold s1
  rw [rep85]
  omega
theorem s2_le (n : Nat) : s2 (rep 51 8) n ≤ 7378697629483820646 := by
  have l1 := @Nat.and_le_right (n / 4) 3689348814741910323
  have l2 := @Nat.and_le_right n 3689348814741910323
  unfold s2
  rw [rep51]
  omega
theorem s3_le (n : Nat) : s3 (rep 15 8) n ≤ 1085102592571150095 := by
  have l1 := @Nat.and_le_right (n / 16 + n) 1085102592571150095
  unfold s3
  rw [rep15]
  omega
theorem oc2_nat (n : Nat) (h : n < 18446744073709551616) : oc2 (n : Int) = ((s2 (rep 51 8) n : Nat) : Int) := by
  have a := u64_and_nat (n / 4) 3689348814741910323 (by omega) (by omega)
  have b := u64_and_nat n 3689348814741910323 h (by omega)
  have l1 := @Nat.and_le_right (n / 4) 3689348814741910323
  have l2 := @Nat.and_le_right n 3689348814741910323
  unfold oc2 s2
  rw [rep51, show ((n : Int) / 4) = ((n / 4 : Nat) : Int) from by omega, show (3689348814741910323 : Int) = ((3689348814741910323 : Nat) : Int) from rfl, a, b, ← Int.natCast_add]
  exact wrap_u64_in _ (by omega)
theorem oc3_nat (n : Nat) (h : n ≤ 7378697629483820646) : oc3 (n : Int) = ((s3 (rep 15 8) n : Nat) : Int) := by
  have a := u64_and_nat (n / 16 + n) 1085102592571150095 (by omega) (by omega)
  unfold oc3 s3
  rw [rep15, show ((n : Int) / 16 + n) = ((n / 16 + n : Nat) : Int) from by omega, wrap_u64_in _ (by omega), show (1085102592571150095 : Int) = ((1085102592571150095 : Nat) : Int) from rfl, a]
theorem oc4_nat (y : Nat) (h : y ≤ 1085102592571150095) : oc4 (y : Int) = ((y + y / 256 : Nat) : Int) := by
  unfold oc4
  rw [show ((y : Int) + y / 256) = ((y + y / 256 : Nat) : Int) from by omega]
  exact wrap_u64_in _ (by omega)
theorem oc5_nat (z : Nat) (h : z ≤ 2 * 1085102592571150095) : oc5 (z : Int) = ((z + z / 65536 : Nat) : Int) := by
  unfold oc5
  rw [show ((z : Int) + z / 65536) = ((z + z / 65536 : Nat) : Int) from by omega]
  exact wrap_u64_in _ (by omega)
theorem oc6_nat (t : Nat) (h : t ≤ 4 * 1085102592571150095) : oc6 (t : Int) = ((t + t / 4294967296 : Nat) : Int) := by
  unfold oc6
  rw [show ((t : Int) + t / 4294967296) = ((t + t / 4294967296 : Nat) : Int) from by omega]
  exact wrap_u64_in _ (by omega)
theorem wrap_mod (u : Nat) : wrap64 (u : Int) % 128 = ((u % 128 : Nat) : Int) := by unfold wrap64; omega
theorem le2 (y k : Nat) {b : Nat} (h : y ≤ b) : y + y / k ≤ 2 * b := by have := Nat.div_le_self y k; omega
theorem oc_tail (y : Nat) (h : y ≤ 1085102592571150095) : bits .and .i64 (wrap64 (oc6 (oc5 (oc4 (y : Int))))) 127 = (((y + y / 256 + (y + y / 256) / 65536 + (y + y / 256 + (y + y / 256) / 65536) / 4294967296) % 128 : Nat) : Int) := by
  have h1 := le2 y 256 h
  have h2 := le2 _ 65536 h1
  rw [oc4_nat y h, oc5_nat _ h1, oc6_nat _ (by rw [show 4 * 1085102592571150095 = 2 * (2 * 1085102592571150095) from rfl]; exact h2), i64_and127, wrap_mod]
theorem pop64 (n : Nat) : pop 64 n = pop 8 n + (pop 8 (n / 256) + (pop 8 (n / 256 / 256) + (pop 8 (n / 256 / 256 / 256) + (pop 8 (n / 256 / 256 / 256 / 256) + (pop 8 (n / 256 / 256 / 256 / 256 / 256) + (pop 8 (n / 256 / 256 / 256 / 256 / 256 / 256) + pop 8 (n / 256 / 256 / 256 / 256 / 256 / 256 / 256))))))) := by
  exact (pop_byte 56 _).trans (congrArg _ ((pop_byte 48 _).trans (congrArg _ ((pop_byte 40 _).trans (congrArg _ ((pop_byte 32 _).trans (congrArg _ ((pop_byte 24 _).trans (congrArg _ ((pop_byte 16 _).trans (congrArg _ (pop_byte 8 _))))))))))))
theorem ck8 (n : Nat) : ck 8 n = pop 8 n + 256 * (pop 8 (n / 256) + 256 * (pop 8 (n / 256 / 256) + 256 * (pop 8 (n / 256 / 256 / 256) + 256 * (pop 8 (n / 256 / 256 / 256 / 256) + 256 * (pop 8 (n / 256 / 256 / 256 / 256 / 256) + 256 * (pop 8 (n / 256 / 256 / 256 / 256 / 256 / 256) + 256 * pop 8 (n / 256 / 256 / 256 / 256 / 256 / 256 / 256))))))) := by
  rw [ck_eq, ck_eq, ck_eq, ck_eq, ck_eq, ck_eq, ck_eq, ck_eq, ck_zero, Nat.mul_zero, Nat.add_zero]
theorem oc_nat (n : Nat) (h : n < 18446744073709551616) : oc (n : Int) = ((pop 64 n : Nat) : Int) := by
  have e3 : oc3 (oc2 (oc1 (n : Int))) = ((ck 8 n : Nat) : Int) := by
    have l1 := s1_le n
    have l2 := s2_le (s1 (rep 85 8) n)
    rw [oc1_nat n h, oc2_nat _ (Nat.lt_of_le_of_lt l1 (by omega)), oc3_nat _ l2]
    simp only [ck]
  unfold oc
  rw [e3, oc_tail _ (by simp only [ck]; exact s3_le _)]
  rw [fold_bytes _ _ _ _ _ _ _ _ (ck 8 n) (pop_le 8 n) (pop_le 8 (n / 256)) (pop_le 8 (n / 256 / 256)) (pop_le 8 (n / 256 / 256 / 256)) (pop_le 8 (n / 256 / 256 / 256 / 256)) (pop_le 8 (n / 256 / 256 / 256 / 256 / 256)) (pop_le 8 (n / 256 / 256 / 256 / 256 / 256 / 256)) (pop_le 8 (n / 256 / 256 / 256 / 256 / 256 / 256 / 256)) (ck8 n), pop64]
  simp only [Nat.add_assoc]
end Go.Proofs.Ytfainbgbeojcpaa
