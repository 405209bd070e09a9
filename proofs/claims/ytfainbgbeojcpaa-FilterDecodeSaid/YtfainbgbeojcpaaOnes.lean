/- The count of set bits: the sum by halves is the count. -/
import Derived.Test.YtfainbgbeojcpaaAdd
import Derived.Laws.Bits128
namespace Go.Proofs.Ytfainbgbeojcpaa
open Go.RowKit

/-- The number of set bits among the lowest n. -/
def pop : Nat → Nat → Nat
  | 0, _ => 0
  | n + 1, x => x % 2 + pop n (x / 2)
theorem pop_le (n x : Nat) : pop n x ≤ n := by
  induction n generalizing x with
  | zero => simp [pop]
  | succ n ih => simp only [pop]; have := ih (x / 2); omega
theorem pop_or (n x r : Nat) : pop n x ≤ pop n (x ||| 2 ^ r) ∧ pop n (x ||| 2 ^ r) ≤ pop n x + 1 := by
  induction n generalizing x r with
  | zero => simp [pop]
  | succ n ih =>
    cases r with
    | zero =>
      have e1 : (x ||| 2 ^ 0) % 2 = 1 := by rw [Nat.or_mod_two_eq_one]; simp
      have e2 : (x ||| 2 ^ 0) / 2 = x / 2 := by rw [Nat.or_div_two]; simp
      simp only [pop, e1, e2]
      omega
    | succ r =>
      have e0 : 2 ^ (r + 1) % 2 = 0 := by rw [Nat.pow_succ]; omega
      have e1 : (x ||| 2 ^ (r + 1)) % 2 = x % 2 := by
        have := @Nat.or_mod_two_eq_one x (2 ^ (r + 1))
        rcases Nat.mod_two_eq_zero_or_one (x ||| 2 ^ (r + 1)) with h | h <;> rcases Nat.mod_two_eq_zero_or_one x with h' | h' <;> omega
      have e2 : (x ||| 2 ^ (r + 1)) / 2 = x / 2 ||| 2 ^ r := by rw [Nat.or_div_two, Nat.pow_succ, Nat.mul_div_cancel _ (by omega)]
      simp only [pop, e1, e2]
      have := ih (x / 2) r
      omega
theorem pop_add (m n x : Nat) : pop (m + n) x = pop m x + pop n (x / 2 ^ m) := by
  induction m generalizing x with
  | zero => simp [pop]
  | succ m ih =>
    rw [show m + 1 + n = (m + n) + 1 from by omega]
    simp only [pop]
    rw [ih, Nat.div_div_eq_div_mul, Nat.pow_succ, Nat.mul_comm 2]
    omega
theorem pop_byte (n x : Nat) : pop (8 + n) x = pop 8 x + pop n (x / 256) := pop_add 8 n x
theorem pop_mod (x : Nat) : pop 8 (x % 256) = pop 8 x := by
  simp only [pop]
  omega

theorem byte_and (x m : Nat) : (x &&& m) % 256 = (x % 256) &&& (m % 256) := Nat.and_mod_two_pow (n := 8)
theorem byte_and_div (x m : Nat) : (x &&& m) / 256 = (x / 256) &&& (m / 256) := Nat.and_div_two_pow (n := 8)
def s1 (m x : Nat) : Nat := (x / 2 &&& m) + (x &&& m)
def s2 (m x : Nat) : Nat := (x / 4 &&& m) + (x &&& m)
def s3 (m x : Nat) : Nat := (x / 16 + x) &&& m
def b1 (b : Nat) : Nat := (b / 2 &&& 85) + (b &&& 85)
def b2 (b : Nat) : Nat := (b / 4 &&& 51) + (b &&& 51)
theorem dec1 : ∀ b < 256, ∀ c < 2, (b / 2 + 128 * c) &&& 85 = b / 2 &&& 85 := by decide +kernel
theorem dec2 : ∀ b < 256, ∀ c < 4, (b / 4 + 64 * c) &&& 51 = b / 4 &&& 51 := by decide +kernel
theorem dec3 : ∀ b < 256, b2 (b1 b) ≤ 102 ∧ b2 (b1 b) % 16 ≤ 6 ∧ (b2 (b1 b) / 16 + b2 (b1 b)) % 16 = pop 8 b := by decide +kernel
theorem b1_lt (b : Nat) : b1 b < 256 := by
  have := @Nat.and_le_right (b / 2) 85
  have := @Nat.and_le_right b 85
  unfold b1; omega
theorem sum_byte {a b x y : Nat} (ha : a % 256 = x) (hb : b % 256 = y) (h : x + y < 256) : (a + b) % 256 = x + y ∧ (a + b) / 256 = a / 256 + b / 256 := by omega
theorem s1_byte (m x : Nat) (h : m % 256 = 85) : s1 m x % 256 = b1 (x % 256) ∧ s1 m x / 256 = s1 (m / 256) (x / 256) := by
  have a1 : (x / 2 &&& m) % 256 = x % 256 / 2 &&& 85 := by
    rw [byte_and, h, show x / 2 % 256 = x % 256 / 2 + 128 * (x / 256 % 2) from by omega]
    exact dec1 _ (by omega) _ (by omega)
  have a2 : (x &&& m) % 256 = x % 256 &&& 85 := by rw [byte_and, h]
  have := sum_byte a1 a2 (b1_lt (x % 256))
  refine ⟨this.1, this.2.trans ?_⟩
  rw [byte_and_div, byte_and_div, show x / 2 / 256 = x / 256 / 2 from by omega]
  rfl
theorem s2_byte (m x : Nat) (h : m % 256 = 51) : s2 m x % 256 = b2 (x % 256) ∧ s2 m x / 256 = s2 (m / 256) (x / 256) := by
  have a1 : (x / 4 &&& m) % 256 = x % 256 / 4 &&& 51 := by
    rw [byte_and, h, show x / 4 % 256 = x % 256 / 4 + 64 * (x / 256 % 4) from by omega]
    exact dec2 _ (by omega) _ (by omega)
  have a2 : (x &&& m) % 256 = x % 256 &&& 51 := by rw [byte_and, h]
  have hb : (x % 256 / 4 &&& 51) + (x % 256 &&& 51) < 256 := by
    have := @Nat.and_le_right (x % 256 / 4) 51
    have := @Nat.and_le_right (x % 256) 51
    omega
  have := sum_byte a1 a2 hb
  refine ⟨this.1, this.2.trans ?_⟩
  rw [byte_and_div, byte_and_div, show x / 4 / 256 = x / 256 / 4 from by omega]
  rfl
theorem s3_byte (m x : Nat) (h : m % 256 = 15) (h1 : x % 256 ≤ 102) (h2 : x / 256 % 16 ≤ 6) : s3 m x % 256 = (x % 256 / 16 + x % 256) % 16 ∧ s3 m x / 256 = s3 (m / 256) (x / 256) := by
  have e : ∀ y : Nat, y &&& 15 = y % 16 := fun y => Nat.and_two_pow_sub_one_eq_mod y 4
  unfold s3
  refine ⟨?_, ?_⟩
  · rw [byte_and, h, e]; omega
  · rw [byte_and_div, show (x / 16 + x) / 256 = x / 256 / 16 + x / 256 from by omega]
/-- A byte repeated. -/
def rep (c : Nat) : Nat → Nat
  | 0 => 0
  | k + 1 => c + 256 * rep c k
theorem rep_mod (c k : Nat) (h : c < 256) : rep c (k + 1) % 256 = c ∧ rep c (k + 1) / 256 = rep c k := by simp only [rep]; omega
def ck (k x : Nat) : Nat := s3 (rep 15 k) (s2 (rep 51 k) (s1 (rep 85 k) x))
theorem two_low (k x : Nat) : s2 (rep 51 k) (s1 (rep 85 k) x) % 16 ≤ 6 := by
  cases k with
  | zero => simp [rep, s2]
  | succ k =>
    have h1 := s1_byte (rep 85 (k + 1)) x (rep_mod 85 k (by omega)).1
    have h2 := s2_byte (rep 51 (k + 1)) (s1 (rep 85 (k + 1)) x) (rep_mod 51 k (by omega)).1
    rw [h1.1] at h2
    have := dec3 (x % 256) (by omega)
    omega
theorem ck_succ (k x : Nat) : ck (k + 1) x % 256 = pop 8 x ∧ ck (k + 1) x / 256 = ck k (x / 256) := by
  have h1 := s1_byte (rep 85 (k + 1)) x (rep_mod 85 k (by omega)).1
  have h2 := s2_byte (rep 51 (k + 1)) (s1 (rep 85 (k + 1)) x) (rep_mod 51 k (by omega)).1
  rw [h1.1, h1.2, (rep_mod 85 k (by omega)).2, (rep_mod 51 k (by omega)).2] at h2
  have d := dec3 (x % 256) (by omega)
  have hl := two_low k (x / 256)
  have h3 := s3_byte (rep 15 (k + 1)) (s2 (rep 51 (k + 1)) (s1 (rep 85 (k + 1)) x)) (rep_mod 15 k (by omega)).1 (by rw [h2.1]; exact d.1) (by rw [h2.2]; exact hl)
  rw [h2.1, h2.2, (rep_mod 15 k (by omega)).2, d.2.2, pop_mod] at h3
  exact h3
theorem ck_eq (k x : Nat) : ck (k + 1) x = pop 8 x + 256 * ck k (x / 256) := by
  have := ck_succ k x
  omega
theorem ck_zero (x : Nat) : ck 0 x = 0 := by simp [ck, s3, rep]
theorem div_low (t L R : Nat) (h : t = L + 4294967296 * R) (hL : L < 4294967296) : t / 4294967296 = R := by omega
theorem div_low2 (t L R : Nat) (h : t = L + 65536 * R) (hL : L < 65536) : t / 65536 = R := by omega
theorem div_low1 (t L R : Nat) (h : t = L + 256 * R) (hL : L < 256) : t / 256 = R := by omega
theorem fold_bytes (c0 c1 c2 c3 c4 c5 c6 c7 y : Nat) (h0 : c0 ≤ 8) (h1 : c1 ≤ 8) (h2 : c2 ≤ 8) (h3 : c3 ≤ 8) (h4 : c4 ≤ 8) (h5 : c5 ≤ 8) (h6 : c6 ≤ 8) (h7 : c7 ≤ 8)
    (hy : y = c0 + 256 * (c1 + 256 * (c2 + 256 * (c3 + 256 * (c4 + 256 * (c5 + 256 * (c6 + 256 * c7))))))) :
    (y + y / 256 + (y + y / 256) / 65536 + (y + y / 256 + (y + y / 256) / 65536) / 4294967296) % 128 = c0 + c1 + c2 + c3 + c4 + c5 + c6 + c7 := by
  have e1 : y / 256 = c1 + 256 * (c2 + 256 * (c3 + 256 * (c4 + 256 * (c5 + 256 * (c6 + 256 * c7))))) := div_low1 _ c0 _ hy (by omega)
  obtain ⟨z, hz⟩ : ∃ z, z = y + y / 256 := ⟨_, rfl⟩
  rw [← hz]
  rw [e1, hy] at hz
  clear e1 hy
  have e2 : z / 65536 = (c2 + c3) + 256 * ((c3 + c4) + 256 * ((c4 + c5) + 256 * ((c5 + c6) + 256 * ((c6 + c7) + 256 * c7)))) := by
    refine div_low2 _ (c0 + c1 + 256 * (c1 + c2)) _ ?_ (by omega)
    rw [hz]
    simp only [Nat.mul_add, ← Nat.mul_assoc, Nat.reduceMul]
    omega
  obtain ⟨t, ht⟩ : ∃ t, t = z + z / 65536 := ⟨_, rfl⟩
  rw [← ht]
  rw [e2, hz] at ht
  clear e2 hz
  obtain ⟨R, hR⟩ : ∃ R, R = c5 + c6 + c7 + 256 * (c6 + c7 + 256 * c7) := ⟨_, rfl⟩
  have e3 : t / 4294967296 = c4 + c5 + c6 + c7 + 256 * R := by
    refine div_low _ (c0 + c1 + c2 + c3 + 256 * (c1 + c2 + c3 + c4) + 65536 * (c2 + c3 + c4 + c5) + 16777216 * (c3 + c4 + c5 + c6)) _ ?_ (by omega)
    rw [ht, hR]
    simp only [Nat.mul_add, ← Nat.mul_assoc, Nat.reduceMul]
    omega
  obtain ⟨S, hS⟩ : ∃ S, S = (c1 + c2 + c3 + c4) + 256 * (c2 + c3 + c4 + c5) + 65536 * (c3 + c4 + c5 + c6) + 16777216 * (c4 + c5 + c6 + c7 + 256 * R) := ⟨_, rfl⟩
  have e4 : t = c0 + c1 + c2 + c3 + 256 * S := by
    rw [ht, hS, hR]
    simp only [Nat.mul_add, ← Nat.mul_assoc, Nat.reduceMul]
    omega
  rw [e3, e4]
  clear hS hR e3 e4 ht
  omega
end Go.Proofs.Ytfainbgbeojcpaa
