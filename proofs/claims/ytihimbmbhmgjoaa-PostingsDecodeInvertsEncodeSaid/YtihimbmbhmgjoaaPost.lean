/- The bytes of a posting list: plain data. -/
import Derived.Test.YtihimbmbhmgjoaaVarint
import Derived.Test.YtihimbmbhmgjoaaChunk
namespace Go.Proofs.Ytihimbmbhmgjoaa
open Go.RowKit

/-- The varints of the differences, from a on. -/
def gaps : Int → List Int → List UInt8
  | _, [] => []
  | a, x :: xs => uvar (x - a).toNat ++ gaps x xs
theorem gaps_push (xs : List Int) (y : Int) : ∀ a, gaps a (xs ++ [y]) = gaps a xs ++ uvar (y - xs.getLastD a).toNat := by
  induction xs with
  | nil => intro a; simp [gaps]
  | cons x xs ih =>
    intro a
    rw [List.cons_append, gaps, gaps, ih x, List.append_assoc]
    rw [show (x :: xs).getLastD a = xs.getLastD x from by cases xs <;> rfl]
theorem uvar_len : ∀ (k n : Nat), n < 128 ^ (k + 1) → (uvar n).length ≤ k + 1
  | 0, n, h => by rw [uvar_small (by simpa using h)]; simp
  | k + 1, n, h => by
    by_cases hn : n < 128
    · rw [uvar_small hn]; simp
    · rw [uvar_big hn, List.length_cons]
      have := uvar_len k (n / 128) ((Nat.div_lt_iff_lt_mul (by omega)).2 (by rwa [Nat.pow_succ] at h))
      omega
theorem uvar_len10 {n : Nat} (h : n < 18446744073709551616) : (uvar n).length ≤ 10 := uvar_len 9 n (Nat.lt_trans h (by decide))
theorem gaps_len (xs : List Int) : ∀ a, (∀ x ∈ xs, 0 ≤ x ∧ x < 9223372036854775808) → 0 ≤ a → (gaps a xs).length ≤ 10 * xs.length := by
  induction xs with
  | nil => intro a _ _; simp [gaps]
  | cons x xs ih =>
    intro a h ha
    have h1 := h x (by simp)
    have h2 := ih x (fun y hy => h y (by simp [hy])) h1.1
    have h3 := uvar_len10 (n := (x - a).toNat) (by omega)
    rw [gaps, List.length_append, List.length_cons]
    omega
/-- The chunk that begins at i. -/
def chk (l : List Int) (i : Nat) : List Int := (l.drop i).take (chLen l.length i)
theorem chLen_fit {len i : Nat} (h : i < len) : i + chLen len i ≤ len ∧ 0 < chLen len i := by unfold chLen; split <;> omega
theorem chk_len {l : List Int} {i : Nat} (h : i < l.length) : (chk l i).length = chLen l.length i := by
  have := chLen_fit h
  simp [chk]
  omega
/-- The skip entry of a chunk: its last identifier and the number of its bytes. -/
def entryB (c : List Int) : List UInt8 := uvar (c.getLastD 0).toNat ++ uvar (gaps 0 c).length
def headsOf (l : List Int) (st : List Nat) : List UInt8 := st.flatMap fun i => entryB (chk l i)
def bodiesOf (l : List Int) (st : List Nat) : List UInt8 := st.flatMap fun i => gaps 0 (chk l i)
theorem headsOf_push (l : List Int) (st : List Nat) (i : Nat) : headsOf l (st ++ [i]) = headsOf l st ++ entryB (chk l i) := by simp [headsOf]
theorem bodiesOf_push (l : List Int) (st : List Nat) (i : Nat) : bodiesOf l (st ++ [i]) = bodiesOf l st ++ gaps 0 (chk l i) := by simp [bodiesOf]
/-- Where all chunks begin. -/
def starts (n : Nat) : List Nat := (List.range ((n + 31) / 32)).map (32 * ·)
def postB (l : List Int) : List UInt8 := uvar l.length ++ headsOf l (starts l.length) ++ bodiesOf l (starts l.length)
theorem ChAll.starts {len : Nat} {pre : List (ChAt len)} (h : ChAll pre) : pre.map (·.1) = starts len := by
  obtain ⟨h1, h2⟩ := h
  have h3 : pre.length = (len + 31) / 32 := by
    rcases Nat.eq_zero_or_pos pre.length with h0 | h0
    · omega
    · have hm : 32 * (pre.length - 1) ∈ pre.map (·.1) := by
        rw [h1]
        exact List.mem_map.2 ⟨pre.length - 1, List.mem_range.2 (by omega), rfl⟩
      obtain ⟨x, _, hx⟩ := List.mem_map.1 hm
      have hx2 : x.1 = 32 * (pre.length - 1) := hx
      have := x.2.2
      omega
  rw [h1, h3]
  rfl
end Go.Proofs.Ytihimbmbhmgjoaa
