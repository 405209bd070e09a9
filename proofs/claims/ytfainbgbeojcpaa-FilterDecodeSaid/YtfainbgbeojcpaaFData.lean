/- The bytes of a filter: plain data. -/
import Derived.Test.YtfainbgbeojcpaaUspec
import Derived.Test.YtfainbgbeojcpaaOff
import Derived.Laws.BitsAllLaws
namespace Go.Proofs.Ytfainbgbeojcpaa
open Go.RowKit

/-- The first k bytes of a word, the least first. -/
def leT (x : Nat) (k : Nat) : List UInt8 := (List.range k).map fun j => UInt8.ofNat (x / 2 ^ (8 * j))
theorem leT_succ (x k : Nat) : leT x (k + 1) = leT x k ++ [UInt8.ofNat (x / 2 ^ (8 * k))] := by simp [leT, List.range_succ]
theorem leT_len (x k : Nat) : (leT x k).length = k := by simp [leT]
/-- The word that bytes stand for, the least first. -/
def wordF (c : List UInt8) : Nat := c.foldr (fun b v => v * 256 + b.toNat) 0
theorem wordF_nil : wordF [] = 0 := rfl
theorem wordF_cons (b : UInt8) (c : List UInt8) : wordF (b :: c) = wordF c * 256 + b.toNat := rfl
theorem wordF_lt : ∀ (c : List UInt8) (k : Nat), c.length ≤ k → wordF c < 256 ^ k
  | [], k, _ => Nat.pow_pos (by omega)
  | b :: c, 0, h => by simp at h
  | b :: c, k + 1, h => by
    have h1 := wordF_lt c k (by simpa using h)
    have h2 := b.toNat_lt
    rw [wordF_cons, Nat.pow_succ]
    omega
theorem wordF_le (x : Nat) (hx : x < 18446744073709551616) : wordF (leT x 8) = x := by
  have e : leT x 8 = [UInt8.ofNat (x / 1), UInt8.ofNat (x / 256), UInt8.ofNat (x / 65536), UInt8.ofNat (x / 16777216), UInt8.ofNat (x / 4294967296), UInt8.ofNat (x / 1099511627776), UInt8.ofNat (x / 281474976710656), UInt8.ofNat (x / 72057594037927936)] := rfl
  rw [e]
  simp only [wordF, List.foldr_cons, List.foldr_nil, UInt8.toNat_ofNat']
  omega
/-- A step from the last byte on. -/
theorem wordF_drop (c : List UInt8) (j : Nat) (hj : j < c.length) : wordF (c.drop j) = wordF (c.drop (j + 1)) * 256 + c[j].toNat := by
  rw [List.drop_eq_getElem_cons hj, wordF_cons]
def chk8 (l : List UInt8) (i : Nat) : List UInt8 := (l.drop (8 * i)).take 8
def wordsF (l : List UInt8) (n : Nat) : List Int := (List.range n).map fun i => (wordF (chk8 l i) : Int)
theorem wordsF_len (l : List UInt8) (n : Nat) : (wordsF l n).length = n := by simp [wordsF]
theorem wordsF_at (l : List UInt8) (n i : Nat) (h : i < (wordsF l n).length) : (wordsF l n)[i] = (wordF (chk8 l i) : Int) := by simp [wordsF]
theorem wordsF_succ (l : List UInt8) (n : Nat) : wordsF l (n + 1) = wordsF l n ++ [(wordF (chk8 l n) : Int)] := by simp [wordsF, List.range_succ]
/-- The bytes of a filter. -/
def bodyF (l : List Int) : List UInt8 := l.flatMap fun x => leT x.toNat 8
def headF (h : Int) (n : Nat) : List UInt8 := [UInt8.ofNat (h % 256).toNat, UInt8.ofNat (n / 256), UInt8.ofNat n]
def encF (h : Int) (l : List Int) : List UInt8 := headF h l.length ++ bodyF l
theorem bodyF_len : ∀ l : List Int, (bodyF l).length = 8 * l.length
  | [] => rfl
  | x :: l => by
    have := bodyF_len l
    unfold bodyF at this ⊢
    rw [List.flatMap_cons, List.length_append, leT_len, this, List.length_cons]
    omega
theorem bodyF_push (l : List Int) (x : Int) : bodyF (l ++ [x]) = bodyF l ++ leT x.toNat 8 := by simp [bodyF]
theorem encF_len (h : Int) (l : List Int) : (encF h l).length = 3 + 8 * l.length := by
  unfold encF headF
  rw [List.length_append, bodyF_len]
  simp
theorem chk8_body : ∀ (l : List Int) (i : Nat) (hi : i < l.length), chk8 (bodyF l) i = leT l[i].toNat 8
  | x :: l, 0, _ => by
    have h1 := leT_len x.toNat 8
    unfold chk8 bodyF
    rw [List.flatMap_cons, Nat.mul_zero, List.drop_zero, List.take_append_of_le_length (by omega), List.take_of_length_le (by omega)]
    rfl
  | x :: l, i + 1, hi => by
    have h1 := leT_len x.toNat 8
    have ih := chk8_body l i (by simpa using hi)
    unfold chk8 bodyF at *
    rw [List.flatMap_cons, show 8 * (i + 1) = (leT x.toNat 8).length + 8 * i by omega, ← List.drop_drop, List.drop_left, ih]
    rfl
theorem wordsF_body (l : List Int) (h : ∀ x ∈ l, 0 ≤ x ∧ x < 18446744073709551616) : wordsF (bodyF l) l.length = l := by
  apply List.ext_getElem (by rw [wordsF_len])
  intro i h1 h2
  have hx := h l[i] (List.getElem_mem _)
  rw [wordsF_at, chk8_body l i h2, wordF_le _ (by omega)]
  omega
/-- What decoding comes to. -/
def okLen (b : List UInt8) : Bool := decide (3 ≤ b.length) && decide (b.length = 3 + 8 * ((b.getD 1 0).toNat * 256 + (b.getD 2 0).toNat))
def decB (b : List UInt8) : Int × List Int := (((b.getD 0 0).toNat : Int), wordsF (b.drop 3) ((b.length - 3) / 8))
def decSpec (b : List UInt8) : Int × List Int × Int :=
  if okLen b = true ∧ fok (decB b).1 (decB b).2.length = true then ((decB b).1, (decB b).2, 0) else (0, [], 22)
theorem decSpec_enc (h : Int) (l : List Int) (hf : fok h l.length = true) (hl : ∀ x ∈ l, 0 ≤ x ∧ x < 18446744073709551616) : decSpec (encF h l) = (h, l, 0) := by
  have hv' : ((1 ≤ h ∧ h ≤ 8) ∧ 1 ≤ l.length) ∧ l.length ≤ 1024 := by simpa [fok] using hf
  have e0 : (encF h l).getD 0 0 = UInt8.ofNat (h % 256).toNat := rfl
  have e1 : (encF h l).getD 1 0 = UInt8.ofNat (l.length / 256) := rfl
  have e2 : (encF h l).getD 2 0 = UInt8.ofNat l.length := rfl
  have hlen := encF_len h l
  have hok : okLen (encF h l) = true := by
    unfold okLen
    rw [e1, e2, hlen, UInt8.toNat_ofNat', UInt8.toNat_ofNat']
    simp only [Bool.and_eq_true, decide_eq_true_eq]
    omega
  have hd : decB (encF h l) = (h, l) := by
    unfold decB
    rw [e0, hlen, UInt8.toNat_ofNat', show (3 + 8 * l.length - 3) / 8 = l.length by omega, show (encF h l).drop 3 = bodyF l from rfl, wordsF_body l hl]
    congr 1
    omega
  unfold decSpec
  rw [hd, if_pos ⟨hok, hf⟩]
theorem decSpec_len (b : List UInt8) : (decSpec b).2.1.length ≤ 1024 := by
  unfold decSpec
  split
  · rename_i h
    have hv' : ((1 ≤ (decB b).1 ∧ (decB b).1 ≤ 8) ∧ 1 ≤ (decB b).2.length) ∧ (decB b).2.length ≤ 1024 := by simpa [fok] using h.2
    exact hv'.2
  · simp
/-- '|' of a shifted word and a byte. -/
theorem or_shl8 (v : Nat) (b : Nat) (hv : v < 72057594037927936) (hb : b < 256) : bits .or .u64 ((v : Int) * 256) (b : Int) = ((v * 256 + b : Nat) : Int) := by
  have h := u64_or_nat (v * 256) b (by omega) (by omega)
  have e : v * 256 ||| b = v * 256 + b := by
    have := Nat.shiftLeft_add_eq_or_of_lt (i := 8) (b := b) (by omega) v
    rw [Nat.shiftLeft_eq] at this
    exact this.symm
  rw [e] at h
  simpa using h
end Go.Proofs.Ytfainbgbeojcpaa
