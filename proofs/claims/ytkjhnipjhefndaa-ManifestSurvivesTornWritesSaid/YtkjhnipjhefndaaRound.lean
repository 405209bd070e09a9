/- Reading what was written gives back what was there. No program in sight. -/
import Derived.Test.YtkjhnipjhefndaaParse
namespace Go.Proofs.Ytkjhnipjhefndaa
open Go.RowKit

theorem or_shift (acc n i : Nat) (ha : acc < 2 ^ i) : acc ||| n * 2 ^ i = acc + n * 2 ^ i := by
  rw [Nat.or_comm, Nat.mul_comm, ← Nat.two_pow_add_eq_or_of_lt ha, Nat.add_comm]
theorem u8_nat (n : Nat) (h : n < 256) : (UInt8.ofNat n).toNat = n := by rw [UInt8.toNat_ofNat']; omega
theorem rdGo_uvar (n : Nat) : ∀ (i acc : Nat) (t : List UInt8), i ≤ 9 → acc < 2 ^ (7 * i) → acc + n * 2 ^ (7 * i) < 18446744073709551616 → rdGo i acc (uvar n ++ t) = some (acc + n * 2 ^ (7 * i), t) := by
  induction n using Nat.strongRecOn with
  | ind n ih =>
    intro i acc t hi ha hlt
    by_cases hn : n < 128
    · rw [uvar_small hn]
      simp only [List.cons_append, List.nil_append]
      rw [rdGo, if_neg (by omega), u8_nat n (by omega), if_pos hn]
      have e1 : n % 128 = n := Nat.mod_eq_of_lt hn
      rw [e1, Nat.mod_eq_of_lt (by omega), or_shift acc n _ ha]
    · rw [uvar_big hn]
      simp only [List.cons_append]
      have hc : (UInt8.ofNat (n % 128 + 128)).toNat = n % 128 + 128 := u8_nat _ (by omega)
      rw [rdGo, if_neg (by omega), hc, if_neg (by omega)]
      have e1 : (n % 128 + 128) % 128 = n % 128 := by omega
      have hp : 2 ^ (7 * (i + 1)) = 128 * 2 ^ (7 * i) := by rw [show 7 * (i + 1) = 7 + 7 * i by omega, Nat.pow_add]
      have hpos : 0 < 2 ^ (7 * i) := Nat.two_pow_pos _
      have hdm : n * 2 ^ (7 * i) = (n % 128) * 2 ^ (7 * i) + (n / 128) * (128 * 2 ^ (7 * i)) := by
        have : n = n % 128 + n / 128 * 128 := by omega
        calc n * 2 ^ (7 * i) = (n % 128 + n / 128 * 128) * 2 ^ (7 * i) := by rw [← this]
          _ = _ := by rw [Nat.add_mul, Nat.mul_assoc]
      have hm : n % 128 * 2 ^ (7 * i) ≤ 127 * 2 ^ (7 * i) := Nat.mul_le_mul_right _ (by omega)
      have hi' : i + 1 ≤ 9 := by
        by_cases h9 : i + 1 ≤ 9
        · exact h9
        · have h1 : i = 9 := by omega
          subst h1
          have h3 : 128 * 2 ^ (7 * 9) ≤ n * 2 ^ (7 * 9) := Nat.mul_le_mul_right _ (by omega)
          have h4 : (2 : Nat) ^ (7 * 9) = 9223372036854775808 := by decide
          omega
      rw [e1, Nat.mod_eq_of_lt (by omega), or_shift acc (n % 128) _ ha, ih (n / 128) (by omega) (i + 1) _ t hi' (by rw [hp]; omega) (by rw [hp]; omega), hp]
      congr 2
      omega
theorem rdVar_uvar (n : Nat) (t : List UInt8) (h : n < 18446744073709551616) : rdVar (uvar n ++ t) = some (n, t) := by
  have := rdGo_uvar n 0 0 t (by omega) (by simp) (by simpa using h)
  simpa [rdVar] using this
theorem varS_uvar (n : Nat) (t : List UInt8) (b : Bool) (h : n < 18446744073709551616) : varS (uvar n ++ t) b = (n, t, b) := varS_some b (rdVar_uvar n t h)
def In64 (x : Int) : Prop := -9223372036854775808 ≤ x ∧ x ≤ 9223372036854775807
theorem u64_xor_zero (a : Nat) (ha : a < 18446744073709551616) : bits .xor .u64 (a : Int) 0 = (a : Int) := by
  have := u64_xor_nat a 0 ha (by omega)
  simpa using this
theorem nat_xor_ones (a : Nat) (ha : a < 18446744073709551616) : a ^^^ 18446744073709551615 = 18446744073709551615 - a := by
  have h : (BitVec.ofNat 64 a ^^^ BitVec.allOnes 64) = ~~~ (BitVec.ofNat 64 a) := BitVec.xor_allOnes
  have h2 := congrArg BitVec.toNat h
  rw [BitVec.toNat_xor, BitVec.toNat_not, BitVec.toNat_ofNat, Nat.mod_eq_of_lt ha, BitVec.toNat_allOnes] at h2
  exact h2
theorem zz_val (x : Int) (h : In64 x) : zz x = if 0 ≤ x then (2 * x).toNat else (-2 * x - 1).toNat := by
  obtain ⟨h1, h2⟩ := h
  unfold zz zzI
  by_cases hx : 0 ≤ x
  · rw [if_pos hx]
    obtain ⟨n, rfl⟩ := Int.eq_ofNat_of_zero_le hx
    have e1 : IntKind.u64.wrap (n : Int) = (n : Int) := by simp [IntKind.wrap, IntKind.bits, IntKind.signed]; omega
    have e2 : IntKind.u64.wrap ((n : Int) * 2) = ((n * 2 : Nat) : Int) := by simp [IntKind.wrap, IntKind.bits, IntKind.signed]; omega
    have e3 : IntKind.u64.wrap ((n : Int) / 9223372036854775808) = 0 := by rw [show (n : Int) / 9223372036854775808 = 0 by omega]; rfl
    rw [e1, e2, e3, u64_xor_zero _ (by omega)]
    omega
  · rw [if_neg hx]
    obtain ⟨n, hn⟩ : ∃ n : Nat, x = -(n : Int) := ⟨(-x).toNat, by omega⟩
    subst hn
    have e1 : IntKind.u64.wrap (-(n : Int)) = ((18446744073709551616 - n : Nat) : Int) := by simp [IntKind.wrap, IntKind.bits, IntKind.signed]; omega
    have e2 : IntKind.u64.wrap (((18446744073709551616 - n : Nat) : Int) * 2) = ((18446744073709551616 - 2 * n : Nat) : Int) := by simp [IntKind.wrap, IntKind.bits, IntKind.signed]; omega
    have e3 : IntKind.u64.wrap (-(n : Int) / 9223372036854775808) = ((18446744073709551615 : Nat) : Int) := by rw [show -(n : Int) / 9223372036854775808 = -1 by omega]; rfl
    rw [e1, e2, e3, u64_xor_nat _ _ (by omega) (by omega), nat_xor_ones _ (by omega)]
    omega
theorem unz_zz (x : Int) (h : In64 x) : unz (zz x) = x := by
  rw [zz_val x h]
  unfold unz
  by_cases hx : 0 ≤ x
  · rw [if_pos hx, if_neg (by omega)]; omega
  · rw [if_neg hx, if_pos (by omega)]; omega
theorem intS_enc (x : Int) (t : List UInt8) (b : Bool) (h : In64 x) : intS (uvar (zz x) ++ t) b = (x, t, b) := by
  unfold intS
  rw [varS_uvar _ _ _ (zz_lt x), unz_zz x h]
theorem sizeS_ok (n : Nat) (l : List UInt8) (b : Bool) (h : n ≤ l.length) : sizeS n l b = (n, l, b) := by unfold sizeS; rw [if_neg (by omega)]
theorem countS_enc (n : Nat) (t : List UInt8) (b : Bool) (h : n ≤ t.length) (hn : n ≤ 9223372036854775807) : countS (uvar (zz (n : Int)) ++ t) b = (n, t, b) := by
  unfold countS
  rw [intS_enc _ _ _ ⟨by omega, by omega⟩]
  have e : (IntKind.u64.wrap (n : Int)).toNat = n := by simp [IntKind.wrap, IntKind.bits, IntKind.signed]; omega
  simp only [e]
  exact sizeS_ok n t b h
theorem textS_enc (s t : List UInt8) (b : Bool) (h : s.length < 18446744073709551616) : textS (uvar s.length ++ (s ++ t)) b = (s, t, b) := by
  unfold textS
  rw [varS_uvar _ _ _ h]
  simp only [sizeS_ok s.length (s ++ t) b (by simp), List.take_left, List.drop_left]
theorem byteArray_eq (s : ByteArray) : (⟨s.data.toList.toArray⟩ : ByteArray) = s := by cases s; simp
structure TlI (x : Tl) : Prop where
  h : In64 x.host
  r : x.rule.size < 18446744073709551616
  l : In64 x.lines
theorem talS_enc (x : Tl) (t : List UInt8) (b : Bool) (h : TlI x) : talS (encT1 x ++ t) b = (x, t, b) := by
  unfold talS encT1
  have e1 : uvar (zz x.host) ++ uvar x.rule.size ++ x.rule.data.toList ++ uvar (zz x.lines) ++ t = uvar (zz x.host) ++ (uvar x.rule.data.toList.length ++ (x.rule.data.toList ++ (uvar (zz x.lines) ++ t))) := by
    simp only [List.append_assoc, Array.length_toList, ByteArray.size_data]
  rw [e1, intS_enc _ _ _ h.h]
  simp only
  rw [textS_enc _ _ _ (by simpa using h.r)]
  simp only
  rw [intS_enc _ _ _ h.l, byteArray_eq]
section
variable {α : Type}
theorem manyS_enc (f : List UInt8 → Bool → α × List UInt8 × Bool) (en : α → List UInt8) (ok : α → Prop) (hf : ∀ x t b, ok x → f (en x ++ t) b = (x, t, b)) : ∀ (l : List α) (t : List UInt8) (b : Bool), (∀ x ∈ l, ok x) → manyS f l.length (l.flatMap en ++ t) b = (l, t, b)
  | [], t, b, _ => rfl
  | x :: l, t, b, h => by
    simp only [List.length_cons, manyS, List.flatMap_cons, List.append_assoc]
    rw [hf x _ b (h x (by simp))]
    simp only
    rw [manyS_enc f en ok hf l t b (fun y hy => h y (by simp [hy]))]
theorem flat_ge (en : α → List UInt8) (l : List α) (h : ∀ x, 1 ≤ (en x).length) : l.length ≤ (l.flatMap en).length := by
  induction l with
  | nil => simp
  | cons x l ih => have := h x; rw [List.flatMap_cons, List.length_append, List.length_cons]; omega
end
theorem talsS_enc (l : List Tl) (t : List UInt8) (b : Bool) (h : ∀ x ∈ l, TlI x) (hn : l.length ≤ 9223372036854775807) : talsS (encT l ++ t) b = (l, t, b) := by
  unfold talsS encT
  have hge := flat_ge encT1 l (fun x => by unfold encT1; simp only [List.length_append]; have := uvar_pos (zz x.host); omega)
  rw [List.append_assoc, countS_enc _ _ _ (by rw [List.length_append]; omega) hn]
  exact manyS_enc talS encT1 TlI talS_enc l t b h
structure SegI (s : Seg) : Prop where
  a : In64 s.id
  b : In64 s.level
  c : In64 s.tier
  d : In64 s.count
  e : In64 s.lo
  f : In64 s.hi
  g : In64 s.size
structure MkI (s : Mk) : Prop where
  a : In64 s.host
  b : In64 s.file
  c : In64 s.off
theorem segS_enc (s : Seg) (t : List UInt8) (b : Bool) (h : SegI s) : segS (encS s ++ t) b = (s, t, b) := by
  have e1 : encS s ++ t = uvar (zz s.id) ++ (uvar (zz s.level) ++ (uvar (zz s.tier) ++ (uvar (zz s.count) ++ (uvar (zz s.lo) ++ (uvar (zz s.hi) ++ (uvar (zz s.size) ++ t)))))) := by
    simp only [encS, encI, List.flatMap_cons, List.flatMap_nil, List.append_assoc, List.nil_append]
  rw [e1]
  refine segS_step (intS_enc _ _ _ h.a).symm (intS_enc _ _ _ h.b).symm (intS_enc _ _ _ h.c).symm (intS_enc _ _ _ h.d).symm (intS_enc _ _ _ h.e).symm (intS_enc _ _ _ h.f).symm (intS_enc _ _ _ h.g).symm
theorem mkS_enc (s : Mk) (t : List UInt8) (b : Bool) (h : MkI s) : mkS (encK s ++ t) b = (s, t, b) := by
  have e1 : encK s ++ t = uvar (zz s.host) ++ (uvar (zz s.file) ++ (uvar (zz s.off) ++ t)) := by
    simp only [encK, encI, List.flatMap_cons, List.flatMap_nil, List.append_assoc, List.nil_append]
  rw [e1]
  refine mkS_step (intS_enc _ _ _ h.a).symm (intS_enc _ _ _ h.b).symm (intS_enc _ _ _ h.c).symm
/-- A manifest whose numbers are ints and whose strings are not too long. -/
structure ManI (m : Man) : Prop where
  a : In64 m.nu
  b : In64 m.nx
  c : In64 m.jo
  s : ∀ x ∈ m.segs, SegI x
  m_ : ∀ x ∈ m.marks, MkI x
  t : ∀ x ∈ m.tals, TlI x
  e : ∀ x ∈ m.exps, TlI x
  ls : m.segs.length ≤ 1000000
  lm : m.marks.length ≤ 1000000
  lt_ : m.tals.length ≤ 1000000
  le : m.exps.length ≤ 1000000
/-- The bytes behind the magic ones. -/
def encR (m : Man) : List UInt8 := encI [m.nu, m.nx, m.jo, (m.segs.length : Int)] ++ m.segs.flatMap encS ++ encI [(m.marks.length : Int)] ++ m.marks.flatMap encK ++ encT m.tals ++ encT m.exps
theorem encM_eq (m : Man) : encM m = magicB ++ encR m := by simp only [encM, en5, en4, en3, en2, en1, encR, List.append_assoc]
/-- What is read, and what is left. -/
structure ParsedR (l : List UInt8) (m : Man) (r : List UInt8) (bad : Bool) : Prop where
  out : ∃ (a1 a2 a3 : I1) (c : Nat × List UInt8 × Bool) (s : List Seg × List UInt8 × Bool) (d : Nat × List UInt8 × Bool) (k : List Mk × List UInt8 × Bool) (t e : List Tl × List UInt8 × Bool),
    a1 = intS l false ∧ a2 = intS a1.2.1 a1.2.2 ∧ a3 = intS a2.2.1 a2.2.2 ∧ c = countS a3.2.1 a3.2.2 ∧ s = manyS segS c.1 c.2.1 c.2.2 ∧ d = countS s.2.1 s.2.2 ∧ k = manyS mkS d.1 d.2.1 d.2.2 ∧ t = talsS k.2.1 k.2.2 ∧ e = talsS t.2.1 t.2.2 ∧
      m = ⟨a1.1, a2.1, a3.1, s.1, k.1, t.1, e.1⟩ ∧ r = e.2.1 ∧ bad = e.2.2
theorem ParsedR.parsed {l r : List UInt8} {m : Man} {bad : Bool} (h : ParsedR l m r bad) : Parsed l m bad := by
  obtain ⟨a1, a2, a3, c, s, d, k, t, e, h1, h2, h3, h4, h5, h6, h7, h8, h9, h10, _, h12⟩ := h.out
  exact ⟨a1, a2, a3, c, s, d, k, t, e, h1, h2, h3, h4, h5, h6, h7, h8, h9, h10, h12⟩
theorem Parsed.one {l : List UInt8} {m m' : Man} {bad bad' : Bool} (h : Parsed l m bad) (h' : Parsed l m' bad') : m = m' ∧ bad = bad' := by
  obtain ⟨a1, a2, a3, c, s, d, k, t, e, h1, h2, h3, h4, h5, h6, h7, h8, h9, h10, h11⟩ := h.out
  obtain ⟨b1, b2, b3, c', s', d', k', t', e', k1, k2, k3, k4, k5, k6, k7, k8, k9, k10, k11⟩ := h'.out
  obtain rfl : a1 = b1 := h1.trans k1.symm
  obtain rfl : a2 = b2 := h2.trans k2.symm
  obtain rfl : a3 = b3 := h3.trans k3.symm
  obtain rfl : c = c' := h4.trans k4.symm
  obtain rfl : s = s' := h5.trans k5.symm
  obtain rfl : d = d' := h6.trans k6.symm
  obtain rfl : k = k' := h7.trans k7.symm
  obtain rfl : t = t' := h8.trans k8.symm
  obtain rfl : e = e' := h9.trans k9.symm
  exact ⟨h10.trans k10.symm, h11.trans k11.symm⟩
theorem ParsedR.one {l r r' : List UInt8} {m m' : Man} {bad bad' : Bool} (h : ParsedR l m r bad) (h' : ParsedR l m' r' bad') : m = m' ∧ r = r' := by
  obtain ⟨a1, a2, a3, c, s, d, k, t, e, h1, h2, h3, h4, h5, h6, h7, h8, h9, h10, h11, _⟩ := h.out
  obtain ⟨b1, b2, b3, c', s', d', k', t', e', k1, k2, k3, k4, k5, k6, k7, k8, k9, k10, k11, _⟩ := h'.out
  obtain rfl : a1 = b1 := h1.trans k1.symm
  obtain rfl : a2 = b2 := h2.trans k2.symm
  obtain rfl : a3 = b3 := h3.trans k3.symm
  obtain rfl : c = c' := h4.trans k4.symm
  obtain rfl : s = s' := h5.trans k5.symm
  obtain rfl : d = d' := h6.trans k6.symm
  obtain rfl : k = k' := h7.trans k7.symm
  obtain rfl : t = t' := h8.trans k8.symm
  obtain rfl : e = e' := h9.trans k9.symm
  exact ⟨h10.trans k10.symm, h11.trans k11.symm⟩
theorem parsed_enc (m : Man) (t : List UInt8) (h : ManI m) : ParsedR (encR m ++ t) m t false := by
  have e1 : encR m ++ t = uvar (zz m.nu) ++ (uvar (zz m.nx) ++ (uvar (zz m.jo) ++ (uvar (zz (m.segs.length : Int)) ++ (m.segs.flatMap encS ++ (uvar (zz (m.marks.length : Int)) ++ (m.marks.flatMap encK ++ (encT m.tals ++ (encT m.exps ++ t)))))))) := by
    simp only [encR, encI, List.flatMap_cons, List.flatMap_nil, List.append_assoc, List.nil_append]
  have g1 := flat_ge encS m.segs (fun x => by simp only [encS, encI, List.flatMap_cons, List.length_append]; have := uvar_pos (zz x.id); omega)
  have g2 := flat_ge encK m.marks (fun x => by simp only [encK, encI, List.flatMap_cons, List.length_append]; have := uvar_pos (zz x.host); omega)
  have l1 := h.ls
  have l2 := h.lm
  have l3 := h.lt_
  have l4 := h.le
  rw [e1]
  exact ⟨_, _, _, _, _, _, _, _, _, (intS_enc _ _ _ h.a).symm, (intS_enc _ _ _ h.b).symm, (intS_enc _ _ _ h.c).symm, (countS_enc _ _ _ (by rw [List.length_append]; omega) (by omega)).symm,
    (manyS_enc segS encS SegI segS_enc _ _ _ h.s).symm, (countS_enc _ _ _ (by rw [List.length_append]; omega) (by omega)).symm, (manyS_enc mkS encK MkI mkS_enc _ _ _ h.m_).symm,
    (talsS_enc _ _ _ h.t (by omega)).symm, (talsS_enc _ _ _ h.e (by omega)).symm, rfl, rfl, rfl⟩
/-- No encoding is the beginning of another one. -/
theorem enc_prefix {m m' : Man} {s : List UInt8} (h : ManI m) (h' : ManI m') (e : encB m = encB m' ++ s) : s = [] := by
  unfold encB at e
  rw [encM_eq, encM_eq] at e
  simp only [List.append_assoc] at e
  have e2 := List.append_cancel_left e
  have p1 := parsed_enc m (crcB (crc (magicB ++ encR m))) h
  have p2 := parsed_enc m' (crcB (crc (magicB ++ encR m')) ++ s) h'
  rw [e2] at p1
  have := (p1.one p2).2
  have hl := congrArg List.length this
  simp [crcB] at hl
  exact hl
theorem enc_inj {m m' : Man} (h : ManI m) (h' : ManI m') (e : encB m = encB m') : m = m' := by
  unfold encB at e
  rw [encM_eq, encM_eq] at e
  simp only [List.append_assoc] at e
  have e2 := List.append_cancel_left e
  have p1 := parsed_enc m (crcB (crc (magicB ++ encR m))) h
  have p2 := parsed_enc m' (crcB (crc (magicB ++ encR m'))) h'
  rw [e2] at p1
  exact (p1.one p2).1
end Go.Proofs.Ytkjhnipjhefndaa
