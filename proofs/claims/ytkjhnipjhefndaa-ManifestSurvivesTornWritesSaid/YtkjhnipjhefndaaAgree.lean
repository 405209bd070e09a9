/- The program's and the reference's reading of a manifest agree: what one accepts is an encoding, and both read encodings back. No program in sight. -/
import Derived.Test.YtkjhnipjhefndaaRound
import Derived.Test.YtkjhnipjhefndaaRefDec
namespace Go.Proofs.Ytkjhnipjhefndaa
open Go.RowKit

theorem gvGo_uvar (n : Nat) : ∀ (i acc : Nat) (t : List UInt8), i ≤ 9 → acc < 2 ^ (7 * i) → (i = 0 ∨ 0 < n) → acc + n * 2 ^ (7 * i) < 18446744073709551616 → gvGo i acc (uvar n ++ t) = some (acc + n * 2 ^ (7 * i), i + (uvar n).length) := by
  induction n using Nat.strongRecOn with
  | ind n ih =>
    intro i acc t hi ha hz hlt
    have h9 : i = 9 → n ≤ 1 := fun h => by
      subst h
      have h4 : (2 : Nat) ^ (7 * 9) = 9223372036854775808 := by decide
      rw [h4] at hlt
      omega
    by_cases hn : n < 128
    · rw [uvar_small hn]
      simp only [List.cons_append, List.nil_append, List.length_cons, List.length_nil]
      rw [gvGo, if_neg (by omega), u8_nat n (by omega), if_neg (by intro h; have := h9 h.1; omega), if_pos hn, if_neg (by omega)]
      have e1 : n % 128 = n := Nat.mod_eq_of_lt hn
      rw [e1, Nat.mod_eq_of_lt (by omega), or_shift acc n _ ha]
    · rw [uvar_big hn]
      simp only [List.cons_append, List.length_cons]
      have hc : (UInt8.ofNat (n % 128 + 128)).toNat = n % 128 + 128 := u8_nat _ (by omega)
      rw [gvGo, if_neg (by omega), hc, if_neg (by intro h; have := h9 h.1; omega), if_neg (by omega)]
      have e1 : (n % 128 + 128) % 128 = n % 128 := by omega
      have hp : 2 ^ (7 * (i + 1)) = 128 * 2 ^ (7 * i) := by rw [show 7 * (i + 1) = 7 + 7 * i by omega, Nat.pow_add]
      have hpos : 0 < 2 ^ (7 * i) := Nat.two_pow_pos _
      have hdm : n * 2 ^ (7 * i) = (n % 128) * 2 ^ (7 * i) + (n / 128) * (128 * 2 ^ (7 * i)) := by
        have : n = n % 128 + n / 128 * 128 := by omega
        calc n * 2 ^ (7 * i) = (n % 128 + n / 128 * 128) * 2 ^ (7 * i) := by rw [← this]
          _ = _ := by rw [Nat.add_mul, Nat.mul_assoc]
      have hm : n % 128 * 2 ^ (7 * i) ≤ 127 * 2 ^ (7 * i) := Nat.mul_le_mul_right _ (by omega)
      have hi' : i + 1 ≤ 9 := by
        by_cases h9' : i + 1 ≤ 9
        · exact h9'
        · have := h9 (by omega); omega
      rw [e1, Nat.mod_eq_of_lt (by omega), or_shift acc (n % 128) _ ha, ih (n / 128) (by omega) (i + 1) _ t hi' (by rw [hp]; omega) (.inr (by omega)) (by rw [hp]; omega), hp]
      congr 2
      · omega
      · omega
theorem getVar_uvar {l t : List UInt8} {p n : Nat} (h : l.drop p = uvar n ++ t) (hn : n < 18446744073709551616) : getVar l p = (n, p + (uvar n).length, true) := by
  have := gvGo_uvar n 0 0 t (by omega) (by simp) (.inl rfl) (by simpa using hn)
  rw [← h] at this
  rw [getVar_some this]
  simp
theorem drop_next {l a t : List UInt8} {p : Nat} (h : l.drop p = a ++ t) : l.drop (p + a.length) = t := by
  rw [← List.drop_drop, h, List.drop_left]
theorem drop_len {l a t : List UInt8} {p : Nat} (h : l.drop p = a ++ t) (hp : p ≤ l.length) : p + a.length ≤ l.length := by
  have := congrArg List.length h
  rw [List.length_drop, List.length_append] at this
  omega
/-- A reader reads x where it stands. -/
def RdAt {α : Type} (l : List UInt8) (f : Nat → Bool → α × Nat × Bool) (x : α) (p : Nat) (t : List UInt8) : Prop := ∃ p', f p true = (x, p', true) ∧ p' ≤ l.length ∧ l.drop p' = t
theorem rInt_enc {l t : List UInt8} {p : Nat} {x : Int} (h : l.drop p = uvar (zz x) ++ t) (hp : p ≤ l.length) (hx : In64 x) : RdAt l (rIntS l) x p t := by
  refine ⟨p + (uvar (zz x)).length, ?_, drop_len h hp, drop_next h⟩
  unfold rIntS
  rw [getVar_uvar h (zz_lt x), if_pos ⟨rfl, rfl⟩, unz_zz x hx]
theorem rCount_enc {l t : List UInt8} {p n : Nat} (h : l.drop p = uvar (zz (n : Int)) ++ t) (hp : p ≤ l.length) (hn : n ≤ l.length) (hl : l.length ≤ 1000000) : RdAt l (rCountS l) n p t := by
  obtain ⟨p', h1, h2, h3⟩ := rInt_enc h hp (⟨by omega, by omega⟩ : In64 (n : Int))
  refine ⟨p', ?_, h2, h3⟩
  unfold rCountS
  rw [h1, if_neg (by simp only; omega)]
  simp
theorem rText_enc {l s t : List UInt8} {p : Nat} (h : l.drop p = uvar s.length ++ (s ++ t)) (hp : p ≤ l.length) (hl : l.length ≤ 1000000) : RdAt l (rTextS l) s p t := by
  have h2 := drop_next h
  have h3 := drop_len h hp
  have h4 := drop_len h2 h3
  refine ⟨p + (uvar s.length).length + s.length, ?_, h4, drop_next h2⟩
  unfold rTextS
  rw [getVar_uvar h (by omega), if_pos ⟨rfl, rfl, by simp only; omega⟩]
  simp only [h2, List.take_left]
theorem rTal_enc {l t : List UInt8} {p : Nat} {x : Tl} (h : l.drop p = encT1 x ++ t) (hp : p ≤ l.length) (hl : l.length ≤ 1000000) (hx : TlI x) : RdAt l (rTalS l) x p t := by
  have e1 : encT1 x ++ t = uvar (zz x.host) ++ (uvar x.rule.data.toList.length ++ (x.rule.data.toList ++ (uvar (zz x.lines) ++ t))) := by
    unfold encT1
    simp only [List.append_assoc, Array.length_toList, ByteArray.size_data]
  rw [e1] at h
  obtain ⟨p1, a1, b1, c1⟩ := rInt_enc h hp hx.h
  obtain ⟨p2, a2, b2, c2⟩ := rText_enc c1 b1 hl
  obtain ⟨p3, a3, b3, c3⟩ := rInt_enc c2 b2 hx.l
  refine ⟨p3, ?_, b3, c3⟩
  rw [rTalS_step a1 a2 a3]
section
variable {α : Type}
theorem rMany_enc {l : List UInt8} (f : Nat → Bool → α × Nat × Bool) (en : α → List UInt8) (ok : α → Prop) (hf : ∀ x t p, ok x → p ≤ l.length → l.drop p = en x ++ t → RdAt l f x p t) :
    ∀ (xs : List α) (t : List UInt8) (p : Nat), (∀ x ∈ xs, ok x) → p ≤ l.length → l.drop p = xs.flatMap en ++ t → RdAt l (rManyS f xs.length) xs p t
  | [], t, p, _, hp, h => ⟨p, rfl, hp, h⟩
  | x :: xs, t, p, hx, hp, h => by
    simp only [List.flatMap_cons, List.append_assoc] at h
    obtain ⟨p1, a1, b1, c1⟩ := hf x _ p (hx x (by simp)) hp h
    obtain ⟨p2, a2, b2, c2⟩ := rMany_enc f en ok hf xs t p1 (fun y hy => hx y (by simp [hy])) b1 c1
    refine ⟨p2, ?_, b2, c2⟩
    simp only [List.length_cons]
    rw [rManyS, if_pos rfl, a1]
    simp only [a2]
end
theorem flat_in {α : Type} {l t : List UInt8} {p : Nat} (en : α → List UInt8) (xs : List α) (h1 : ∀ x, 1 ≤ (en x).length) (hp : p ≤ l.length) (h : l.drop p = xs.flatMap en ++ t) : xs.length ≤ l.length := by
  have := drop_len h hp
  have := flat_ge en xs h1
  omega
theorem encT1_pos (x : Tl) : 1 ≤ (encT1 x).length := by unfold encT1; simp only [List.length_append]; have := uvar_pos (zz x.host); omega
theorem rTals_enc {l t : List UInt8} {p : Nat} {xs : List Tl} (h : l.drop p = encT xs ++ t) (hp : p ≤ l.length) (hl : l.length ≤ 1000000) (hx : ∀ x ∈ xs, TlI x) : RdAt l (rTalsS l) xs p t := by
  unfold encT at h
  rw [List.append_assoc] at h
  have h2 := drop_next h
  have h3 := drop_len h hp
  obtain ⟨p1, a1, b1, c1⟩ := rCount_enc h hp (flat_in encT1 xs encT1_pos h3 h2) hl
  obtain ⟨p2, a2, b2, c2⟩ := rMany_enc (rTalS l) encT1 TlI (fun x t p ok hp h => rTal_enc h hp hl ok) xs t p1 hx b1 c1
  exact ⟨p2, by rw [rTals_eq a1]; exact a2, b2, c2⟩
theorem rSeg_enc {l t : List UInt8} {p : Nat} {s : Seg} (h : l.drop p = encS s ++ t) (hp : p ≤ l.length) (hx : SegI s) : RdAt l (rSegS l) s p t := by
  have e1 : encS s ++ t = uvar (zz s.id) ++ (uvar (zz s.level) ++ (uvar (zz s.tier) ++ (uvar (zz s.count) ++ (uvar (zz s.lo) ++ (uvar (zz s.hi) ++ (uvar (zz s.size) ++ t)))))) := by
    simp only [encS, encI, List.flatMap_cons, List.flatMap_nil, List.append_assoc, List.nil_append]
  rw [e1] at h
  obtain ⟨p1, a1, b1, c1⟩ := rInt_enc h hp hx.a
  obtain ⟨p2, a2, b2, c2⟩ := rInt_enc c1 b1 hx.b
  obtain ⟨p3, a3, b3, c3⟩ := rInt_enc c2 b2 hx.c
  obtain ⟨p4, a4, b4, c4⟩ := rInt_enc c3 b3 hx.d
  obtain ⟨p5, a5, b5, c5⟩ := rInt_enc c4 b4 hx.e
  obtain ⟨p6, a6, b6, c6⟩ := rInt_enc c5 b5 hx.f
  obtain ⟨p7, a7, b7, c7⟩ := rInt_enc c6 b6 hx.g
  exact ⟨p7, rSegS_step a1 a2 a3 a4 a5 a6 a7, b7, c7⟩
theorem rMk_enc {l t : List UInt8} {p : Nat} {s : Mk} (h : l.drop p = encK s ++ t) (hp : p ≤ l.length) (hx : MkI s) : RdAt l (rMkS l) s p t := by
  have e1 : encK s ++ t = uvar (zz s.host) ++ (uvar (zz s.file) ++ (uvar (zz s.off) ++ t)) := by
    simp only [encK, encI, List.flatMap_cons, List.flatMap_nil, List.append_assoc, List.nil_append]
  rw [e1] at h
  obtain ⟨p1, a1, b1, c1⟩ := rInt_enc h hp hx.a
  obtain ⟨p2, a2, b2, c2⟩ := rInt_enc c1 b1 hx.b
  obtain ⟨p3, a3, b3, c3⟩ := rInt_enc c2 b2 hx.c
  exact ⟨p3, rMkS_step a1 a2 a3, b3, c3⟩
theorem RParsed.one {l : List UInt8} {m m' : Man} {ok ok' : Bool} (h : RParsed l m ok) (h' : RParsed l m' ok') : m = m' ∧ ok = ok' := by
  obtain ⟨a1, a2, a3, c, s, d, k, t, e, h1, h2, h3, h4, h5, h6, h7, h8, h9, h10, h11⟩ := h.out
  obtain ⟨b1, b2, b3, c', s', d', k', t', e', k1, k2, k3, k4, k5, k6, k7, k8, k9, k10, k11⟩ := h'.out
  obtain rfl : a1 = b1 := h1.symm.trans k1
  obtain rfl : a2 = b2 := h2.symm.trans k2
  obtain rfl : a3 = b3 := h3.symm.trans k3
  obtain rfl : c = c' := h4.symm.trans k4
  obtain rfl : s = s' := h5.symm.trans k5
  obtain rfl : d = d' := h6.symm.trans k6
  obtain rfl : k = k' := h7.symm.trans k7
  obtain rfl : t = t' := h8.symm.trans k8
  obtain rfl : e = e' := h9.symm.trans k9
  exact ⟨h10.trans k10.symm, h11.trans k11.symm⟩
theorem body_enc (m : Man) : body (encB m) = encM m ∧ tail4 (encB m) = crcB (crc (encM m)) := by
  have h4 : (crcB (crc (encM m))).length = 4 := rfl
  unfold body tail4 encB
  rw [List.length_append, h4, Nat.add_sub_cancel]
  exact ⟨List.take_left, List.drop_left⟩
theorem rparsed_enc {m : Man} (h : ManI m) (hl : (encM m).length ≤ 1000000) : RParsed (encM m) m true := by
  have hd : (encM m).drop 4 = encR m ++ [] := by rw [encM_eq, List.append_nil]; exact List.drop_left' rfl
  have h4 : 4 ≤ (encM m).length := by rw [encM_eq, List.length_append]; exact Nat.le_add_right _ _
  have e1 : encR m ++ [] = uvar (zz m.nu) ++ (uvar (zz m.nx) ++ (uvar (zz m.jo) ++ (uvar (zz (m.segs.length : Int)) ++ (m.segs.flatMap encS ++ (uvar (zz (m.marks.length : Int)) ++ (m.marks.flatMap encK ++ (encT m.tals ++ (encT m.exps ++ [])))))))) := by
    simp only [encR, encI, List.flatMap_cons, List.flatMap_nil, List.append_assoc, List.nil_append]
  rw [e1] at hd
  generalize encM m = l at *
  obtain ⟨p1, a1, b1, c1⟩ := rInt_enc hd h4 h.a
  obtain ⟨p2, a2, b2, c2⟩ := rInt_enc c1 b1 h.b
  obtain ⟨p3, a3, b3, c3⟩ := rInt_enc c2 b2 h.c
  obtain ⟨p4, a4, b4, c4⟩ := rCount_enc c3 b3 (flat_in encS m.segs (fun x => by simp only [encS, encI, List.flatMap_cons, List.length_append]; have := uvar_pos (zz x.id); omega) (drop_len c3 b3) (drop_next c3)) hl
  obtain ⟨p5, a5, b5, c5⟩ := rMany_enc (rSegS l) encS SegI (fun x t p ok hp h => rSeg_enc h hp ok) m.segs _ p4 h.s b4 c4
  obtain ⟨p6, a6, b6, c6⟩ := rCount_enc c5 b5 (flat_in encK m.marks (fun x => by simp only [encK, encI, List.flatMap_cons, List.length_append]; have := uvar_pos (zz x.host); omega) (drop_len c5 b5) (drop_next c5)) hl
  obtain ⟨p7, a7, b7, c7⟩ := rMany_enc (rMkS l) encK MkI (fun x t p ok hp h => rMk_enc h hp ok) m.marks _ p6 h.m_ b6 c6
  obtain ⟨p8, a8, b8, c8⟩ := rTals_enc c7 b7 hl h.t
  obtain ⟨p9, a9, b9, c9⟩ := rTals_enc c8 b8 hl h.e
  exact ⟨_, _, _, _, _, _, _, _, _, a1, a2, a3, a4, a5, a6, a7, a8, a9, rfl, rfl⟩
/-! What is read is a manifest of ints. -/
theorem intS_in (l : List UInt8) (b : Bool) : In64 (intS l b).1 := unz_in _ (varS_le l b).2
theorem segS_in (l : List UInt8) (b : Bool) : SegI (segS l b).1 := ⟨intS_in _ _, intS_in _ _, intS_in _ _, intS_in _ _, intS_in _ _, intS_in _ _, intS_in _ _⟩
theorem mkS_in (l : List UInt8) (b : Bool) : MkI (mkS l b).1 := ⟨intS_in _ _, intS_in _ _, intS_in _ _⟩
theorem talS_in (l : List UInt8) (b : Bool) (hl : l.length ≤ 1000000) : TlI (talS l b).1 := ⟨intS_in _ _, by have := talS_rule l b; omega, intS_in _ _⟩
theorem manyS_in {α : Type} (f : List UInt8 → Bool → α × List UInt8 × Bool) (ok : α → Prop) (hle : ∀ l b, (f l b).2.1.length ≤ l.length) (hf : ∀ l b, l.length ≤ 1000000 → ok (f l b).1) : ∀ (n : Nat) (l : List UInt8) (b : Bool), l.length ≤ 1000000 → ∀ x ∈ (manyS f n l b).1, ok x
  | 0, l, b, _, x, h => by simp [manyS] at h
  | n + 1, l, b, hl, x, h => by
    simp only [manyS, List.mem_cons] at h
    rcases h with rfl | h
    · exact hf l b hl
    · exact manyS_in f ok hle hf n _ _ (by have := hle l b; omega) x h
theorem Parsed.in_ {l : List UInt8} {m : Man} {bad : Bool} (h : Parsed l m bad) (hl : l.length ≤ 1000000) : ManI m := by
  obtain ⟨a1, a2, a3, c, s, d, k, t, e, h1, h2, h3, h4, h5, h6, h7, h8, h9, h10, h11⟩ := h.out
  have l1 : a1.2.1.length ≤ 1000000 := by rw [h1]; exact Nat.le_trans (intS_le _ _) hl
  have l2 : a2.2.1.length ≤ 1000000 := by rw [h2]; exact Nat.le_trans (intS_le _ _) l1
  have l3 : a3.2.1.length ≤ 1000000 := by rw [h3]; exact Nat.le_trans (intS_le _ _) l2
  have l4 : c.2.1.length ≤ 1000000 ∧ c.1 ≤ 1000000 := by rw [h4]; have := countS_le a3.2.1 a3.2.2; omega
  have l5 : s.2.1.length ≤ 1000000 ∧ s.1.length ≤ 1000000 := by rw [h5]; have := manyS_le segS segS_le c.1 c.2.1 c.2.2; have := manyS_len segS c.1 c.2.1 c.2.2; omega
  have l6 : d.2.1.length ≤ 1000000 ∧ d.1 ≤ 1000000 := by rw [h6]; have := countS_le s.2.1 s.2.2; omega
  have l7 : k.2.1.length ≤ 1000000 ∧ k.1.length ≤ 1000000 := by rw [h7]; have := manyS_le mkS mkS_le d.1 d.2.1 d.2.2; have := manyS_len mkS d.1 d.2.1 d.2.2; omega
  have l8 : t.2.1.length ≤ 1000000 ∧ t.1.length ≤ 1000000 := by rw [h8]; have := talsS_le k.2.1 k.2.2; omega
  have l9 : e.1.length ≤ 1000000 := by rw [h9]; have := talsS_le t.2.1 t.2.2; omega
  rw [h10]
  refine ⟨by rw [h1]; exact intS_in _ _, by rw [h2]; exact intS_in _ _, by rw [h3]; exact intS_in _ _, ?_, ?_, ?_, ?_, l5.2, l7.2, l8.2, l9⟩
  · rw [h5]; exact manyS_in segS SegI segS_le (fun l b _ => segS_in l b) _ _ _ l4.1
  · rw [h7]; exact manyS_in mkS MkI mkS_le (fun l b _ => mkS_in l b) _ _ _ l6.1
  · rw [h8]; exact manyS_in talS TlI talS_le talS_in _ _ _ (Nat.le_trans (countS_le _ _).1 l7.1)
  · rw [h9]; exact manyS_in talS TlI talS_le talS_in _ _ _ (Nat.le_trans (countS_le _ _).1 l8.1)
theorem rIntS_in64 (l : List UInt8) (p : Nat) (ok : Bool) (hp : p ≤ l.length) : In64 (rIntS l p ok).1 := rIntS_in l p ok hp
theorem rManyS_in {α : Type} (f : Nat → Bool → α × Nat × Bool) (ok : α → Prop) (N : Nat) (hle : ∀ p b, p ≤ N → (f p b).2.1 ≤ N) (hf : ∀ p b, p ≤ N → ok (f p b).1) : ∀ (n p : Nat) (b : Bool), p ≤ N → ∀ x ∈ (rManyS f n p b).1, ok x
  | 0, p, b, _, x, h => by simp [rManyS] at h
  | n + 1, p, b, hp, x, h => by
    rw [rManyS] at h
    split at h
    · simp only [List.mem_cons] at h
      rcases h with rfl | h
      · exact hf p b hp
      · exact rManyS_in f ok N hle hf n _ _ (hle p b hp) x h
    · simp at h
theorem rSegS_in (l : List UInt8) (p : Nat) (b : Bool) (hp : p ≤ l.length) : SegI (rSegS l p b).1 ∧ (rSegS l p b).2.1 ≤ l.length := by
  have q0 := rIntS_le l p b hp
  have q1 := rIntS_le l _ (rIntS l p b).2.2 q0
  have q2 := rIntS_le l _ (rx l (rIntS l p b)).2.2 q1
  have q3 := rIntS_le l _ (rx l (rx l (rIntS l p b))).2.2 q2
  have q4 := rIntS_le l _ (rx l (rx l (rx l (rIntS l p b)))).2.2 q3
  have q5 := rIntS_le l _ (rx l (rx l (rx l (rx l (rIntS l p b))))).2.2 q4
  have q6 := rIntS_le l _ (rx l (rx l (rx l (rx l (rx l (rIntS l p b)))))).2.2 q5
  exact ⟨⟨rIntS_in64 _ _ _ hp, rIntS_in64 _ _ _ q0, rIntS_in64 _ _ _ q1, rIntS_in64 _ _ _ q2, rIntS_in64 _ _ _ q3, rIntS_in64 _ _ _ q4, rIntS_in64 _ _ _ q5⟩, q6⟩
theorem rMkS_in (l : List UInt8) (p : Nat) (b : Bool) (hp : p ≤ l.length) : MkI (rMkS l p b).1 ∧ (rMkS l p b).2.1 ≤ l.length := by
  have q0 := rIntS_le l p b hp
  have q1 := rIntS_le l _ (rIntS l p b).2.2 q0
  have q2 := rIntS_le l _ (rx l (rIntS l p b)).2.2 q1
  exact ⟨⟨rIntS_in64 _ _ _ hp, rIntS_in64 _ _ _ q0, rIntS_in64 _ _ _ q1⟩, q2⟩
theorem rTalS_in (l : List UInt8) (p : Nat) (b : Bool) (hp : p ≤ l.length) (hl : l.length ≤ 1000000) : TlI (rTalS l p b).1 :=
  ⟨rIntS_in64 _ _ _ hp, by have := rTalS_rule l p b hp; omega, rIntS_in64 _ _ _ (rTextS_le _ _ _ (rIntS_le _ _ _ hp)).2⟩
theorem RParsed.in_ {l : List UInt8} {m : Man} {ok : Bool} (h : RParsed l m ok) (hl : l.length ≤ 1000000) (h4 : 4 ≤ l.length) : ManI m := by
  obtain ⟨a1, a2, a3, c, s, d, k, t, e, h1, h2, h3, h5, h6, h7, h8, h9, h10, h11, h12⟩ := h.out
  have l1 : a1.2.1 ≤ l.length := by rw [← h1]; exact rIntS_le _ _ _ h4
  have l2 : a2.2.1 ≤ l.length := by rw [← h2]; exact rIntS_le _ _ _ l1
  have l3 : a3.2.1 ≤ l.length := by rw [← h3]; exact rIntS_le _ _ _ l2
  have l4 : c.1 ≤ l.length ∧ c.2.1 ≤ l.length := by rw [← h5]; exact rCountS_le _ _ _ l3
  have l5 : s.2.1 ≤ l.length ∧ s.1.length ≤ c.1 := by rw [← h6]; exact ⟨rManyS_le _ _ (fun p ok h => (rSegS_in l p ok h).2) _ _ _ l4.2, rManyS_len _ _ _ _⟩
  have l6 : d.1 ≤ l.length ∧ d.2.1 ≤ l.length := by rw [← h7]; exact rCountS_le _ _ _ l5.1
  have l7 : k.2.1 ≤ l.length ∧ k.1.length ≤ d.1 := by rw [← h8]; exact ⟨rManyS_le _ _ (fun p ok h => (rMkS_in l p ok h).2) _ _ _ l6.2, rManyS_len _ _ _ _⟩
  have l8 : t.2.1 ≤ l.length ∧ t.1.length ≤ l.length := by rw [← h9]; exact rTalsS_le _ _ _ l7.1
  have l9 : e.2.1 ≤ l.length ∧ e.1.length ≤ l.length := by rw [← h10]; exact rTalsS_le _ _ _ l8.1
  rw [h11]
  refine ⟨by rw [← h1]; exact rIntS_in64 _ _ _ h4, by rw [← h2]; exact rIntS_in64 _ _ _ l1, by rw [← h3]; exact rIntS_in64 _ _ _ l2, ?_, ?_, ?_, ?_, by simp only; omega, by simp only; omega, by simp only; omega, by simp only; omega⟩
  · rw [← h6]; exact rManyS_in (rSegS l) SegI l.length (fun p b h => (rSegS_in l p b h).2) (fun p b h => (rSegS_in l p b h).1) _ _ _ l4.2
  · rw [← h8]; exact rManyS_in (rMkS l) MkI l.length (fun p b h => (rMkS_in l p b h).2) (fun p b h => (rMkS_in l p b h).1) _ _ _ l6.2
  · rw [← h9]; exact rManyS_in (rTalS l) TlI l.length (fun p b h => rTalS_le l p b h) (fun p b h => rTalS_in l p b h hl) _ _ _ (rCountS_le _ _ _ l7.1).2
  · rw [← h10]; exact rManyS_in (rTalS l) TlI l.length (fun p b h => rTalS_le l p b h) (fun p b h => rTalS_in l p b h hl) _ _ _ (rCountS_le _ _ _ l8.1).2
theorem body_len {b : List UInt8} (h : 8 ≤ b.length) : (body b).length = b.length - 4 := by unfold body; rw [List.length_take]; omega
/-- What is decoded is the one manifest whose bytes these are. -/
theorem decd_enc {m : Man} (h : ManI m) (h0 : manErr m = 0) (h8 : 8 ≤ (encB m).length) (_hl : (encB m).length ≤ 1000000) {m' : Man} {er : Int} (hD : Decd (encB m) m' er) : m' = m ∧ er = 0 := by
  obtain ⟨e1, e2⟩ := body_enc m
  have hP : Parsed ((body (encB m)).drop 4) m false := by
    have := (parsed_enc m [] h).parsed
    rw [e1, encM_eq]
    rw [List.append_nil] at this
    exact this
  rcases hD with ⟨k, _⟩ | ⟨_, k, _⟩ | ⟨_, _, m1, bad, hP1, hor⟩
  · omega
  · rw [e1, e2] at k; exact absurd rfl k
  · obtain ⟨q1, q2⟩ := hP1.one hP
    subst q1 q2
    rcases hor with ⟨_, h2, h3⟩ | ⟨hn, _⟩
    · exact ⟨h2, h3⟩
    · exact absurd ⟨rfl, h0, rfl⟩ hn
theorem rdecd_enc {m : Man} (h : ManI m) (h0 : manErr m = 0) (h8 : 8 ≤ (encB m).length) (hl : (encB m).length ≤ 1000000) {m' : Man} {er : Int} (hD : RDecd (encB m) m' er) : m' = m ∧ er = 0 := by
  obtain ⟨e1, e2⟩ := body_enc m
  have hP : RParsed (body (encB m)) m true := by
    rw [e1]
    exact rparsed_enc h (by unfold encB at hl; rw [List.length_append] at hl; omega)
  rcases hD with ⟨k, _⟩ | ⟨_, k, _⟩ | ⟨_, _, m1, bad, hP1, hor⟩
  · omega
  · rw [e1, e2] at k; exact absurd rfl k
  · obtain ⟨q1, q2⟩ := hP1.one hP
    subst q1 q2
    rcases hor with ⟨_, h2, h3⟩ | ⟨hn, _⟩
    · exact ⟨h2, h3⟩
    · exact absurd ⟨rfl, h0, rfl⟩ hn
theorem dec_agree {b : List UInt8} (hl : b.length ≤ 1000000) {m m' : Man} {er er' : Int} (h : Decd b m er) (h' : RDecd b m' er') : m = m' ∧ er = er' := by
  have h0 := h
  have h0' := h'
  rcases h with ⟨k1, k2, k3⟩ | ⟨k1, k2, k3, k4⟩ | ⟨k1, k2, m1, bad, hP1, hor⟩
  · rcases h' with ⟨j1, j2, j3⟩ | ⟨j1, _⟩ | ⟨j1, _⟩
    · exact ⟨k2.trans j2.symm, k3.trans j3.symm⟩
    · omega
    · omega
  · rcases h' with ⟨j1, _⟩ | ⟨j1, j2, j3, j4⟩ | ⟨j1, j2, _⟩
    · omega
    · exact ⟨k3.trans j3.symm, k4.trans j4.symm⟩
    · exact absurd j2 k2
  · rcases h' with ⟨j1, _⟩ | ⟨j1, j2, j3, j4⟩ | ⟨j1, j2, m2, ok, hP2, hor2⟩
    · omega
    · exact absurd k2 j2
    · have hbl := body_len k1
      rcases hor with ⟨hF, rfl, rfl⟩ | ⟨hn, rfl, rfl⟩
      · have hI := hP1.in_ (by rw [List.length_drop]; omega)
        have hb := hF.2.2
        rw [← hb] at h0'
        obtain ⟨q1, q2⟩ := rdecd_enc hI hF.2.1 (by rw [hb]; exact k1) (by rw [hb]; exact hl) h0'
        exact ⟨q1.symm, q2.symm⟩
      · rcases hor2 with ⟨hF, rfl, rfl⟩ | ⟨_, rfl, rfl⟩
        · have hI := hP2.in_ (by omega) (by omega)
          have hb := hF.2.2
          rw [← hb] at h0
          exact decd_enc hI hF.2.1 (by rw [hb]; exact k1) (by rw [hb]; exact hl) h0
        · exact ⟨rfl, rfl⟩
end Go.Proofs.Ytkjhnipjhefndaa
