/- The reader of package manifest: int, size, count, text. -/
import Derived.Test.YtkjhnipjhefndaaRead
import Derived.Laws.DeepNot64
namespace Go.Proofs.Ytkjhnipjhefndaa
open Go.RowKit

theorem rdGo_le : ∀ (l : List UInt8) (k acc : Nat) (n : Nat) (t : List UInt8), acc < 18446744073709551616 → rdGo k acc l = some (n, t) → t.length < l.length ∧ n < 18446744073709551616
  | [], k, acc, n, t, _, h => by rw [rdGo] at h; cases h
  | c :: l, k, acc, n, t, ha, h => by
    have hb := (accN acc k c ha).2
    rw [rdGo] at h
    split at h
    · cases h
    · split at h
      · injection h with h
        injection h with h1 h2
        subst h1 h2
        exact ⟨by simp, hb⟩
      · have := rdGo_le l _ _ n t hb h
        exact ⟨by simp; omega, this.2⟩
theorem varS_le (l : List UInt8) (bad : Bool) : (varS l bad).2.1.length ≤ l.length ∧ (varS l bad).1 < 18446744073709551616 := by
  unfold varS
  split
  · rename_i n t h
    have := rdGo_le l 0 0 n t (by omega) h
    exact ⟨by simp only; omega, this.2⟩
  · exact ⟨by simp, by simp⟩
/-- The integer of a zigzag number. -/
def unz (n : Nat) : Int := if n % 2 = 1 then -((n / 2 : Nat) : Int) - 1 else ((n / 2 : Nat) : Int)
theorem bits_xor_comm (k : IntKind) (x y : Int) : bits .xor k x y = bits .xor k y x := by
  unfold bits
  simp only [BitVec.xor_comm]
theorem i64_xor_zero (a : Nat) (ha : a < 9223372036854775808) : bits .xor .i64 (a : Int) 0 = (a : Int) := by
  unfold bits
  have e : (BitVec.ofInt IntKind.i64.bits (a : Int) ^^^ BitVec.ofInt IntKind.i64.bits 0).toNat = a := by
    show (BitVec.ofInt 64 (a : Int) ^^^ 0#64).toNat = a
    rw [BitVec.xor_zero]
    exact ofInt_u64 a (by omega)
  simp only [e]
  simp [IntKind.wrap, IntKind.bits, IntKind.signed]
  omega
theorem unz_eq (n : Nat) (hn : n < 18446744073709551616) : bits .xor .i64 ((n : Int) / 2) (wrap64 (-wrap64 (bits .and .u64 (n : Int) 1))) = unz n := by
  have h1 : bits .and .u64 (n : Int) 1 = ((n % 2 : Nat) : Int) := by
    have := u64_and_nat n 1 hn (by omega)
    rw [show (1 : Int) = ((1 : Nat) : Int) from rfl, this, nat_mask1]
  rw [h1, show (n : Int) / 2 = ((n / 2 : Nat) : Int) from by omega]
  unfold unz
  by_cases h : n % 2 = 1
  · rw [h, if_pos rfl, show wrap64 (-wrap64 ((1 : Nat) : Int)) = -1 from by unfold wrap64; decide, bits_xor_comm, i64_not _ (by omega)]
    omega
  · have h0 : n % 2 = 0 := by omega
    rw [h0, if_neg (by omega), show wrap64 (-wrap64 ((0 : Nat) : Int)) = 0 from by unfold wrap64; decide, i64_xor_zero _ (by omega)]
theorem unz_in (n : Nat) (hn : n < 18446744073709551616) : -9223372036854775808 ≤ unz n ∧ unz n ≤ 9223372036854775807 := by
  unfold unz
  split <;> omega
def intS (l : List UInt8) (bad : Bool) : Int × List UInt8 × Bool := (unz (varS l bad).1, (varS l bad).2)
def sizeS (n : Nat) (l : List UInt8) (bad : Bool) : Nat × List UInt8 × Bool := if l.length < n then (0, [], true) else (n, l, bad)
def countS (l : List UInt8) (bad : Bool) : Nat × List UInt8 × Bool := sizeS (IntKind.u64.wrap (intS l bad).1).toNat (intS l bad).2.1 (intS l bad).2.2
def textS (l : List UInt8) (bad : Bool) : List UInt8 × List UInt8 × Bool :=
  ((sizeS (varS l bad).1 (varS l bad).2.1 (varS l bad).2.2).2.1.take (sizeS (varS l bad).1 (varS l bad).2.1 (varS l bad).2.2).1, (sizeS (varS l bad).1 (varS l bad).2.1 (varS l bad).2.2).2.1.drop (sizeS (varS l bad).1 (varS l bad).2.1 (varS l bad).2.2).1, (sizeS (varS l bad).1 (varS l bad).2.1 (varS l bad).2.2).2.2)

set_option maxRecDepth 100000 in
theorem rint_any (B gr : Nat) (v : Value) (l : List UInt8) (bad : Bool) (w : World) (h : Rd w B gr v l bad) (hm : l.length ≤ 1000000) :
    Calls Try.prog 60 #[.pointer (some ⟨gr, 0, none⟩)] w (RdRes w B gr (.int .i64 (intS l bad).1) (intS l bad).2.1 (intS l bad).2.2) := by
  have hn := (varS_le l bad).2
  unfold intS
  go_enter Try.func60, Try.ntmps60
  go_wp2_with fail
  refine (rvarint_any B gr v l bad w h hm).mono ?_
  rintro e w1 ⟨rfl, v1, hR1, hg1⟩
  generalize (varS l bad).1 = n at *
  generalize (varS l bad).2.1 = t1 at *
  generalize (varS l bad).2.2 = bad1 at *
  go_wp2_with fail
  go_ret
  exact ⟨ret_int (unz_eq n hn), _, hR1, hg1⟩
set_option maxRecDepth 100000 in
theorem rsize_any (B gr : Nat) (v : Value) (l : List UInt8) (bad : Bool) (n : Nat) (w : World) (h : Rd w B gr v l bad) (hm : l.length ≤ 1000000) (hn : n < 18446744073709551616) :
    Calls Try.prog 81 #[.pointer (some ⟨gr, 0, none⟩), .int .u64 n] w (RdRes w B gr (.int .i64 (sizeS n l bad).1) (sizeS n l bad).2.1 (sizeS n l bad).2.2) := by
  have hs' : Sl w (lt B) 1 v l.length (l.map ub) := h.s
  obtain ⟨A, c, rfl, hc, hs⟩ := hs'.form
  obtain ⟨p0, p1⟩ := h.b.cell2
  have f0 := h.b.frozen 0
  have f1 := h.b.frozen 1
  by_cases hlt : l.length < n
  · have HE : Hid (RdRes w B gr (.int .i64 (sizeS n l bad).1) (sizeS n l bad).2.1 (sizeS n l bad).2.2 (.returned (.int .i64 0)) ((w.setCell ⟨gr, 0, none⟩ (.slice none 0 0)).setCell ⟨gr, 1, none⟩ (.bool true))) := by
      unfold sizeS
      rw [if_pos hlt]
      exact ⟨rfl, _, h.fail⟩
    generalize sizeS n l bad = q at *
    have g1 : (l.length : Int) < (n : Int) := by omega
    go_enter Try.func81, Try.ntmps81
    go_wp2_with fail
    go_ret
    exact HE.out
  · have HE : Hid (RdRes w B gr (.int .i64 (sizeS n l bad).1) (sizeS n l bad).2.1 (sizeS n l bad).2.2 (.returned (.int .i64 n)) w) := by
      unfold sizeS
      rw [if_neg hlt]
      exact ⟨rfl, _, h, World.grownBy.refl _ _⟩
    generalize sizeS n l bad = q at *
    have g1 : ¬ (l.length : Int) < (n : Int) := by omega
    go_enter Try.func81, Try.ntmps81
    go_wp2_with fail
    go_ret
    exact HE.out
theorem sizeS_le (n : Nat) (l : List UInt8) (bad : Bool) : (sizeS n l bad).2.1.length ≤ l.length ∧ (sizeS n l bad).1 ≤ (sizeS n l bad).2.1.length := by
  unfold sizeS
  split
  · exact ⟨by simp, by simp⟩
  · exact ⟨by simp, by simp only; omega⟩
theorem u64_of (x : Int) : IntKind.u64.wrap x = (((IntKind.u64.wrap x).toNat : Nat) : Int) ∧ (IntKind.u64.wrap x).toNat < 18446744073709551616 := by
  simp only [IntKind.wrap, IntKind.bits, IntKind.signed]
  simp
  omega
set_option maxRecDepth 100000 in
theorem rcount_any (B gr : Nat) (v : Value) (l : List UInt8) (bad : Bool) (w : World) (h : Rd w B gr v l bad) (hm : l.length ≤ 1000000) :
    Calls Try.prog 61 #[.pointer (some ⟨gr, 0, none⟩)] w (RdRes w B gr (.int .i64 (countS l bad).1) (countS l bad).2.1 (countS l bad).2.2) := by
  have hle : (intS l bad).2.1.length ≤ l.length := (varS_le l bad).1
  unfold countS
  go_enter Try.func61, Try.ntmps61
  go_wp2_with fail
  refine (rint_any B gr v l bad w h hm).mono ?_
  rintro e w1 ⟨rfl, v1, hR1, hg1⟩
  generalize (intS l bad).1 = x at *
  generalize (intS l bad).2.1 = t1 at *
  generalize (intS l bad).2.2 = bad1 at *
  obtain ⟨u1, u2⟩ := u64_of x
  generalize (IntKind.u64.wrap x).toNat = n at *
  have U1 := keep u1
  have U2 := keep u2
  clear u1 u2
  go_wp2_with fail
  rw [U1.out]
  refine (rsize_any B gr v1 t1 bad1 n w1 hR1 (by omega) U2.out).mono ?_
  rintro e w2 ⟨rfl, v2, hR2, hg2⟩
  have hgg := grownBy_trans hg1 hg2
  generalize sizeS n t1 bad1 = q at *
  go_wp2_with fail
  go_ret
  exact ⟨rfl, _, hR2, hgg⟩
theorem el9 : Elem Try.prog 29 5 1 1 (.int .u8 0) := ⟨Try.underlying29, by kernel_rfl, rfl, by decide⟩
set_option maxRecDepth 100000 in
theorem rtext_any (B gr : Nat) (v : Value) (l : List UInt8) (bad : Bool) (w : World) (h : Rd w B gr v l bad) (hm : l.length ≤ 1000000) :
    Calls Try.prog 82 #[.pointer (some ⟨gr, 0, none⟩)] w (RdRes w B gr (.string ⟨(textS l bad).1.toArray⟩) (textS l bad).2.1 (textS l bad).2.2) := by
  obtain ⟨hle, hn⟩ := varS_le l bad
  unfold textS
  go_enter Try.func82, Try.ntmps82
  go_wp2_with fail
  refine (rvarint_any B gr v l bad w h hm).mono ?_
  rintro e w1 ⟨rfl, v1, hR1, hg1⟩
  generalize (varS l bad).1 = n at *
  generalize (varS l bad).2.1 = t1 at *
  generalize (varS l bad).2.2 = bad1 at *
  have HN := keep hn
  clear hn
  go_wp2_with fail
  refine (rsize_any B gr v1 t1 bad1 n w1 hR1 (by omega) HN.out).mono ?_
  rintro e w2 ⟨rfl, v2, hR2, hg2⟩
  have hgg := grownBy_trans hg1 hg2
  obtain ⟨q1, q2⟩ := sizeS_le n t1 bad1
  generalize (sizeS n t1 bad1).1 = k at *
  generalize (sizeS n t1 bad1).2.1 = t2 at *
  generalize (sizeS n t1 bad1).2.2 = bad2 at *
  have hs' : Sl w2 (lt B) 1 v2 t2.length (t2.map ub) := hR2.s
  obtain ⟨A, c, rfl, hc, hs⟩ := hs'.form
  obtain ⟨p0, p1⟩ := hR2.b.cell2
  have f0 := hR2.b.frozen 0
  have hk : (k : Int) ≤ (c : Int) := by omega
  clear hs'
  have hfin : Hid (∀ v', BSl w2 (lt B) v' (t2.drop k) → RdRes w B gr (.string ⟨(t2.take k).toArray⟩) (t2.drop k) bad2 (.returned (.string ⟨(t2.take k).toArray⟩)) (w2.setCell ⟨gr, 0, none⟩ v')) := fun v' hv => by
    obtain ⟨a1, a2⟩ := hR2.ok hv
    exact ⟨rfl, _, a1, grownBy_trans hgg a2⟩
  have hpre : BSl w2 (lt B) (.slice A k c) (t2.take k) := by
    have := hs.take (k := k) (by omega)
    unfold BSl
    rw [Nat.mul_one] at this
    rwa [List.map_take, show (t2.take k).length = k by simp; omega]
  have HP := keep hpre
  clear hpre hgg
  rcases Nat.eq_zero_or_pos t2.length with h0 | h0
  · have ht2 : t2 = [] := List.eq_nil_of_length_eq_zero h0
    subst ht2
    have hk0 : k = 0 := by simpa using q2
    subst hk0
    go_wp2_with (refine wpList_stringB rfl _ rfl rfl HP.out Try.underlying29 Try.underlying5 Try.underlying9 ?_)
    all_goals
      go_ret
      exact hfin.out _ (Sl.nil _ _ _ _ _)
  · obtain ⟨b, o, rfl, hb, hrow⟩ := hs.row h0
    by_cases hck : c = k
    · subst hck
      have hl0 : t2.length - c = 0 := by omega
      have ht : BSl w2 (lt B) (.slice (some ⟨b, o, none⟩) 0 0) (t2.drop c) := by
        have := hs.tail1 (k := c) (by omega)
        unfold BSl
        rw [List.map_drop, List.length_drop]
        rw [hl0] at this ⊢
        exact this
      have HT := keep ht
      clear ht hl0 hrow
      go_wp2_with (refine wpList_stringB rfl _ rfl rfl HP.out Try.underlying29 Try.underlying5 Try.underlying9 ?_)
      go_ret
      exact hfin.out _ HT.out
    · have ht : BSl w2 (lt B) (.slice (some ⟨b, o + k, none⟩) (t2.length - k) (c - k)) (t2.drop k) := by
        have := hs.tail2 (k := k) (by omega) hck
        unfold BSl
        rw [List.map_drop, List.length_drop]
        exact this
      have HT := keep ht
      clear ht hrow
      go_wp2_with (refine wpList_stringB rfl _ rfl rfl HP.out Try.underlying29 Try.underlying5 Try.underlying9 ?_)
      go_ret
      exact hfin.out _ HT.out
end Go.Proofs.Ytkjhnipjhefndaa
