/- What manifest.Decode reads, as a plain function; the contract of bytes.Equal. -/
import Derived.Test.YtkjhnipjhefndaaReadT
import Derived.Test.YtkjhnipjhefndaaEnc
import Derived.Test.YtkjhnipjhefndaaManif
namespace Go.Proofs.Ytkjhnipjhefndaa
open Go.RowKit

abbrev I1 := Int × List UInt8 × Bool
abbrev nx (a : I1) : I1 := intS a.2.1 a.2.2
def segOf (a : I1) : Seg × List UInt8 × Bool := (⟨a.1, (nx a).1, (nx (nx a)).1, (nx (nx (nx a))).1, (nx (nx (nx (nx a)))).1, (nx (nx (nx (nx (nx a))))).1, (nx (nx (nx (nx (nx (nx a)))))).1⟩, (nx (nx (nx (nx (nx (nx a)))))).2)
def segS (l : List UInt8) (b : Bool) : Seg × List UInt8 × Bool := segOf (intS l b)
def mkOf (a : I1) : Mk × List UInt8 × Bool := (⟨a.1, (nx a).1, (nx (nx a)).1⟩, (nx (nx a)).2)
def mkS (l : List UInt8) (b : Bool) : Mk × List UInt8 × Bool := mkOf (intS l b)
theorem nx_le (a : I1) : (nx a).2.1.length ≤ a.2.1.length := intS_le _ _
theorem segS_le (l : List UInt8) (b : Bool) : (segS l b).2.1.length ≤ l.length := by
  have h0 := intS_le l b
  unfold segS segOf
  generalize intS l b = a at *
  have h1 := nx_le a
  generalize nx a = a1 at *
  have h2 := nx_le a1
  generalize nx a1 = a2 at *
  have h3 := nx_le a2
  generalize nx a2 = a3 at *
  have h4 := nx_le a3
  generalize nx a3 = a4 at *
  have h5 := nx_le a4
  generalize nx a4 = a5 at *
  have h6 := nx_le a5
  generalize nx a5 = a6 at *
  simp only
  omega
theorem mkS_le (l : List UInt8) (b : Bool) : (mkS l b).2.1.length ≤ l.length := by
  have h0 := intS_le l b
  unfold mkS mkOf
  generalize intS l b = a at *
  have h1 := nx_le a
  generalize nx a = a1 at *
  have h2 := nx_le a1
  generalize nx a1 = a2 at *
  simp only
  omega
theorem segS_step {a0 a1 a2 a3 a4 a5 a6 : I1} {l : List UInt8} {b : Bool} (h0 : a0 = intS l b) (h1 : a1 = intS a0.2.1 a0.2.2) (h2 : a2 = intS a1.2.1 a1.2.2) (h3 : a3 = intS a2.2.1 a2.2.2) (h4 : a4 = intS a3.2.1 a3.2.2) (h5 : a5 = intS a4.2.1 a4.2.2) (h6 : a6 = intS a5.2.1 a5.2.2) :
    segS l b = (⟨a0.1, a1.1, a2.1, a3.1, a4.1, a5.1, a6.1⟩, a6.2) := by
  subst h6 h5 h4 h3 h2 h1 h0
  rfl
theorem mkS_step {a0 a1 a2 : I1} {l : List UInt8} {b : Bool} (h0 : a0 = intS l b) (h1 : a1 = intS a0.2.1 a0.2.2) (h2 : a2 = intS a1.2.1 a1.2.2) : mkS l b = (⟨a0.1, a1.1, a2.1⟩, a2.2) := by
  subst h2 h1 h0
  rfl
/-- What Decode reads. -/
structure Parsed (l : List UInt8) (m : Man) (bad : Bool) : Prop where
  out : ∃ (a1 a2 a3 : I1) (c : Nat × List UInt8 × Bool) (s : List Seg × List UInt8 × Bool) (d : Nat × List UInt8 × Bool) (k : List Mk × List UInt8 × Bool) (t e : List Tl × List UInt8 × Bool),
    a1 = intS l false ∧ a2 = intS a1.2.1 a1.2.2 ∧ a3 = intS a2.2.1 a2.2.2 ∧ c = countS a3.2.1 a3.2.2 ∧ s = manyS segS c.1 c.2.1 c.2.2 ∧ d = countS s.2.1 s.2.2 ∧ k = manyS mkS d.1 d.2.1 d.2.2 ∧ t = talsS k.2.1 k.2.2 ∧ e = talsS t.2.1 t.2.2 ∧
      m = ⟨a1.1, a2.1, a3.1, s.1, k.1, t.1, e.1⟩ ∧ bad = e.2.2

theorem stringEq (a b : List UInt8) : (a == b) = decide (a = b) := by
  rw [Bool.eq_iff_iff]; simp
set_option maxRecDepth 100000 in
theorem bequal_any (a b : Value) (la lb : List UInt8) (Sa Sb : Nat → Prop) (w : World) (ha : BSl w Sa a la) (hb : BSl w Sb b lb) :
    Calls Try.prog 59 #[a, b] w fun e w' => e = .returned (.bool (decide (la = lb))) ∧ w = w' := by
  have HA := keep ha
  have HB := keep hb
  clear ha hb
  go_enter Try.func59, Try.ntmps59
  go_wp2_with (first | (refine wpList_stringB rfl (.tmp 5) rfl rfl HA.out Try.underlying29 Try.underlying5 Try.underlying9 ?_) | (refine wpList_stringB rfl (.tmp 7) rfl rfl HB.out Try.underlying29 Try.underlying5 Try.underlying9 ?_) | fail)
  go_ret
  exact ⟨ret_bool (stringEq la lb), rfl⟩
end Go.Proofs.Ytkjhnipjhefndaa
