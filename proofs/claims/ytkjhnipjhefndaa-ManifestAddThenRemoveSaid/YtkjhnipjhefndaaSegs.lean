/- Manifests as plain data, and the contracts of the small tests of package manifest. -/
import Derived.Test.YtkjhnipjhefndaaLib
import Derived.Test.YtkjhnipjhefndaaProg
namespace Go.Proofs.Ytkjhnipjhefndaa
open Go.RowKit

structure Seg where
  (id level tier count lo hi size : Int)
structure Mk where
  (host file off : Int)
structure Tl where
  (host : Int) (rule : ByteArray) (lines : Int)
def Seg.vals (s : Seg) : List Value := [.int .i64 s.id, .int .i64 s.level, .int .i64 s.tier, .int .i64 s.count, .int .i64 s.lo, .int .i64 s.hi, .int .i64 s.size]
def Mk.vals (s : Mk) : List Value := [.int .i64 s.host, .int .i64 s.file, .int .i64 s.off]
def Tl.vals (s : Tl) : List Value := [.int .i64 s.host, .string s.rule, .int .i64 s.lines]
abbrev Seg.agg (s : Seg) : Value := .agg #[.int .i64 s.id, .int .i64 s.level, .int .i64 s.tier, .int .i64 s.count, .int .i64 s.lo, .int .i64 s.hi, .int .i64 s.size]
abbrev Mk.agg (s : Mk) : Value := .agg #[.int .i64 s.host, .int .i64 s.file, .int .i64 s.off]
abbrev Tl.agg (s : Tl) : Value := .agg #[.int .i64 s.host, .string s.rule, .int .i64 s.lines]
def segBad (nx : Int) (s : Seg) : Bool := decide (s.id < 0) || decide (nx ≤ s.id) || decide (s.level < 0) || decide (s.count < 0) || decide (s.size < 0) || decide (s.tier < 0) || decide (2 < s.tier) || decide (s.hi < s.lo)
def segLess (a b : Seg) : Bool := decide (a.id < b.id)

theorem wrong_any (nu nx jo : Int) (vS vM vT vE : Value) (s : Seg) (w : World) :
    Calls Try.prog 38 #[.agg #[.int .i64 nu, .int .i64 nx, .int .i64 jo, vS, vM, vT, vE], s.agg] w
      fun e w' => e = .returned (.bool (segBad nx s)) ∧ Below w.heap.size w w' := by
  have HB : Hid (segBad nx s = (decide (s.id < 0) || decide (nx ≤ s.id) || decide (s.level < 0) || decide (s.count < 0) || decide (s.size < 0) || decide (s.tier < 0) || decide (2 < s.tier) || decide (s.hi < s.lo))) := rfl
  rw [HB.out]
  clear HB
  go_enter Try.func38, Try.ntmps38
  go_wp2_with fail
  all_goals go_ret
  all_goals exact ⟨ret_bool (by simp [*]), ((Below.refl _ w).alloc (Nat.le_refl _) _).alloc (by simp) _⟩
theorem segLess_any (a b : Seg) (w : World) : Calls Try.prog 40 #[a.agg, b.agg] w fun e w' => e = .returned (.bool (segLess a b)) ∧ Below w.heap.size w w' := by
  go_enter Try.func40, Try.ntmps40
  go_wp2_with fail
  go_ret
  exact ⟨rfl, ((Below.refl _ w).alloc (Nat.le_refl _) _).alloc (by simp) _⟩
def mkLess (a b : Mk) : Bool := decide (a.host < b.host) || (decide (a.host = b.host) && decide (a.file < b.file))
def strLess (a b : ByteArray) : Bool := Op.bytesLess a.toList b.toList
def tlLess (a b : Tl) : Bool := decide (a.host < b.host) || (decide (a.host = b.host) && strLess a.rule b.rule)
theorem eq81 (a b c d : Int) (w : World) : (Op.equalIn 10000 81 (.agg #[.int .i64 a, .int .i64 b]) (.agg #[.int .i64 c, .int .i64 d])).run Try.prog w = .ok (a == c && b == d) w := by
  have u3 := Try.underlying3
  have a3 := Try.isAgg3
  have z3 := Try.sizeOf3
  rw [show (10000 : Nat) = 9999 + 1 from rfl, Op.equalIn]
  simp only [Sem.run_bind, run_underlying Try.underlying81, Result.andThen_ok]
  simp only [Std.Legacy.Range.forIn_eq_forIn_range', Std.Legacy.Range.size, Nat.sub_zero, Nat.add_sub_cancel, Nat.div_one, List.range'_succ, List.range'_zero, List.forIn_cons, List.forIn_nil]
  go_simp
  by_cases h1 : a = c <;> by_cases h2 : b = d <;> simp [h1, h2]
set_option maxRecDepth 100000 in
theorem asc_any (a0 a1 b0 b1 : Int) (w : World) : Calls Try.prog 43 #[.agg #[.int .i64 a0, .int .i64 a1], .agg #[.int .i64 b0, .int .i64 b1]] w
    fun e w' => e = .returned (.bool (decide (a0 < b0) || (decide (a0 = b0) && decide (a1 < b1)))) ∧ Below w.heap.size w w' := by
  have he := eq81 a0 a1 b0 b1
  go_enter Try.func43, Try.ntmps43
  go_wp2_with fail
  all_goals go_ret
  all_goals exact ⟨ret_bool (by rw [Bool.eq_iff_iff]; simp; omega), ((Below.refl _ w).alloc (Nat.le_refl _) _).alloc (by simp) _⟩
theorem tlLess_any (a b : Tl) (w : World) : Calls Try.prog 73 #[a.agg, b.agg] w fun e w' => e = .returned (.bool (tlLess a b)) ∧ Below w.heap.size w w' := by
  go_enter Try.func73, Try.ntmps73
  go_wp2_with fail
  all_goals go_ret
  all_goals exact ⟨ret_bool (by simp [tlLess, strLess, *]), ((Below.refl _ w).alloc (Nat.le_refl _) _).alloc (by simp) _⟩
theorem mkLess_any (a b : Mk) (w : World) : Calls Try.prog 42 #[a.agg, b.agg] w fun e w' => e = .returned (.bool (mkLess a b)) ∧ Below w.heap.size w w' := by
  go_enter Try.func42, Try.ntmps42
  go_wp2_with fail
  refine (asc_any _ _ _ _ _).mono ?_
  rintro e w1 ⟨rfl, hb⟩
  generalize hq : (decide (a.host < b.host) || (decide (a.host = b.host) && decide (a.file < b.file))) = q
  have HQ := keep hq
  clear hq
  go_wp2_with fail
  go_ret
  exact ⟨ret_bool HQ.out.symm, (((Below.refl _ w).alloc (Nat.le_refl _) _).alloc (by simp) _).trans (hb.mono (by simp; omega))⟩
end Go.Proofs.Ytkjhnipjhefndaa
