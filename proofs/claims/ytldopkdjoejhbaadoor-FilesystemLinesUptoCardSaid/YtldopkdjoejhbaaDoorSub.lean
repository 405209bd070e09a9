/- A part of a slice of bytes: laws for the operation, its value left abstract. -/
import Derived.Test.YtldopkdjoejhbaaDoorOff
import Derived.OwnWalkIn
namespace Go.Proofs.YtldopkdjoejhbaaDoor
open Go.RowKit

theorem BSl.drop {w : World} {S : Nat → Prop} {A : Option Addr} {c k : Nat} {l : List UInt8} (h : BSl w S (.slice A l.length c) l) (hk : k ≤ l.length) :
    BSl w S (.slice (if c = k then A else A.map (·.add k)) (l.length - k) (c - k)) (l.drop k) := by
  have h1 := Sl.drop h hk
  rw [Nat.mul_one, ← List.map_drop] at h1
  unfold BSl
  rw [List.length_drop]
  exact h1
theorem BSl.take {w : World} {S : Nat → Prop} {A : Option Addr} {c n k : Nat} {l : List UInt8} (hn : n = l.length) (h : BSl w S (.slice A n c) l) (hk : k ≤ n) : BSl w S (.slice A k c) (l.take k) := by
  subst hn
  have h1 := Sl.take h hk
  rw [Nat.mul_one, ← List.map_take] at h1
  unfold BSl
  rw [List.length_take, Nat.min_eq_left hk]
  exact h1
section
variable {P : Program}
theorem elem_of {t e : TypeId} (ht : P.underlying t = some (.slice e)) : P.elem t = e := by simp [Program.elem, ht]
theorem run_size {e size bytes : Nat} {z : Value} {t : TypeId} (E : Elem P t e size bytes z) (w : World) : (sizeOf (P.elem t)).run P w = .ok size w := by
  obtain ⟨i, hi, hz0, hz1, hz2⟩ := info_parts E.hi
  rw [elem_of E.ht]
  simp [sizeOf, typeInfo, hi, hz1]
/-- s[i:j]. -/
theorem run_subB {t e bytes : Nat} {z : Value} (E : Elem P t e 1 bytes z) {w : World} {S : Nat → Prop} {v : Value} {l : List UInt8} (h : BSl w S v l) (i j : Nat) (h1 : i ≤ j) (h2 : j ≤ l.length) :
    ∃ v', (Instr.slice t v (some (.int .i64 i)) (some (.int .i64 j)) none).run P w = .ok v' w ∧ BSl w S v' ((l.drop i).take (j - i)) := by
  obtain ⟨A, c, rfl, hc, h⟩ := Sl.form h
  have hd := (BSl.drop h (show i ≤ l.length by omega)).take (n := l.length - i) (k := j - i) (by simp) (by omega)
  refine ⟨_, ?_, hd⟩
  rw [run_slice_lh w t A l.length c (by rw [elem_of E.ht]; exact E.ht) .i64 .i64 i j (by omega) (by omega) (by omega), run_size E]
  simp [Result.andThen, sliced]
/-- s[i:]. -/
theorem run_fromB {t e bytes : Nat} {z : Value} (E : Elem P t e 1 bytes z) {w : World} {S : Nat → Prop} {v : Value} {l : List UInt8} (h : BSl w S v l) (i : Nat) (h1 : i ≤ l.length) :
    ∃ v', (Instr.slice t v (some (.int .i64 i)) none none).run P w = .ok v' w ∧ BSl w S v' (l.drop i) := by
  obtain ⟨A, c, rfl, hc, h⟩ := Sl.form h
  refine ⟨_, ?_, BSl.drop h h1⟩
  rw [run_slice_l w t A l.length c (by rw [elem_of E.ht]; exact E.ht) .i64 i (by omega) (by omega), run_size E]
  simp [Result.andThen, sliced]
/-- s[:j]. -/
theorem run_toB {t e bytes : Nat} {z : Value} (E : Elem P t e 1 bytes z) {w : World} {S : Nat → Prop} {v : Value} {l : List UInt8} (h : BSl w S v l) (j : Nat) (h1 : j ≤ l.length) :
    ∃ v', (Instr.slice t v none (some (.int .i64 j)) none).run P w = .ok v' w ∧ BSl w S v' (l.take j) := by
  obtain ⟨A, c, rfl, hc, h⟩ := Sl.form h
  refine ⟨_, ?_, BSl.take rfl h h1⟩
  rw [run_slice_h w t A l.length c (by rw [elem_of E.ht]; exact E.ht) .i64 j (by omega) (by omega), run_size E]
  by_cases h0 : c = 0
  · have : A = none ∨ ∃ a, A = some a := by cases A <;> simp
    rcases this with rfl | ⟨a, rfl⟩ <;> simp [Result.andThen, sliced, h0]
  · rcases A with _ | ⟨b, o, sp⟩
    · simp [Result.andThen, sliced, h0]
    · simp [Result.andThen, sliced, h0, Addr.add]

variable {ops : Array Oper} {rest : List Oper} {o : Oper} {a : Act} {w : World} {Q : Exit → Act → World → Prop} {t e bytes : Nat} {z : Value}
theorem wpList_subB (E : Elem P t e 1 bytes z) (hg : o.guard = none) (x lo hi : Operand) (ho : o.op = .slice t x (some lo) (some hi) none) {S : Nat → Prop} {v : Value} {l : List UInt8} (i j : Nat) {I J : Int} (hx : a.eval x = v) (h : BSl w S v l)
    (hlo : a.eval lo = .int .i64 I) (hhi : a.eval hi = .int .i64 J) (hI : I = (i : Int)) (hJ : J = (j : Int)) (h1 : i ≤ j) (h2 : j ≤ l.length)
    (hK : ∀ v', BSl w S v' ((l.drop i).take (j - i)) → wpList P ops Q rest (a.put o.dst v') w) : wpList P ops Q (o :: rest) a w := by
  subst hI hJ
  refine wpList_plain hg fun K hK' => ?_
  obtain ⟨v', hr, hs⟩ := run_subB E h i j h1 h2
  unfold Oper.wp execOp
  simp only [ho, hx, Option.map_some, Option.map_none, hlo, hhi, run_sliceAt_slice _ _ _ _ _ _ (show P.underlying t = some (.slice (P.elem t)) by rw [elem_of E.ht]; exact E.ht), Sem.run_bind, Sem.run_pure, hr, Result.andThen_ok]
  exact hK' _ _ (hK v' hs)
theorem wpList_fromB (E : Elem P t e 1 bytes z) (hg : o.guard = none) (x lo : Operand) (ho : o.op = .slice t x (some lo) none none) {S : Nat → Prop} {v : Value} {l : List UInt8} (i : Nat) {I : Int} (hx : a.eval x = v) (h : BSl w S v l)
    (hlo : a.eval lo = .int .i64 I) (hI : I = (i : Int)) (h1 : i ≤ l.length) (hK : ∀ v', BSl w S v' (l.drop i) → wpList P ops Q rest (a.put o.dst v') w) : wpList P ops Q (o :: rest) a w := by
  subst hI
  refine wpList_plain hg fun K hK' => ?_
  obtain ⟨v', hr, hs⟩ := run_fromB E h i h1
  unfold Oper.wp execOp
  simp only [ho, hx, Option.map_some, Option.map_none, hlo, run_sliceAt_slice _ _ _ _ _ _ (show P.underlying t = some (.slice (P.elem t)) by rw [elem_of E.ht]; exact E.ht), Sem.run_bind, Sem.run_pure, hr, Result.andThen_ok]
  exact hK' _ _ (hK v' hs)
theorem wpList_toB (E : Elem P t e 1 bytes z) (hg : o.guard = none) (x hi : Operand) (ho : o.op = .slice t x none (some hi) none) {S : Nat → Prop} {v : Value} {l : List UInt8} (j : Nat) {J : Int} (hx : a.eval x = v) (h : BSl w S v l)
    (hhi : a.eval hi = .int .i64 J) (hJ : J = (j : Int)) (h1 : j ≤ l.length) (hK : ∀ v', BSl w S v' (l.take j) → wpList P ops Q rest (a.put o.dst v') w) : wpList P ops Q (o :: rest) a w := by
  subst hJ
  refine wpList_plain hg fun K hK' => ?_
  obtain ⟨v', hr, hs⟩ := run_toB E h j h1
  unfold Oper.wp execOp
  simp only [ho, hx, Option.map_some, Option.map_none, hhi, run_sliceAt_slice _ _ _ _ _ _ (show P.underlying t = some (.slice (P.elem t)) by rw [elem_of E.ht]; exact E.ht), Sem.run_bind, Sem.run_pure, hr, Result.andThen_ok]
  exact hK' _ _ (hK v' hs)
end
end Go.Proofs.YtldopkdjoejhbaaDoor
