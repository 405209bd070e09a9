/- The contract of the drawing package's Manifest. -/
import Derived.Test.YtkjhnipjhefndaaIntake
import Derived.Test.YtkjhnipjhefndaaCheckP
namespace Go.Proofs.Ytkjhnipjhefndaa
open Go.RowKit

theorem elSegs : Elem Try.prog 22 46 7 56 (.agg #[.int .i64 0, .int .i64 0, .int .i64 0, .int .i64 0, .int .i64 0, .int .i64 0, .int .i64 0]) := ⟨Try.underlying22, by kernel_rfl, rfl, by decide⟩
structure SegOk (s : Seg) : Prop where
  i0 : 0 ≤ s.id
  i1 : s.id ≤ 1000
  v0 : 0 ≤ s.level
  v1 : s.level ≤ 1000
  t0 : 0 ≤ s.tier
  t1 : s.tier ≤ 2
  c0 : 0 ≤ s.count
  c1 : s.count ≤ 1000
  l0 : 0 ≤ s.lo
  l1 : s.lo ≤ s.hi
  h1 : s.hi ≤ 253402300800100
  s0 : 0 ≤ s.size
  s1 : s.size ≤ 1000
/-- Segments in order, all below a number. -/
def Under (l : List Seg) (nx : Int) : Prop := asc segLess l = true ∧ ∀ s ∈ l, s.id < nx ∧ SegOk s
theorem Under.more {l : List Seg} {n m : Int} (h : Under l n) (hm : n ≤ m) : Under l m := ⟨h.1, fun s hs => ⟨Int.lt_of_lt_of_le (h.2 s hs).1 hm, (h.2 s hs).2⟩⟩
theorem Under.push {l : List Seg} {n : Int} (h : Under l n) (s : Seg) (hs : s.id = n) (hk : SegOk s) : Under (l ++ [s]) (n + 1) := by
  refine ⟨?_, fun t ht => ?_⟩
  · have := asc_ins segLess l l.length s h.1 (Nat.le_refl _) (fun j hj _ => decide_eq_true (by have := (h.2 _ (List.getElem_mem hj)).1; omega)) (fun h => absurd h (Nat.lt_irrefl _))
    simpa using this
  · rcases List.mem_append.1 ht with ht | ht
    · exact ⟨by have := (h.2 t ht).1; omega, (h.2 t ht).2⟩
    · simp at ht
      subst ht
      exact ⟨by omega, hk⟩
theorem Under.bad {l : List Seg} {n : Int} (h : Under l n) : l.any (segBad n) = false := by
  rw [List.any_eq_false]
  intro s hs
  obtain ⟨h1, k⟩ := h.2 s hs
  obtain ⟨a, b, c, d, e, f, g, h, i, j, k, o, p⟩ := k
  simp [segBad]
  omega
theorem oneS (l : List Seg) : ∀ u ∈ l.flatMap Seg.vals, u.oneCell' = true := by
  intro u hu
  obtain ⟨t, _, ht⟩ := List.mem_flatMap.1 hu
  simp only [Seg.vals, List.mem_cons, List.not_mem_nil, or_false] at ht
  rcases ht with rfl | rfl | rfl | rfl | rfl | rfl | rfl <;> rfl
/-- What Manifest's variables hold. -/
structure Mn (wr : World) (p g gc base : Nat) (nu nx jo : Int) (vS : Value) (l : List Seg) : Prop where
  bp : Blk wr p 28 #[.int .i64 0, .int .i64 0, .int .i64 0, .slice none 0 0, .slice none 0 0, .slice none 0 0, .slice none 0 0]
  bg : Blk wr g 28 #[.int .i64 nu, .int .i64 nx, .int .i64 jo, vS, .slice none 0 0, .slice none 0 0, .slice none 0 0]
  own : wr.ownsRow base 46 7 vS l.length (l.flatMap Seg.vals)
  c : Codes wr gc
  s : base ≤ wr.heap.size
section
variable {wr w' : World} {p g gc base : Nat} {nu nx jo : Int} {vS : Value} {l : List Seg}
theorem Mn.grown (h : Mn wr p g gc base nu nx jo vS l) (hg : wr.grownBy w' (some gc)) (hC : Codes w' gc) (h1 : gc < p) (h2 : p < g) (h3 : g < base) : Mn w' p g gc base nu nx jo vS l :=
  ⟨h.bp.grown hg (fun e => by injection e; omega), h.bg.grown hg (fun e => by injection e; omega), own_grown h.own hg (by omega), hC, Nat.le_trans h.s hg.size⟩
end
end Go.Proofs.Ytkjhnipjhefndaa
