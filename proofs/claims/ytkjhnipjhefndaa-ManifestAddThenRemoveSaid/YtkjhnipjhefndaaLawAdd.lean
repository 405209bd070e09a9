/- ManifestAddThenRemove's function returns true. -/
import Derived.Test.YtkjhnipjhefndaaLawEnc
import Derived.Test.YtkjhnipjhefndaaRmv
namespace Go.Proofs.Ytkjhnipjhefndaa
open Go.RowKit

def newSeg : Seg := ⟨99, 2, 2, 3, 0, 8, 7⟩
theorem under_err {m : Man} (h0 : 0 ≤ m.nu) (h1 : 0 ≤ m.nx) (h2 : 0 ≤ m.jo) (hs : Under m.segs m.nx) (hl : m.segs.length ≤ 64) (hm : asc mkLess m.marks = true) (ht : asc tlLess m.tals = true) (he : asc tlLess m.exps = true) : manErr m = 0 := by
  rw [manErr_rest (by omega) (by omega) hs.bad, if_pos ⟨hs.1, hm, ht, he⟩]
theorem Good.plus {m : Man} (h : Good m) : manErr (counted (added m newSeg)) = 0 :=
  under_err (by show 0 ≤ m.nu + 1; have := h.u0; omega) (by show 0 ≤ m.nx + 1; have := h.x0; omega) h.j0 (Under.push h.s (withId newSeg m.nx) rfl (by have := h.x0; have := h.x1; constructor <;> simp only [withId, newSeg] <;> omega)) (by show (m.segs ++ [_]).length ≤ 64; have := h.sl; simp; omega) h.m_ h.t h.e
theorem Good.minus {m : Man} (h : Good m) : manErr (counted (without (counted (added m newSeg)) m.segs)) = 0 :=
  under_err (by show 0 ≤ m.nu + 1 + 1; have := h.u0; omega) (by show 0 ≤ m.nx + 1; have := h.x0; omega) h.j0 (Under.more h.s (by show m.nx ≤ m.nx + 1; omega)) (by show m.segs.length ≤ 64; have := h.sl; omega) h.m_ h.t h.e
theorem Good.fresh {m : Man} (h : Good m) : ∀ j, (hj : j < m.segs.length) → (m.segs[j].id == m.nx) = false := fun j hj => by
  have := (h.s.2 _ (List.getElem_mem hj)).1
  rw [beq_eq_false_iff_ne]
  omega
theorem Good.small {m : Man} (h : Good m) : Small m := h.smallE.small
theorem Good.smallR {m : Man} (h : Good m) : Small (counted (added m newSeg)) := by
  have s := h.small
  exact ⟨by show (m.segs ++ [_]).length ≤ _; have := h.sl; simp; omega, s.2, s.3, s.4⟩
theorem Good.smallT {m : Man} (h : Good m) : Small (counted (without (counted (added m newSeg)) m.segs)) := by
  have s := h.small
  exact ⟨s.1, s.2, s.3, s.4⟩
theorem find_last {w w' : World} {l : List Seg} {y : Seg} {id : Int} {e : Ending} (hno : ∀ j, (h : j < l.length) → (l[j].id == id) = false) (hy : (y.id == id) = true) (h : FindRes w (l ++ [y]) id e w') : e = .returned (.tuple #[y.agg, .bool true]) ∧ Below w.heap.size w w' := by
  obtain ⟨s, ok, rfl, hs, hb⟩ := h
  rcases hs with ⟨rfl, rfl, hn⟩ | ⟨rfl, i, hi, rfl, hI⟩
  · exfalso
    rcases hn with ⟨i, _, h, _⟩ | ⟨_, hn⟩
    · omega
    · have := hn l.length (by simp)
      simp at this
      rw [beq_iff_eq] at hy
      exact this hy
  · rcases hI with ⟨j, hj, hij, hp, _⟩ | ⟨h, _⟩
    · obtain rfl : i = j := by omega
      rcases Nat.lt_or_ge i l.length with h | h
      · simp only [List.getElem_append_left h] at hp
        rw [hno i h] at hp
        cases hp
      · have : i < l.length + 1 := by simpa using hi
        obtain rfl : i = l.length := by omega
        exact ⟨by simp, hb⟩
    · omega
theorem find_none {w w' : World} {l : List Seg} {id : Int} {e : Ending} (hno : ∀ j, (h : j < l.length) → (l[j].id == id) = false) (h : FindRes w l id e w') : e = .returned (.tuple #[seg0.agg, .bool false]) ∧ Below w.heap.size w w' := by
  obtain ⟨s, ok, rfl, hs, hb⟩ := h
  rcases hs with ⟨rfl, rfl, hn⟩ | ⟨rfl, i, hi, rfl, hI⟩
  · exact ⟨rfl, hb⟩
  · exfalso
    rcases hI with ⟨j, hj, hij, hp, _⟩ | ⟨h, _⟩
    · have h2 := hno j hj
      simp only [h2] at hp
      cases hp
    · omega
section
variable (m : Man) (hG : Good m) (E1 E2 E3 E4 A B : Option Addr) (f1 f2 f3 f4 c d : Nat) (w : World)
include hG
theorem add_good (hL : Lies w (lt w.heap.size) m (.slice E1 m.segs.length f1) (.slice E2 m.marks.length f2) (.slice E3 m.tals.length f3) (.slice E4 m.exps.length f4)) :
    Calls Try.prog 20 #[.agg #[.int .i64 m.nu, .int .i64 m.nx, .int .i64 m.jo, .slice E1 m.segs.length f1, .slice E2 m.marks.length f2, .slice E3 m.tals.length f3, .slice E4 m.exps.length f4], .agg #[.int .i64 99, .int .i64 2, .int .i64 2, .int .i64 3, .int .i64 0, .int .i64 8, .int .i64 7]] w fun e w' =>
      ∃ A c, e = .returned (.tuple #[.agg #[.int .i64 (m.nu + 1), .int .i64 (m.nx + 1), .int .i64 m.jo, .slice A (m.segs.length + 1) c, .slice E2 m.marks.length f2, .slice E3 m.tals.length f3, .slice E4 m.exps.length f4], .int .i64 0]) ∧ Sl w' (lt w'.heap.size) 7 (.slice A (m.segs.length + 1) c) (m.segs.length + 1) ((m.segs ++ [withId newSeg m.nx]).flatMap Seg.vals) ∧ Below w.heap.size w w' := by
  have h := add_any m newSeg _ _ _ _ w hL hG.small (by have := hG.sl; omega) hG.u0 (by have := hG.u1; omega) hG.x0 (by have := hG.x1; omega) hG.err hG.plus
  refine h.mono ?_
  rintro e w' ⟨vS, rfl, hs, hb⟩
  obtain ⟨A, c, rfl, _, hs⟩ := hs.form
  exact ⟨A, c, rfl, hs.mono (fun k hk => hk.2), hb⟩
theorem find_good (hs : Sl w (lt w.heap.size) 7 (.slice A (m.segs.length + 1) c) (m.segs.length + 1) ((m.segs ++ [withId newSeg m.nx]).flatMap Seg.vals)) :
    Calls Try.prog 21 #[.agg #[.int .i64 (m.nu + 1), .int .i64 (m.nx + 1), .int .i64 m.jo, .slice A (m.segs.length + 1) c, .slice E2 m.marks.length f2, .slice E3 m.tals.length f3, .slice E4 m.exps.length f4], .int .i64 m.nx] w fun e w' => e = .returned (.tuple #[.agg #[.int .i64 m.nx, .int .i64 2, .int .i64 2, .int .i64 3, .int .i64 0, .int .i64 8, .int .i64 7], .bool true]) ∧ Below w.heap.size w w' := by
  have hl : (counted (added m newSeg)).segs.length = m.segs.length + 1 := by show (m.segs ++ [withId newSeg m.nx]).length = _; simp
  have h := find_any (counted (added m newSeg)) (.slice A (m.segs.length + 1) c) (.slice E2 m.marks.length f2) (.slice E3 m.tals.length f3) (.slice E4 m.exps.length f4) m.nx w (by rw [hl]; exact hs) hG.smallR.1
  refine h.mono ?_
  intro e w' h
  exact find_last (y := withId newSeg m.nx) hG.fresh (by simp [withId]) h
theorem rmv_good (vi : Value) (hs : Sl w (lt w.heap.size) 7 (.slice A (m.segs.length + 1) c) (m.segs.length + 1) ((m.segs ++ [withId newSeg m.nx]).flatMap Seg.vals)) (hL : Lies w (lt w.heap.size) m (.slice E1 m.segs.length f1) (.slice E2 m.marks.length f2) (.slice E3 m.tals.length f3) (.slice E4 m.exps.length f4)) (hi : Sl w (lt w.heap.size) 1 vi 1 [.int .i64 m.nx]) :
    Calls Try.prog 22 #[.agg #[.int .i64 (m.nu + 1), .int .i64 (m.nx + 1), .int .i64 m.jo, .slice A (m.segs.length + 1) c, .slice E2 m.marks.length f2, .slice E3 m.tals.length f3, .slice E4 m.exps.length f4], vi] w fun e w' =>
      ∃ B d, e = .returned (.tuple #[.agg #[.int .i64 (m.nu + 1 + 1), .int .i64 (m.nx + 1), .int .i64 m.jo, .slice B m.segs.length d, .slice E2 m.marks.length f2, .slice E3 m.tals.length f3, .slice E4 m.exps.length f4], .int .i64 0]) ∧ Sl w' (lt w'.heap.size) 7 (.slice B m.segs.length d) m.segs.length (m.segs.flatMap Seg.vals) ∧ Below w.heap.size w w' := by
  have hl : (counted (added m newSeg)).segs.length = m.segs.length + 1 := by show (m.segs ++ [withId newSeg m.nx]).length = _; simp
  have h := remove_last (counted (added m newSeg)) m.segs (withId newSeg m.nx) m.nx (.slice A (m.segs.length + 1) c) _ _ _ vi w ⟨by rw [hl]; exact hs, hL.m_, hL.t, hL.e⟩ hi hG.smallR hG.plus rfl hG.fresh (by simp [withId]) (by show 0 ≤ m.nu + 1; have := hG.u0; omega) (by show m.nu + 1 ≤ _; have := hG.u1; omega) hG.minus
  refine h.mono ?_
  rintro e w' ⟨vS, rfl, hs, hb⟩
  obtain ⟨A, c, rfl, _, hs⟩ := hs.form
  exact ⟨A, c, rfl, hs.mono (fun k hk => hk.2), hb⟩
theorem gone_good (hs : Sl w (lt w.heap.size) 7 (.slice B m.segs.length d) m.segs.length (m.segs.flatMap Seg.vals)) :
    Calls Try.prog 21 #[.agg #[.int .i64 (m.nu + 1 + 1), .int .i64 (m.nx + 1), .int .i64 m.jo, .slice B m.segs.length d, .slice E2 m.marks.length f2, .slice E3 m.tals.length f3, .slice E4 m.exps.length f4], .int .i64 m.nx] w fun e w' => e = .returned (.tuple #[.agg #[.int .i64 0, .int .i64 0, .int .i64 0, .int .i64 0, .int .i64 0, .int .i64 0, .int .i64 0], .bool false]) ∧ Below w.heap.size w w' := by
  have h := find_any (counted (without (counted (added m newSeg)) m.segs)) (.slice B m.segs.length d) (.slice E2 m.marks.length f2) (.slice E3 m.tals.length f3) (.slice E4 m.exps.length f4) m.nx w hs hG.smallT.1
  refine h.mono ?_
  intro e w' h
  exact find_none hG.fresh h
theorem twice_good (vi : Value) (hs : Sl w (lt w.heap.size) 7 (.slice B m.segs.length d) m.segs.length (m.segs.flatMap Seg.vals)) (hL : Lies w (lt w.heap.size) m (.slice E1 m.segs.length f1) (.slice E2 m.marks.length f2) (.slice E3 m.tals.length f3) (.slice E4 m.exps.length f4)) (hi : Sl w (lt w.heap.size) 1 vi 1 [.int .i64 m.nx]) :
    Calls Try.prog 22 #[.agg #[.int .i64 (m.nu + 1 + 1), .int .i64 (m.nx + 1), .int .i64 m.jo, .slice B m.segs.length d, .slice E2 m.marks.length f2, .slice E3 m.tals.length f3, .slice E4 m.exps.length f4], vi] w fun e w' => e = .returned (.tuple #[.agg manZ7, .int .i64 9]) ∧ Below w.heap.size w w' :=
  remove_missing (counted (without (counted (added m newSeg)) m.segs)) m.nx (.slice B m.segs.length d) _ _ _ vi w ⟨hs, hL.m_, hL.t, hL.e⟩ hi hG.smallT hG.minus hG.fresh
end
theorem one_lit (w : World) (x : Int) (t : TypeId) : Sl (w.alloc (.cells #[.int .i64 x] t)) (fun k => k = w.heap.size) 1 (.slice (some ⟨w.heap.size, 0, none⟩) 1 1) 1 [.int .i64 x] := by
  refine ⟨rfl, _, 1, rfl, Nat.le_refl _, fun _ => ⟨w.heap.size, 0, rfl, rfl, fun j u hu => ?_⟩⟩
  rw [Nat.zero_add, (Blk.new w t _).cell]
  simpa using hu
set_option maxHeartbeats 8000000 in
set_option maxRecDepth 100000 in
theorem law_add (v : Value) (bs : List Int) (w : World) (hv : Sl w (lt w.heap.size) 1 v bs.length (bs.map (.int .u8))) (hr : ∀ x ∈ bs, 0 ≤ x ∧ x ≤ 255) (hm : bs.length ≤ maxLen) :
    Calls Try.prog 5 #[v] w fun e w' => e = .returned (.bool true) ∧ Below w.heap.size w w' := by
  obtain ⟨Av, cv, rfl, _, hv⟩ := hv.form
  go_enter Try.func5, Try.ntmps5
  go_wp2_with fail
  refine (awake_any _).mono ?_
  rintro e w1 ⟨rfl, hb1⟩
  have hv1 := (hv.below hb1 (Nat.le_refl _)).more hb1.size
  have hz1 := hb1.size
  clear hv
  go_wp2_with fail
  refine (drawNew _ bs 300 _ hv1 hr (by omega) hm).mono ?_
  rintro e w2 ⟨gc, rfl, hgc, hC2, hb2⟩
  have hbw2 := bchain hb1 hb2
  have hwg : w.heap.size ≤ gc := by omega
  clear hv1 hb1 hb2 hz1 hgc hr hm
  go_wp2_with fail
  refine (drawManifest gc _ hC2).mono ?_
  rintro e w3 ⟨m, mS, mM, mT, mE, rfl, hL, hG, hC3, hg3⟩
  have hbw3 := below_grown hbw2 hg3 hbw2.size hwg
  obtain ⟨E1, f1, rfl, _⟩ := hL.s.form
  obtain ⟨E2, f2, rfl, _⟩ := hL.m_.form
  obtain ⟨E3, f3, rfl, _⟩ := hL.t.form
  obtain ⟨E4, f4, rfl, _⟩ := hL.e.form
  have hL3 : Lies w3 (lt w3.heap.size) m (.slice E1 m.segs.length f1) (.slice E2 m.marks.length f2) (.slice E3 m.tals.length f3) (.slice E4 m.exps.length f4) := hL.mono (fun k hk => hk.2)
  have q0 : 0 ≤ m.nu := hG.u0
  have q1 : m.nu ≤ 8 := hG.u1
  have q2 : 0 ≤ m.nx := hG.x0
  have q3 : m.nx ≤ 26 := hG.x1
  have q4 : m.segs.length ≤ 13 := hG.sl
  have hG := keep hG
  clear hC2 hC3 hg3 hbw2 hL hwg
  go_upto_region 5 with fail
  obtain ⟨g4, hg4⟩ : ∃ g4, g4 = w3.heap.size := ⟨_, rfl⟩
  obtain ⟨w4, hw4⟩ : ∃ w4, w4 = w3.alloc (.cells #[.int .i64 m.nu, .int .i64 m.nx, .int .i64 m.jo, .slice E1 m.segs.length f1, .slice E2 m.marks.length f2, .slice E3 m.tals.length f3, .slice E4 m.exps.length f4] 28) := ⟨_, rfl⟩
  rw [← hw4, ← hg4]
  have hb4 : Below w3.heap.size w3 w4 := by rw [hw4]; exact (Below.refl _ _).alloc (Nat.le_refl _) _
  have hM4 : Blk w4 g4 28 #[.int .i64 m.nu, .int .i64 m.nx, .int .i64 m.jo, .slice E1 m.segs.length f1, .slice E2 m.marks.length f2, .slice E3 m.tals.length f3, .slice E4 m.exps.length f4] := by rw [hw4, hg4]; exact Blk.new _ _ _
  clear hw4 hg4
  have hL4 := hL3.below hb4
  have hbw4 := bchain hbw3 hb4
  clear hL3 hbw3 hb4
  obtain ⟨m0_, m1_, m2_, m3_, m4_, m5_, m6_⟩ := hM4.cell7
  go_wp2_with fail
  refine (add_good m hG.out E1 E2 E3 E4 f1 f2 f3 f4 w4 hL4).mono ?_
  rintro e w5 ⟨A, c, rfl, hS5, hb5⟩
  have hL5 := hL4.below hb5
  have hM5 := hM4.below hb5 hM4.lt
  have hbw5 := bchain hbw4 hb5
  clear hL4 hM4 hbw4 hb5
  clear m0_ m1_ m2_ m3_ m4_ m5_ m6_
  go_upto_region 6 with fail
  obtain ⟨g6, hg6⟩ : ∃ g6, g6 = w5.heap.size := ⟨_, rfl⟩
  obtain ⟨w6, hw6⟩ : ∃ w6, w6 = w5.alloc (.cells #[.int .i64 (m.nu + 1), .int .i64 (m.nx + 1), .int .i64 m.jo, .slice A (m.segs.length + 1) c, .slice E2 m.marks.length f2, .slice E3 m.tals.length f3, .slice E4 m.exps.length f4] 28) := ⟨_, rfl⟩
  rw [← hw6, ← hg6]
  have hb6 : Below w5.heap.size w5 w6 := by rw [hw6]; exact (Below.refl _ _).alloc (Nat.le_refl _) _
  have hR6 : Blk w6 g6 28 #[.int .i64 (m.nu + 1), .int .i64 (m.nx + 1), .int .i64 m.jo, .slice A (m.segs.length + 1) c, .slice E2 m.marks.length f2, .slice E3 m.tals.length f3, .slice E4 m.exps.length f4] := by rw [hw6, hg6]; exact Blk.new _ _ _
  clear hw6 hg6
  have hL6 := hL5.below hb6
  have hM6 := hM5.below hb6 hM5.lt
  have hS6 := (hS5.below hb6 (Nat.le_refl _)).more hb6.size
  have hbw6 := bchain hbw5 hb6
  clear hL5 hM5 hS5 hbw5 hb6
  obtain ⟨m0_, m1_, m2_, m3_, m4_, m5_, m6_⟩ := hM6.cell7
  obtain ⟨r0_, r1_, r2_, r3_, r4_, r5_, r6_⟩ := hR6.cell7
  go_wp2_with fail
  refine (find_good m hG.out E2 E3 E4 A f2 f3 f4 c w6 hS6).mono ?_
  rintro e w7 ⟨rfl, hb7⟩
  have hL7 := hL6.below hb7
  have hM7 := hM6.below hb7 hM6.lt
  have hS7 := (hS6.below hb7 (Nat.le_refl _)).more hb7.size
  have hR7 := hR6.below hb7 hR6.lt
  have hbw7 := bchain hbw6 hb7
  clear hL6 hM6 hS6 hR6 hbw6 hb7
  clear m0_ m1_ m2_ m3_ m4_ m5_ m6_ r0_ r1_ r2_ r3_ r4_ r5_ r6_
  go_upto_region 7 with fail
  obtain ⟨g8, hg8⟩ : ∃ g8, g8 = w7.heap.size := ⟨_, rfl⟩
  obtain ⟨w8, hw8⟩ : ∃ w8, w8 = w7.alloc (.cells #[.int .i64 m.nx, .int .i64 2, .int .i64 2, .int .i64 3, .int .i64 0, .int .i64 8, .int .i64 7] 46) := ⟨_, rfl⟩
  rw [← hw8, ← hg8]
  have hb8 : Below w7.heap.size w7 w8 := by rw [hw8]; exact (Below.refl _ _).alloc (Nat.le_refl _) _
  have hF8 : Blk w8 g8 46 #[.int .i64 m.nx, .int .i64 2, .int .i64 2, .int .i64 3, .int .i64 0, .int .i64 8, .int .i64 7] := by rw [hw8, hg8]; exact Blk.new _ _ _
  clear hw8 hg8
  have hL8 := hL7.below hb8
  have hM8 := hM7.below hb8 hM7.lt
  have hS8 := (hS7.below hb8 (Nat.le_refl _)).more hb8.size
  have hR8 := hR7.below hb8 hR7.lt
  have hbw8 := bchain hbw7 hb8
  clear hL7 hM7 hS7 hR7 hbw7 hb8
  obtain ⟨m0_, m1_, m2_, m3_, m4_, m5_, m6_⟩ := hM8.cell7
  obtain ⟨r0_, r1_, r2_, r3_, r4_, r5_, r6_⟩ := hR8.cell7
  obtain ⟨x0_, x1_, x2_, x3_, x4_, x5_, x6_⟩ := hF8.cell7
  go_upto_region 9 with fail
  go_wp2_with fail
  obtain ⟨g9, hg9⟩ : ∃ g9, g9 = w8.heap.size := ⟨_, rfl⟩
  obtain ⟨w9, hw9⟩ : ∃ w9, w9 = w8.alloc (.cells #[.int .i64 m.nx] 3) := ⟨_, rfl⟩
  rw [← hw9, ← hg9]
  have hb9 : Below w8.heap.size w8 w9 := by rw [hw9]; exact (Below.refl _ _).alloc (Nat.le_refl _) _
  have hi9 : Sl w9 (lt w9.heap.size) 1 (.slice (some ⟨g9, 0, none⟩) 1 1) 1 [.int .i64 m.nx] := by
    have := one_lit w8 m.nx 3
    rw [← hw9, ← hg9] at this
    exact this.mono (fun k hk => by subst hk; rw [hw9, hg9]; simp)
  clear hw9 hg9
  clear m0_ m1_ m2_ m3_ m4_ m5_ m6_ r0_ r1_ r2_ r3_ r4_ r5_ r6_ x0_ x1_ x2_ x3_ x4_ x5_ x6_
  clear hF8
  have hL9 := hL8.below hb9
  have hM9 := hM8.below hb9 hM8.lt
  have hS9 := (hS8.below hb9 (Nat.le_refl _)).more hb9.size
  have hR9 := hR8.below hb9 hR8.lt
  have hbw9 := bchain hbw8 hb9
  clear hL8 hM8 hS8 hR8 hbw8 hb9
  refine (rmv_good m hG.out E1 E2 E3 E4 A f1 f2 f3 f4 c w9 _ hS9 hL9 hi9).mono ?_
  rintro e w10 ⟨B, d, rfl, hT10, hb10⟩
  clear hi9
  have hL10 := hL9.below hb10
  have hM10 := hM9.below hb10 hM9.lt
  have hbw10 := bchain hbw9 hb10
  clear hL9 hM9 hbw9 hb10
  clear hS9 hR9
  go_upto_region 10 with fail
  obtain ⟨g11, hg11⟩ : ∃ g11, g11 = w10.heap.size := ⟨_, rfl⟩
  obtain ⟨w11, hw11⟩ : ∃ w11, w11 = w10.alloc (.cells #[.int .i64 (m.nu + 1 + 1), .int .i64 (m.nx + 1), .int .i64 m.jo, .slice B m.segs.length d, .slice E2 m.marks.length f2, .slice E3 m.tals.length f3, .slice E4 m.exps.length f4] 28) := ⟨_, rfl⟩
  rw [← hw11, ← hg11]
  have hb11 : Below w10.heap.size w10 w11 := by rw [hw11]; exact (Below.refl _ _).alloc (Nat.le_refl _) _
  have hD11 : Blk w11 g11 28 #[.int .i64 (m.nu + 1 + 1), .int .i64 (m.nx + 1), .int .i64 m.jo, .slice B m.segs.length d, .slice E2 m.marks.length f2, .slice E3 m.tals.length f3, .slice E4 m.exps.length f4] := by rw [hw11, hg11]; exact Blk.new _ _ _
  clear hw11 hg11
  have hL11 := hL10.below hb11
  have hM11 := hM10.below hb11 hM10.lt
  have hT11 := (hT10.below hb11 (Nat.le_refl _)).more hb11.size
  have hbw11 := bchain hbw10 hb11
  clear hL10 hM10 hT10 hbw10 hb11
  obtain ⟨m0_, m1_, m2_, m3_, m4_, m5_, m6_⟩ := hM11.cell7
  obtain ⟨r0_, r1_, r2_, r3_, r4_, r5_, r6_⟩ := hD11.cell7
  go_wp2_with fail
  refine (gone_good m hG.out E2 E3 E4 B f2 f3 f4 d w11 hT11).mono ?_
  rintro e w12 ⟨rfl, hb12⟩
  have hL12 := hL11.below hb12
  have hM12 := hM11.below hb12 hM11.lt
  have hT12 := (hT11.below hb12 (Nat.le_refl _)).more hb12.size
  have hD12 := hD11.below hb12 hD11.lt
  have hbw12 := bchain hbw11 hb12
  clear hL11 hM11 hT11 hD11 hbw11 hb12
  clear m0_ m1_ m2_ m3_ m4_ m5_ m6_ r0_ r1_ r2_ r3_ r4_ r5_ r6_
  go_upto_region 11 with fail
  obtain ⟨g13, hg13⟩ : ∃ g13, g13 = w12.heap.size := ⟨_, rfl⟩
  obtain ⟨w13, hw13⟩ : ∃ w13, w13 = w12.alloc (.cells #[.int .i64 0, .int .i64 0, .int .i64 0, .int .i64 0, .int .i64 0, .int .i64 0, .int .i64 0] 46) := ⟨_, rfl⟩
  rw [← hw13, ← hg13]
  have hb13 : Below w12.heap.size w12 w13 := by rw [hw13]; exact (Below.refl _ _).alloc (Nat.le_refl _) _
  have hF13 : Blk w13 g13 46 #[.int .i64 0, .int .i64 0, .int .i64 0, .int .i64 0, .int .i64 0, .int .i64 0, .int .i64 0] := by rw [hw13, hg13]; exact Blk.new _ _ _
  clear hw13 hg13
  have hL13 := hL12.below hb13
  have hM13 := hM12.below hb13 hM12.lt
  have hT13 := (hT12.below hb13 (Nat.le_refl _)).more hb13.size
  have hD13 := hD12.below hb13 hD12.lt
  have hbw13 := bchain hbw12 hb13
  clear hL12 hM12 hT12 hD12 hbw12 hb13
  obtain ⟨m0_, m1_, m2_, m3_, m4_, m5_, m6_⟩ := hM13.cell7
  obtain ⟨r0_, r1_, r2_, r3_, r4_, r5_, r6_⟩ := hD13.cell7
  go_wp2_with fail
  obtain ⟨g14, hg14⟩ : ∃ g14, g14 = w13.heap.size := ⟨_, rfl⟩
  obtain ⟨w14, hw14⟩ : ∃ w14, w14 = w13.alloc (.cells #[.int .i64 m.nx] 3) := ⟨_, rfl⟩
  rw [← hw14, ← hg14]
  have hb14 : Below w13.heap.size w13 w14 := by rw [hw14]; exact (Below.refl _ _).alloc (Nat.le_refl _) _
  have hi14 : Sl w14 (lt w14.heap.size) 1 (.slice (some ⟨g14, 0, none⟩) 1 1) 1 [.int .i64 m.nx] := by
    have := one_lit w13 m.nx 3
    rw [← hw14, ← hg14] at this
    exact this.mono (fun k hk => by subst hk; rw [hw14, hg14]; simp)
  clear hw14 hg14
  clear m0_ m1_ m2_ m3_ m4_ m5_ m6_ r0_ r1_ r2_ r3_ r4_ r5_ r6_
  clear hF13
  have hL14 := hL13.below hb14
  have hM14 := hM13.below hb14 hM13.lt
  have hT14 := (hT13.below hb14 (Nat.le_refl _)).more hb14.size
  have hD14 := hD13.below hb14 hD13.lt
  have hbw14 := bchain hbw13 hb14
  clear hL13 hM13 hT13 hD13 hbw13 hb14
  refine (twice_good m hG.out E1 E2 E3 E4 B f1 f2 f3 f4 d w14 _ hT14 hL14 hi14).mono ?_
  rintro e w15 ⟨rfl, hb15⟩
  clear hi14
  have hL15 := hL14.below hb15
  have hM15 := hM14.below hb15 hM14.lt
  have hT15 := (hT14.below hb15 (Nat.le_refl _)).more hb15.size
  have hD15 := hD14.below hb15 hD14.lt
  have hbw15 := bchain hbw14 hb15
  clear hL14 hM14 hT14 hD14 hbw14 hb15
  go_upto_region 12 with fail
  obtain ⟨g16, hg16⟩ : ∃ g16, g16 = w15.heap.size := ⟨_, rfl⟩
  obtain ⟨w16, hw16⟩ : ∃ w16, w16 = w15.alloc (.cells #[.int .i64 0, .int .i64 0, .int .i64 0, .slice none 0 0, .slice none 0 0, .slice none 0 0, .slice none 0 0] 28) := ⟨_, rfl⟩
  rw [← hw16, ← hg16]
  have hb16 : Below w15.heap.size w15 w16 := by rw [hw16]; exact (Below.refl _ _).alloc (Nat.le_refl _) _
  have hZ16 : Blk w16 g16 28 #[.int .i64 0, .int .i64 0, .int .i64 0, .slice none 0 0, .slice none 0 0, .slice none 0 0, .slice none 0 0] := by rw [hw16, hg16]; exact Blk.new _ _ _
  clear hw16 hg16
  clear hZ16
  have hL16 := hL15.below hb16
  have hM16 := hM15.below hb16 hM15.lt
  have hT16 := (hT15.below hb16 (Nat.le_refl _)).more hb16.size
  have hD16 := hD15.below hb16 hD15.lt
  have hbw16 := bchain hbw15 hb16
  clear hL15 hM15 hT15 hD15 hbw15 hb16
  obtain ⟨m0_, m1_, m2_, m3_, m4_, m5_, m6_⟩ := hM16.cell7
  obtain ⟨r0_, r1_, r2_, r3_, r4_, r5_, r6_⟩ := hD16.cell7
  go_wp2_with fail
  clear q0 q1 q2 q3
  clear m0_ m1_ m2_ m3_ m4_ m5_ m6_ r0_ r1_ r2_ r3_ r4_ r5_ r6_
  go_loopw [15] (fun i wr => ∃ k : Nat, k ≤ m.segs.length ∧ i = .int .i64 k ∧ Below w16.heap.size w16 wr) (fun i _ => m.segs.length - (intOf i).toNat)
  case atStart => exact ⟨0, Nat.zero_le _, rfl, Below.refl _ _⟩
  case round =>
    obtain ⟨k, hk, rfl, hbr⟩ := hrel
    have hMr := hM16.below hbr hM16.lt
    have hDr := hD16.below hbr hD16.lt
    have hTr := hT16.below hbr (Nat.le_refl _)
    have hLr := hL16.s.below hbr (Nat.le_refl _)
    obtain ⟨m0_, m1_, m2_, m3_, m4_, m5_, m6_⟩ := hMr.cell7
    obtain ⟨r0_, r1_, r2_, r3_, r4_, r5_, r6_⟩ := hDr.cell7
    clear m0_ m1_ m2_ m4_ m5_ m6_ r0_ r1_ r2_ r4_ r5_ r6_
    by_cases hlt : k < m.segs.length
    · obtain ⟨b1, o1, rfl, hB1, c0, c1, c2, c3, c4, c5, c6⟩ := segs_cells hTr hlt
      obtain ⟨b2, o2, rfl, hB2, d0, d1, d2, d3, d4, d5, d6⟩ := segs_cells hLr hlt
      have hi1 : (0 : Int) ≤ (k : Int) := by omega
      have hi2 : (k : Int) < (m.segs.length : Int) := by omega
      clear hTr hLr hMr hDr
      generalize m.segs[k] = x at *
      obtain ⟨x0, x1, x2, x3, x4, x5, x6⟩ := x
      simp only at c0 c1 c2 c3 c4 c5 c6 d0 d1 d2 d3 d4 d5 d6
      go_wp2_with fail
      go_quiet (fail)
      go_wp2_with fail
      go_roundw
      case rel => exact ⟨k + 1, by omega, by go_num, below_drewN hbr _⟩
      case measure => simp [intOf]; omega
    · have hi2 : ¬ (k : Int) < (m.segs.length : Int) := by omega
      go_wp2_with fail
      go_ret
      exact ⟨rfl, bchain hbw16 hbr⟩
end Go.Proofs.Ytkjhnipjhefndaa
