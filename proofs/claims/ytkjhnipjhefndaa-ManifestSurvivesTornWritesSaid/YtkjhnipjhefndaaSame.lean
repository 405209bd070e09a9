/- The reference's comparisons, at equal manifests. -/
import Derived.Test.YtkjhnipjhefndaaLawCheck
import Derived.Test.YtkjhnipjhefndaaSorted
namespace Go.Proofs.Ytkjhnipjhefndaa
open Go.RowKit

set_option maxRecDepth 100000 in
theorem sameMarks_refl (v v' : Value) (l : List Mk) (w : World) (h : Sl w (lt w.heap.size) 3 v l.length (l.flatMap Mk.vals)) (h' : Sl w (lt w.heap.size) 3 v' l.length (l.flatMap Mk.vals)) (hm : l.length ≤ 1000000) :
    Calls Try.prog 85 #[v, v'] w fun e w' => e = .returned (.bool true) ∧ Below w.heap.size w w' := by
  obtain ⟨A, c, rfl, _, h⟩ := h.form
  obtain ⟨A', c', rfl, _, h'⟩ := h'.form
  go_enter Try.func85, Try.ntmps85
  go_wp2_with fail
  go_loopw [5] (fun i wr => ∃ k : Nat, k ≤ l.length ∧ i = .int .i64 k ∧ Below w.heap.size w wr) (fun i _ => l.length - (intOf i).toNat)
  case atStart => exact ⟨0, Nat.zero_le _, rfl, Below.refl _ _⟩
  case round =>
    obtain ⟨k, hk, rfl, hb⟩ := hrel
    by_cases hlt : k < l.length
    · obtain ⟨b1, o1, rfl, hb1, c0, c1, c2⟩ := marks_cells (h.below hb (Nat.le_refl _)) hlt
      obtain ⟨b2, o2, rfl, hb2, d0, d1, d2⟩ := marks_cells (h'.below hb (Nat.le_refl _)) hlt
      have hi1 : (0 : Int) ≤ (k : Int) := by omega
      have hi2 : (k : Int) < (l.length : Int) := by omega
      generalize l[k] = x at *
      obtain ⟨x0, x1, x2⟩ := x
      simp only at c0 c1 c2 d0 d1 d2
      go_wp2_with fail
      go_quiet (fail)
      go_wp2_with fail
      go_roundw
      case rel => exact ⟨k + 1, by omega, by go_num, below_drewN hb _⟩
      case measure => simp [intOf]; omega
    · go_wp2_with fail
      go_ret
      exact ⟨rfl, hb⟩
set_option maxRecDepth 100000 in
theorem sameTals_refl (v v' : Value) (l : List Tl) (w : World) (h : Sl w (lt w.heap.size) 3 v l.length (l.flatMap Tl.vals)) (h' : Sl w (lt w.heap.size) 3 v' l.length (l.flatMap Tl.vals)) (hm : l.length ≤ 1000000) :
    Calls Try.prog 68 #[v, v'] w fun e w' => e = .returned (.bool true) ∧ Below w.heap.size w w' := by
  obtain ⟨A, c, rfl, _, h⟩ := h.form
  obtain ⟨A', c', rfl, _, h'⟩ := h'.form
  go_enter Try.func68, Try.ntmps68
  go_wp2_with fail
  go_loopw [5] (fun i wr => ∃ k : Nat, k ≤ l.length ∧ i = .int .i64 k ∧ Below w.heap.size w wr) (fun i _ => l.length - (intOf i).toNat)
  case atStart => exact ⟨0, Nat.zero_le _, rfl, Below.refl _ _⟩
  case round =>
    obtain ⟨k, hk, rfl, hb⟩ := hrel
    by_cases hlt : k < l.length
    · obtain ⟨b1, o1, rfl, hb1, c0, c1, c2⟩ := tals_cells (h.below hb (Nat.le_refl _)) hlt
      obtain ⟨b2, o2, rfl, hb2, d0, d1, d2⟩ := tals_cells (h'.below hb (Nat.le_refl _)) hlt
      have hi1 : (0 : Int) ≤ (k : Int) := by omega
      have hi2 : (k : Int) < (l.length : Int) := by omega
      generalize l[k] = x at *
      obtain ⟨x0, x1, x2⟩ := x
      simp only at c0 c1 c2 d0 d1 d2
      go_wp2_with fail
      go_quiet (fail)
      go_wp2_with fail
      go_roundw
      case rel => exact ⟨k + 1, by omega, by go_num, below_drewN hb _⟩
      case measure => simp [intOf]; omega
    · go_wp2_with fail
      go_ret
      exact ⟨rfl, hb⟩
set_option maxRecDepth 100000 in
theorem sameIntake_refl (vM vT vM' vT' : Value) (lm : List Mk) (lt_ : List Tl) (w : World) (hM : Sl w (lt w.heap.size) 3 vM lm.length (lm.flatMap Mk.vals)) (hM' : Sl w (lt w.heap.size) 3 vM' lm.length (lm.flatMap Mk.vals))
    (hT : Sl w (lt w.heap.size) 3 vT lt_.length (lt_.flatMap Tl.vals)) (hT' : Sl w (lt w.heap.size) 3 vT' lt_.length (lt_.flatMap Tl.vals)) (hm : lm.length ≤ 1000000) (ht : lt_.length ≤ 1000000) :
    Calls Try.prog 67 #[.agg #[vM, vT], .agg #[vM', vT']] w fun e w' => e = .returned (.bool true) ∧ Below w.heap.size w w' := by
  obtain ⟨AM, cM, rfl, _, hM⟩ := hM.form
  obtain ⟨AM', cM', rfl, _, hM'⟩ := hM'.form
  obtain ⟨AT, cT, rfl, _, hT⟩ := hT.form
  obtain ⟨AT', cT', rfl, _, hT'⟩ := hT'.form
  obtain ⟨W, hW⟩ : ∃ W, W = (w.alloc (.cells #[.slice AM lm.length cM, .slice AT lt_.length cT] 26)).alloc (.cells #[.slice AM' lm.length cM', .slice AT' lt_.length cT'] 26) := ⟨_, rfl⟩
  obtain ⟨g, hg⟩ : ∃ g, g = w.heap.size := ⟨_, rfl⟩
  obtain ⟨p, hp⟩ : ∃ p, p = g + 1 := ⟨_, rfl⟩
  have hbX : Below w.heap.size w W := by rw [hW]; exact ((Below.refl _ _).alloc (Nat.le_refl _) _).alloc (by simp) _
  have hBg : Blk W g 26 #[.slice AM lm.length cM, .slice AT lt_.length cT] := by rw [hW, hg]; exact (Blk.new _ _ _).alloc _
  have hBp : Blk W p 26 #[.slice AM' lm.length cM', .slice AT' lt_.length cT'] := by
    rw [hW, hp, hg]
    have := Blk.new (w.alloc (.cells #[.slice AM lm.length cM, .slice AT lt_.length cT] 26)) 26 #[.slice AM' lm.length cM', .slice AT' lt_.length cT']
    simpa using this
  have hM1 := (hM.below hbX (Nat.le_refl _)).more hbX.size
  have hM2 := (hM'.below hbX (Nat.le_refl _)).more hbX.size
  have hT1 := (hT.below hbX (Nat.le_refl _)).more hbX.size
  have hT2 := (hT'.below hbX (Nat.le_refl _)).more hbX.size
  clear hM hM' hT hT'
  go_enter Try.func67, Try.ntmps67
  go_upto_region 1 with fail
  rw [← hW, ← hg]
  have hp' : g + 1 = p := by omega
  simp only [hp']
  clear hW hp hp' hg
  obtain ⟨a0, a1⟩ := hBg.cell2
  obtain ⟨b0, b1⟩ := hBp.cell2
  go_wp2_with fail
  refine (sameMarks_refl _ _ lm W hM1 hM2 hm).mono ?_
  rintro e w1 ⟨rfl, hb1⟩
  have hBg1 := hBg.below hb1 hBg.lt
  have hBp1 := hBp.below hb1 hBp.lt
  have hT3 := (hT1.below hb1 (Nat.le_refl _)).more hb1.size
  have hT4 := (hT2.below hb1 (Nat.le_refl _)).more hb1.size
  have hbw := hbX.trans (hb1.mono hbX.size)
  clear hM1 hM2 hT1 hT2 hBg hBp hb1 hbX a0 a1 b0 b1
  obtain ⟨a0, a1⟩ := hBg1.cell2
  obtain ⟨b0, b1⟩ := hBp1.cell2
  go_wp2_with fail
  refine (sameTals_refl _ _ lt_ w1 hT3 hT4 ht).mono ?_
  rintro e w2 ⟨rfl, hb2⟩
  have hbw2 := hbw.trans (hb2.mono hbw.size)
  go_wp2_with fail
  go_ret
  exact ⟨rfl, hbw2⟩
set_option maxRecDepth 100000 in
theorem same_refl (m : Man) (vS vM vT vE vS' vM' vT' vE' : Value) (w : World) (hL : Lies w (lt w.heap.size) m vS vM vT vE) (hL' : Lies w (lt w.heap.size) m vS' vM' vT' vE') (hsm : Small m) :
    Calls Try.prog 26 #[.agg (manCells m vS vM vT vE), .agg (manCells m vS' vM' vT' vE')] w fun e w' => e = .returned (.bool true) ∧ Below w.heap.size w w' := by
  obtain ⟨AS, cS, rfl, _, _⟩ := hL.s.form
  obtain ⟨AM, cM, rfl, _, _⟩ := hL.m_.form
  obtain ⟨AT, cT, rfl, _, _⟩ := hL.t.form
  obtain ⟨AE, cE, rfl, _, _⟩ := hL.e.form
  obtain ⟨AS', cS', rfl, _, _⟩ := hL'.s.form
  obtain ⟨AM', cM', rfl, _, _⟩ := hL'.m_.form
  obtain ⟨AT', cT', rfl, _, _⟩ := hL'.t.form
  obtain ⟨AE', cE', rfl, _, _⟩ := hL'.e.form
  obtain ⟨X, hX⟩ : ∃ X, X = manCells m (.slice AS m.segs.length cS) (.slice AM m.marks.length cM) (.slice AT m.tals.length cT) (.slice AE m.exps.length cE) := ⟨_, rfl⟩
  obtain ⟨Y, hY⟩ : ∃ Y, Y = manCells m (.slice AS' m.segs.length cS') (.slice AM' m.marks.length cM') (.slice AT' m.tals.length cT') (.slice AE' m.exps.length cE') := ⟨_, rfl⟩
  obtain ⟨W, hW⟩ : ∃ W, W = (w.alloc (.cells X 28)).alloc (.cells Y 28) := ⟨_, rfl⟩
  obtain ⟨g, hg⟩ : ∃ g, g = w.heap.size := ⟨_, rfl⟩
  obtain ⟨p, hp⟩ : ∃ p, p = g + 1 := ⟨_, rfl⟩
  have hbX : Below w.heap.size w W := by rw [hW]; exact ((Below.refl _ _).alloc (Nat.le_refl _) _).alloc (by simp) _
  have hBg : Blk W g 28 X := by rw [hW, hg]; exact (Blk.new _ _ _).alloc _
  have hBp : Blk W p 28 Y := by
    rw [hW, hp, hg]
    have := Blk.new (w.alloc (.cells X 28)) 28 Y
    simpa using this
  have hL1 := hL.below hbX
  have hL2 := hL'.below hbX
  clear hL hL'
  go_enter Try.func26, Try.ntmps26
  go_upto_region 1 with fail
  rw [← hX, ← hY, ← hW, ← hg]
  have hp' : g + 1 = p := by omega
  simp only [hp']
  subst hX hY
  clear hW hp hp' hg
  obtain ⟨a0, a1, a2, a3, a4, a5, a6⟩ := hBg.cell7
  obtain ⟨b0, b1, b2, b3, b4, b5, b6⟩ := hBp.cell7
  go_wp2_with fail
  refine (sameIntake_refl _ _ _ _ m.marks m.tals W hL1.m_ hL2.m_ hL1.t hL2.t hsm.m_ hsm.t).mono ?_
  rintro e w1 ⟨rfl, hb1⟩
  have hBg1 := hBg.below hb1 hBg.lt
  have hBp1 := hBp.below hb1 hBp.lt
  have hL3 := hL1.below hb1
  have hL4 := hL2.below hb1
  have hbw := hbX.trans (hb1.mono hbX.size)
  clear hL1 hL2 hBg hBp hb1 hbX a0 a1 a2 a3 a4 a5 a6 b0 b1 b2 b3 b4 b5 b6
  obtain ⟨a0, a1, a2, a3, a4, a5, a6⟩ := hBg1.cell7
  obtain ⟨b0, b1, b2, b3, b4, b5, b6⟩ := hBp1.cell7
  go_wp2_with fail
  refine (sameTals_refl _ _ m.exps w1 hL3.e hL4.e hsm.e).mono ?_
  rintro e w2 ⟨rfl, hb2⟩
  have hBg2 := hBg1.below hb2 hBg1.lt
  have hBp2 := hBp1.below hb2 hBp1.lt
  have hS1 := (hL3.s.below hb2 (Nat.le_refl _)).more hb2.size
  have hS2 := (hL4.s.below hb2 (Nat.le_refl _)).more hb2.size
  have hbw2 := hbw.trans (hb2.mono hbw.size)
  have hms := hsm.s
  clear hL3 hL4 hBg1 hBp1 hb2 hbw a0 a1 a2 a3 a4 a5 a6 b0 b1 b2 b3 b4 b5 b6
  have a3 := hBg2.cell7.2.2.2.1
  have b3 := hBp2.cell7.2.2.2.1
  have hlg := hBg2.lt
  have hlp := hBp2.lt
  go_wp2_with fail
  go_loopw [5] (fun i wr => ∃ k : Nat, k ≤ m.segs.length ∧ i = .int .i64 k ∧ Below w2.heap.size w2 wr) (fun i _ => m.segs.length - (intOf i).toNat)
  case atStart => exact ⟨0, Nat.zero_le _, rfl, Below.refl _ _⟩
  case round =>
    obtain ⟨k, hk, rfl, hb⟩ := hrel
    have a3' := (hb.cell (p := ⟨g, 3, none⟩) hlg).trans a3
    have b3' := (hb.cell (p := ⟨p, 3, none⟩) hlp).trans b3
    by_cases hlt : k < m.segs.length
    · obtain ⟨b1, o1, rfl, hb1, c0, c1, c2, c3, c4, c5, c6⟩ := segs_cells (hS1.below hb (Nat.le_refl _)) hlt
      obtain ⟨b2, o2, rfl, hb2, d0, d1, d2, d3, d4, d5, d6⟩ := segs_cells (hS2.below hb (Nat.le_refl _)) hlt
      have hi1 : (0 : Int) ≤ (k : Int) := by omega
      have hi2 : (k : Int) < (m.segs.length : Int) := by omega
      generalize m.segs[k] = x at *
      obtain ⟨x0, x1, x2, x3, x4, x5, x6⟩ := x
      simp only at c0 c1 c2 c3 c4 c5 c6 d0 d1 d2 d3 d4 d5 d6
      go_wp2_with fail
      go_quiet (fail)
      go_wp2_with fail
      go_roundw
      case rel => exact ⟨k + 1, by omega, by go_num, below_drewN hb _⟩
      case measure => simp [intOf]; omega
    · go_wp2_with fail
      go_ret
      exact ⟨rfl, hbw2.trans (hb.mono hbw2.size)⟩
end Go.Proofs.Ytkjhnipjhefndaa
