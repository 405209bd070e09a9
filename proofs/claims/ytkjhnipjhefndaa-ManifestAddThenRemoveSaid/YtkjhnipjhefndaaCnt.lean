/- The contracts of counted and Add where all is well. -/
import Derived.Test.YtkjhnipjhefndaaRem
import Derived.Test.YtkjhnipjhefndaaDecA
namespace Go.Proofs.Ytkjhnipjhefndaa
open Go.RowKit

/-- The manifest with the next number. -/
def counted (m : Man) : Man := ⟨m.nu + 1, m.nx, m.jo, m.segs, m.marks, m.tals, m.exps⟩
set_option maxHeartbeats 2000000 in
set_option maxRecDepth 100000 in
theorem counted_any (m : Man) (vS vM vT vE : Value) (w : World) (hL : Lies w (lt w.heap.size) m vS vM vT vE) (hsm : Small m) (h0 : 0 ≤ m.nu) (h1 : m.nu ≤ 1000000) (he : manErr (counted m) = 0) :
    Calls Try.prog 54 #[.agg (manCells m vS vM vT vE)] w fun e w' => e = .returned (.tuple #[.agg (manCells (counted m) vS vM vT vE), .int .i64 0]) ∧ Below w.heap.size w w' := by
  obtain ⟨E1, f1, h1s, _⟩ := hL.s.form
  obtain ⟨E2, f2, h2s, _⟩ := hL.m_.form
  obtain ⟨E3, f3, h3s, _⟩ := hL.t.form
  obtain ⟨E4, f4, h4s, _⟩ := hL.e.form
  subst h1s h2s h3s h4s
  obtain ⟨X, hX⟩ : ∃ X, X = manCells m (.slice E1 m.segs.length f1) (.slice E2 m.marks.length f2) (.slice E3 m.tals.length f3) (.slice E4 m.exps.length f4) := ⟨_, rfl⟩
  obtain ⟨W, hW⟩ : ∃ W, W = (w.alloc (.cells X 28)).alloc (.cells manZ7 28) := ⟨_, rfl⟩
  obtain ⟨g, hg⟩ : ∃ g, g = w.heap.size := ⟨_, rfl⟩
  obtain ⟨p, hp⟩ : ∃ p, p = g + 1 := ⟨_, rfl⟩
  have hp' : g + 1 = p := hp.symm
  have hbW : Below w.heap.size w W := by rw [hW]; exact ((Below.refl _ _).alloc (Nat.le_refl _) _).alloc (by simp) _
  have hG : Blk W g 28 X := by rw [hW, hg]; exact (Blk.new _ _ _).alloc _
  have hP : Blk W p 28 manZ7 := by
    rw [hW, hp, hg]
    have := Blk.new (w.alloc (.cells X 28)) 28 manZ7
    simpa using this
  have hgw : w.heap.size ≤ g := by omega
  have hgp : g < p := by omega
  go_enter Try.func54, Try.ntmps54
  go_upto_region 1 with fail
  rw [← hX, ← hW, ← hg]
  simp only [hp']
  subst hX
  clear hW hg hp hp'
  have a0 := hG.cell7.1
  have fa0 := hG.frozen 0
  go_upto_region 2 with fail
  obtain ⟨w1, hw1⟩ : ∃ w1, w1 = W.setCell ⟨g, 0, none⟩ (.int .i64 (m.nu + 1)) := ⟨_, rfl⟩
  rw [← hw1]
  have hg1 : W.grownBy w1 (some g) := by rw [hw1]; exact grownBy_set (World.grownBy.refl _ _) _ _
  have hG1 : Blk w1 g 28 (manCells (counted m) (.slice E1 m.segs.length f1) (.slice E2 m.marks.length f2) (.slice E3 m.tals.length f3) (.slice E4 m.exps.length f4)) := by rw [hw1]; exact hG.set_ 0 _
  have hP1 := hP.grown hg1 (fun e => by injection e; omega)
  have hL0 : Lies W (lt w.heap.size) m (.slice E1 m.segs.length f1) (.slice E2 m.marks.length f2) (.slice E3 m.tals.length f3) (.slice E4 m.exps.length f4) := ⟨hL.s.below hbW (Nat.le_refl _), hL.m_.below hbW (Nat.le_refl _), hL.t.below hbW (Nat.le_refl _), hL.e.below hbW (Nat.le_refl _)⟩
  have hzW := hbW.size
  have hL1' := hL0.kept hg1 (fun k hk => by have hk' : k < w.heap.size := hk; exact ⟨by omega, fun e => by injection e; omega⟩)
  have hb1 := below_grown hbW hg1 hbW.size hgw
  have hz1 := hg1.size
  have hL1 : Lies w1 (lt w1.heap.size) (counted m) (.slice E1 m.segs.length f1) (.slice E2 m.marks.length f2) (.slice E3 m.tals.length f3) (.slice E4 m.exps.length f4) := (⟨hL1'.s, hL1'.m_, hL1'.t, hL1'.e⟩ : Lies w1 (lt w.heap.size) (counted m) _ _ _ _).mono (fun k hk => by have hk' : k < w.heap.size := hk; show k < w1.heap.size; omega)
  have hsm1 : Small (counted m) := ⟨hsm.s, hsm.m_, hsm.t, hsm.e⟩
  clear hw1 hg1 hL0 hL1' hG hP hL hbW a0 fa0
  obtain ⟨a0, a1, a2, a3, a4, a5, a6⟩ := (show Blk w1 g 28 #[.int .i64 (m.nu + 1), .int .i64 m.nx, .int .i64 m.jo, .slice E1 m.segs.length f1, .slice E2 m.marks.length f2, .slice E3 m.tals.length f3, .slice E4 m.exps.length f4] from hG1).cell7
  go_wp2_with fail
  refine (check_any (counted m) _ _ _ _ w1 hL1 hsm1).mono ?_
  rintro e w2 ⟨hee, hb2⟩
  rw [he] at hee
  subst hee
  have hG2 := hG1.below hb2 hG1.lt
  have hP2 := hP1.below hb2 hP1.lt
  have hbw2 := bchain hb1 hb2
  clear hG1 hP1 hL1 hb2 hb1 a0 a1 a2 a3 a4 a5 a6
  have hgr := put7_grown w2 p (.int .i64 (m.nu + 1)) (.int .i64 m.nx) (.int .i64 m.jo) (.slice E1 m.segs.length f1) (.slice E2 m.marks.length f2) (.slice E3 m.tals.length f3) (.slice E4 m.exps.length f4)
  have HF : Hid (Below w.heap.size w (put7 w2 p (.int .i64 (m.nu + 1)) (.int .i64 m.nx) (.int .i64 m.jo) (.slice E1 m.segs.length f1) (.slice E2 m.marks.length f2) (.slice E3 m.tals.length f3) (.slice E4 m.exps.length f4))) := keep (below_grown hbw2 hgr hbw2.size (by omega))
  obtain ⟨y0, y1, y2, y3, y4, y5, y6⟩ := (put7_blk hP2 (.int .i64 (m.nu + 1)) (.int .i64 m.nx) (.int .i64 m.jo) (.slice E1 m.segs.length f1) (.slice E2 m.marks.length f2) (.slice E3 m.tals.length f3) (.slice E4 m.exps.length f4)).cell7
  obtain ⟨e0, e1, e2, e3, e4, e5, e6⟩ := hP2.cell7
  obtain ⟨a0, a1, a2, a3, a4, a5, a6⟩ := (show Blk w2 g 28 #[.int .i64 (m.nu + 1), .int .i64 m.nx, .int .i64 m.jo, .slice E1 m.segs.length f1, .slice E2 m.marks.length f2, .slice E3 m.tals.length f3, .slice E4 m.exps.length f4] from hG2).cell7
  have g0 := hP2.frozen 0
  have g1 := hP2.frozen 1
  have g2 := hP2.frozen 2
  have g3 := hP2.frozen 3
  have g4 := hP2.frozen 4
  have g5 := hP2.frozen 5
  have g6 := hP2.frozen 6
  clear hG2 hP2 hgr hbw2
  go_wp2_with fail
  refine bodyPost_ret (v := .tuple #[.agg #[.int .i64 (m.nu + 1), .int .i64 m.nx, .int .i64 m.jo, .slice E1 m.segs.length f1, .slice E2 m.marks.length f2, .slice E3 m.tals.length f3, .slice E4 m.exps.length f4], .int .i64 0]) (by simp [results, Try.results54, go_sem, y0, y1, y2, y3, y4, y5, y6]) rfl ?_
  exact ⟨rfl, HF.out⟩
end Go.Proofs.Ytkjhnipjhefndaa
