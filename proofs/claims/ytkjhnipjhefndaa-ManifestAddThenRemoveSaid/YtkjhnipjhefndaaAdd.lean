/- The contract of Add where all is well. -/
import Derived.Test.YtkjhnipjhefndaaDel
import Derived.Deep.CutBlock
namespace Go.Proofs.Ytkjhnipjhefndaa
open Go.RowKit

def withId (x : Seg) (id : Int) : Seg := ⟨id, x.level, x.tier, x.count, x.lo, x.hi, x.size⟩
def added (m : Man) (x : Seg) : Man := ⟨m.nu, m.nx + 1, m.jo, m.segs ++ [withId x m.nx], m.marks, m.tals, m.exps⟩
def AddRes (w : World) (m : Man) (x : Seg) (vM vT vE : Value) (e : Ending) (w' : World) : Prop :=
  ∃ vS, e = .returned (.tuple #[.agg (manCells (counted (added m x)) vS vM vT vE), .int .i64 0]) ∧ Sl w' (btw w.heap.size w'.heap.size) 7 vS (m.segs.length + 1) ((m.segs ++ [withId x m.nx]).flatMap Seg.vals) ∧ Below w.heap.size w w'
theorem seg_litB (w : World) (x0 x1 x2 x3 x4 x5 x6 : Int) : Sl (w.alloc (.cells #[.int .i64 x0, .int .i64 x1, .int .i64 x2, .int .i64 x3, .int .i64 x4, .int .i64 x5, .int .i64 x6] 46)) (fun k => k = w.heap.size) 7 (.slice (some ⟨w.heap.size, 0, none⟩) 1 1) 1 [.int .i64 x0, .int .i64 x1, .int .i64 x2, .int .i64 x3, .int .i64 x4, .int .i64 x5, .int .i64 x6] := by
  refine ⟨rfl, _, 1, rfl, Nat.le_refl _, fun _ => ⟨w.heap.size, 0, rfl, rfl, fun j u hu => ?_⟩⟩
  rw [Nat.zero_add, (Blk.new w 46 _).cell]
  simpa using hu
set_option maxHeartbeats 4000000 in
set_option maxRecDepth 100000 in
theorem add_any (m : Man) (x : Seg) (vS vM vT vE : Value) (w : World) (hL : Lies w (lt w.heap.size) m vS vM vT vE) (hsm : Small m) (hsl : m.segs.length + 1 ≤ 1000000) (h0 : 0 ≤ m.nu) (h1 : m.nu ≤ 1000000) (hn0 : 0 ≤ m.nx) (hn1 : m.nx ≤ 1000000) (he0 : manErr m = 0) (he : manErr (counted (added m x)) = 0) :
    Calls Try.prog 20 #[.agg (manCells m vS vM vT vE), x.agg] w (AddRes w m x vM vT vE) := by
  obtain ⟨E1, f1, h1s, _⟩ := hL.s.form
  obtain ⟨E2, f2, h2s, _⟩ := hL.m_.form
  obtain ⟨E3, f3, h3s, _⟩ := hL.t.form
  obtain ⟨E4, f4, h4s, _⟩ := hL.e.form
  subst h1s h2s h3s h4s
  obtain ⟨X, hX⟩ : ∃ X, X = manCells m (.slice E1 m.segs.length f1) (.slice E2 m.marks.length f2) (.slice E3 m.tals.length f3) (.slice E4 m.exps.length f4) := ⟨_, rfl⟩
  obtain ⟨W, hW⟩ : ∃ W, W = ((w.alloc (.cells X 28)).alloc (.cells #[.int .i64 x.id, .int .i64 x.level, .int .i64 x.tier, .int .i64 x.count, .int .i64 x.lo, .int .i64 x.hi, .int .i64 x.size] 46)).alloc (.cells manZ7 28) := ⟨_, rfl⟩
  obtain ⟨g, hg⟩ : ∃ g, g = w.heap.size := ⟨_, rfl⟩
  obtain ⟨gs, hgs⟩ : ∃ gs, gs = g + 1 := ⟨_, rfl⟩
  obtain ⟨p, hp⟩ : ∃ p, p = gs + 1 := ⟨_, rfl⟩
  have hgs' : g + 1 = gs := hgs.symm
  have hp' : gs + 1 = p := hp.symm
  have hbW : Below w.heap.size w W := by rw [hW]; exact (((Below.refl _ _).alloc (Nat.le_refl _) _).alloc (by simp) _).alloc (by simp; omega) _
  have hG : Blk W g 28 X := by rw [hW, hg]; exact ((Blk.new _ _ _).alloc _).alloc _
  have hS : Blk W gs 46 #[.int .i64 x.id, .int .i64 x.level, .int .i64 x.tier, .int .i64 x.count, .int .i64 x.lo, .int .i64 x.hi, .int .i64 x.size] := by
    rw [hW, hgs, hg]
    have := (Blk.new (w.alloc (.cells X 28)) 46 #[.int .i64 x.id, .int .i64 x.level, .int .i64 x.tier, .int .i64 x.count, .int .i64 x.lo, .int .i64 x.hi, .int .i64 x.size]).alloc (.cells manZ7 28)
    simpa using this
  have hP : Blk W p 28 manZ7 := by
    rw [hW, hp, hgs, hg]
    have := Blk.new ((w.alloc (.cells X 28)).alloc (.cells #[.int .i64 x.id, .int .i64 x.level, .int .i64 x.tier, .int .i64 x.count, .int .i64 x.lo, .int .i64 x.hi, .int .i64 x.size] 46)) 28 manZ7
    simpa using this
  have hLW : Lies W (lt w.heap.size) m (.slice E1 m.segs.length f1) (.slice E2 m.marks.length f2) (.slice E3 m.tals.length f3) (.slice E4 m.exps.length f4) := ⟨hL.s.below hbW (Nat.le_refl _), hL.m_.below hbW (Nat.le_refl _), hL.t.below hbW (Nat.le_refl _), hL.e.below hbW (Nat.le_refl _)⟩
  have hgw : w.heap.size ≤ g := by omega
  have hggs : g < gs := by omega
  have hgsp : gs < p := by omega
  go_enter Try.func20, Try.ntmps20
  go_upto_region 1 with fail
  rw [← hX, ← hW, ← hg]
  simp only [hgs', hp']
  subst hX
  have hLo := hL
  clear hW hg hgs hp hgs' hp' hL
  have hzW := hbW.size
  obtain ⟨a0, a1, a2, a3, a4, a5, a6⟩ := (show Blk W g 28 #[.int .i64 m.nu, .int .i64 m.nx, .int .i64 m.jo, .slice E1 m.segs.length f1, .slice E2 m.marks.length f2, .slice E3 m.tals.length f3, .slice E4 m.exps.length f4] from hG).cell7
  go_wp2_with fail
  refine (check_any m _ _ _ _ W (hLW.mono (fun k hk => Nat.lt_of_lt_of_le hk hzW)) hsm).mono ?_
  rintro e w1 ⟨hee, hb1⟩
  rw [he0] at hee
  subst hee
  have hG1 := hG.below hb1 hG.lt
  have hS1 := hS.below hb1 hS.lt
  have hP1 := hP.below hb1 hP.lt
  have hbw1 := bchain hbW hb1
  have hL1 : Lies w1 (lt w.heap.size) m (.slice E1 m.segs.length f1) (.slice E2 m.marks.length f2) (.slice E3 m.tals.length f3) (.slice E4 m.exps.length f4) := ⟨hLW.s.below hb1 hzW, hLW.m_.below hb1 hzW, hLW.t.below hb1 hzW, hLW.e.below hb1 hzW⟩
  clear hG hS hP hb1 hbW hLW a0 a1 a2 a3 a4 a5 a6
  have a1 := (show Blk w1 g 28 #[.int .i64 m.nu, .int .i64 m.nx, .int .i64 m.jo, .slice E1 m.segs.length f1, .slice E2 m.marks.length f2, .slice E3 m.tals.length f3, .slice E4 m.exps.length f4] from hG1).cell7.2.1
  have s0 := hS1.cell7.1
  have fs0 := hS1.frozen 0
  go_upto_region 5 with fail
  obtain ⟨w2, hw2⟩ : ∃ w2, w2 = w1.setCell ⟨gs, 0, none⟩ (.int .i64 m.nx) := ⟨_, rfl⟩
  rw [← hw2]
  have hg2 : w1.grownBy w2 (some gs) := by rw [hw2]; exact grownBy_set (World.grownBy.refl _ _) _ _
  have hS2 : Blk w2 gs 46 #[.int .i64 m.nx, .int .i64 x.level, .int .i64 x.tier, .int .i64 x.count, .int .i64 x.lo, .int .i64 x.hi, .int .i64 x.size] := by rw [hw2]; exact hS1.set_ 0 _
  have hG2 := hG1.grown hg2 (fun e => by injection e; omega)
  have hP2 := hP1.grown hg2 (fun e => by injection e; omega)
  have hL2 := hL1.kept hg2 (fun k hk => by have hk' : k < w.heap.size := hk; exact ⟨by have := hbw1.size; omega, fun e => by injection e; omega⟩)
  have hbw2 := below_grown hbw1 hg2 hbw1.size (by omega)
  have hz2 := hbw2.size
  clear hw2 hg2 hG1 hS1 hP1 hL1 hbw1 a1 s0 fs0
  have hGd : Blk w2.drew g 28 #[.int .i64 m.nu, .int .i64 m.nx, .int .i64 m.jo, .slice E1 m.segs.length f1, .slice E2 m.marks.length f2, .slice E3 m.tals.length f3, .slice E4 m.exps.length f4] := hG2
  have hSd : Blk w2.drew gs 46 #[.int .i64 m.nx, .int .i64 x.level, .int .i64 x.tier, .int .i64 x.count, .int .i64 x.lo, .int .i64 x.hi, .int .i64 x.size] := hS2
  have hPd : Blk w2.drew p 28 manZ7 := hP2
  have hbd : Below w.heap.size w w2.drew := hbw2.drew
  have hLd : Lies w2.drew (lt w.heap.size) m (.slice E1 m.segs.length f1) (.slice E2 m.marks.length f2) (.slice E3 m.tals.length f3) (.slice E4 m.exps.length f4) := ⟨hL2.s, hL2.m_, hL2.t, hL2.e⟩
  obtain ⟨c0, c1, c2, c3, c4, c5, c6⟩ := hS2.cell7
  have g3 := (show Blk w2 g 28 #[.int .i64 m.nu, .int .i64 m.nx, .int .i64 m.jo, .slice E1 m.segs.length f1, .slice E2 m.marks.length f2, .slice E3 m.tals.length f3, .slice E4 m.exps.length f4] from hG2).cell7.2.2.2.1
  have fg3 := hG2.frozen 3
  have hlG := hG2.lt
  have hlS := hS2.lt
  have hlP := hP2.lt
  have HN := keep hsl
  have HS0 : Hid (Sl w2.drew (lt w2.drew.heap.size) 7 (.slice E1 m.segs.length f1) m.segs.length (m.segs.flatMap Seg.vals)) := hLd.s.mono (fun k hk => Nat.lt_of_lt_of_le hk hz2)
  have hbl : Below w2.heap.size w2 (w2.alloc (.cells #[.int .i64 m.nx, .int .i64 x.level, .int .i64 x.tier, .int .i64 x.count, .int .i64 x.lo, .int .i64 x.hi, .int .i64 x.size] 46)).drew := ((Below.refl _ _).alloc (Nat.le_refl _) _).drew
  have HS1 : Hid (Sl (w2.alloc (.cells #[.int .i64 m.nx, .int .i64 x.level, .int .i64 x.tier, .int .i64 x.count, .int .i64 x.lo, .int .i64 x.hi, .int .i64 x.size] 46)).drew (lt (w2.alloc (.cells #[.int .i64 m.nx, .int .i64 x.level, .int .i64 x.tier, .int .i64 x.count, .int .i64 x.lo, .int .i64 x.hi, .int .i64 x.size] 46)).drew.heap.size) 7 (.slice E1 m.segs.length f1) m.segs.length (m.segs.flatMap Seg.vals)) := ((hL2.s.under hbl (fun k hk => Nat.lt_of_lt_of_le hk hz2)).mono (fun k hk => by have hk' : k < w.heap.size := hk; have := hbl.size; show k < _; omega) : Sl _ _ _ _ _ _)
  have q1 : Hid (m.segs.length + 1 ≤ maxLen) := keep (by unfold maxLen; omega)
  have q2 : Hid ((m.segs.length + 1) * 56 ≤ 140737488355328) := keep (by omega)
  have hl5 : Hid (m.segs.length ≤ 1000000) := keep (by omega)
  have HLIT : Hid (Sl (w2.alloc (.cells #[.int .i64 m.nx, .int .i64 x.level, .int .i64 x.tier, .int .i64 x.count, .int .i64 x.lo, .int .i64 x.hi, .int .i64 x.size] 46)).drew (fun k => k = w2.heap.size) 7 (.slice (some ⟨w2.heap.size, 0, none⟩) 1 1) 1 [.int .i64 m.nx, .int .i64 x.level, .int .i64 x.tier, .int .i64 x.count, .int .i64 x.lo, .int .i64 x.hi, .int .i64 x.size]) := keep (seg_litB w2 _ _ _ _ _ _ _)
  have HGL : Hid (Blk (w2.alloc (.cells #[.int .i64 m.nx, .int .i64 x.level, .int .i64 x.tier, .int .i64 x.count, .int .i64 x.lo, .int .i64 x.hi, .int .i64 x.size] 46)).drew g 28 #[.int .i64 m.nu, .int .i64 m.nx, .int .i64 m.jo, .slice E1 m.segs.length f1, .slice E2 m.marks.length f2, .slice E3 m.tals.length f3, .slice E4 m.exps.length f4]) := keep (hG2.alloc _)
  have HPL : Hid (Blk (w2.alloc (.cells #[.int .i64 m.nx, .int .i64 x.level, .int .i64 x.tier, .int .i64 x.count, .int .i64 x.lo, .int .i64 x.hi, .int .i64 x.size] 46)).drew p 28 manZ7) := keep (hP2.alloc _)
  have HBL := keep hbl
  have HLITL : Hid (w2.heap.size < (w2.alloc (.cells #[.int .i64 m.nx, .int .i64 x.level, .int .i64 x.tier, .int .i64 x.count, .int .i64 x.lo, .int .i64 x.hi, .int .i64 x.size] 46)).drew.heap.size) := keep (by show w2.heap.size < (w2.alloc _).heap.size; simp)
  have HGD := keep hGd
  have HSD := keep hSd
  have HPD := keep hPd
  clear hGd hSd hPd hL2 hG2 hS2 hP2 hbl
  go_cut [] (fun wr => ∃ A c, Blk wr g 28 #[.int .i64 m.nu, .int .i64 m.nx, .int .i64 m.jo, .slice A (m.segs.length + 1) c, .slice E2 m.marks.length f2, .slice E3 m.tals.length f3, .slice E4 m.exps.length f4] ∧ Blk wr p 28 manZ7 ∧ wr.ownsRow w2.heap.size 46 7 (.slice A (m.segs.length + 1) c) (m.segs.length + 1) (m.segs.flatMap Seg.vals ++ [.int .i64 m.nx, .int .i64 x.level, .int .i64 x.tier, .int .i64 x.count, .int .i64 x.lo, .int .i64 x.hi, .int .i64 x.size]) ∧ Below w.heap.size w wr)
  case first =>
    go_region_law (first
        | (go_simp; go_at_call 53; (with_reducible refine (clone_any _ m.segs _ HS0.out hl5.out).mono ?_); rintro e wA ⟨vA, rfl, hoA, hbA⟩; have hSA := HSD.out.below hbA hlS; have hGA := HGD.out.below hbA hlG; have hPA := HPD.out.below hbA hlP; have hbwA := bchain hbd hbA; obtain ⟨k0, k1, k2, k3, k4, k5, k6⟩ := hSA.cell7; have hzA := hbA.size)
        | (go_simp; go_at_call 53; (with_reducible refine (clone_any _ m.segs _ HS1.out hl5.out).mono ?_); rintro e wB ⟨vB, rfl, hoB, hbB⟩; have hzB := hbB.size; have hGB := HGL.out.below hbB HGL.out.lt; have hPB := HPL.out.below hbB HPL.out.lt; have hLB := HLIT.out.under hbB (fun k hk => by have hk' : k = w2.heap.size := hk; rw [hk']; exact HLITL.out); have hbwB := hbw2.trans ((HBL.out.trans (hbB.mono HBL.out.size)).mono hz2))
        | (refine step_appendS elSegs rfl _ _ rfl w2.drew.heap.size _ m.segs.length _ rfl (hoA.alloc _) _ _ 1 _ rfl (seg_litB wA _ _ _ _ _ _ _) (seg_one _ _ _ _ _ _ _) q1.out q2.out (le_alloc hzA _) ?_; intro v3 w3 hown3 hb3 hgr3; obtain ⟨g3_, c3_, rfl⟩ := ownsRow_succ hown3; have hG3 := (hGA.alloc _).below hb3 hlG; have hP3 := (hPA.alloc _).below hb3 hlP; have d3 := hG3.cell7.2.2.2.1; have fd3 := hG3.frozen 3; have hbw3 := (hbwA.alloc hbwA.size (.cells #[.int .i64 m.nx, .int .i64 x.level, .int .i64 x.tier, .int .i64 x.count, .int .i64 x.lo, .int .i64 x.hi, .int .i64 x.size] 46)).trans (hb3.mono hz2))
        | (refine step_appendS elSegs rfl _ _ rfl w2.heap.size _ m.segs.length _ rfl (own_base hoB (Nat.le_of_lt HLITL.out)) _ _ 1 _ rfl hLB (seg_one _ _ _ _ _ _ _) q1.out q2.out (Nat.le_trans (Nat.le_of_lt HLITL.out) hzB) ?_; intro v3 w3 hown3 hb3 hgr3; obtain ⟨g3_, c3_, rfl⟩ := ownsRow_succ hown3; have hG3 := hGB.below hb3 hlG; have hP3 := hPB.below hb3 hlP; have d3 := hG3.cell7.2.2.2.1; have fd3 := hG3.frozen 3; have hbw3 := hbwB.trans (hb3.mono hz2))
        | fail)
    all_goals
      have hgr4 : w3.grownBy (w3.setCell ⟨g, 3, none⟩ (.slice (some ⟨g3_, 0, none⟩) (m.segs.length + 1) c3_)) (some g) := grownBy_set (World.grownBy.refl _ _) _ _
      have hG4 := hG3.set_ 3 (.slice (some ⟨g3_, 0, none⟩) (m.segs.length + 1) c3_)
      have hP4 := hP3.grown hgr4 (fun e => by injection e; omega)
      have ho4 := own_grown hown3 hgr4 hlG
      have hb4 := below_grown hbw3 hgr4 hbw3.size hgw
      clear hG3 hP3 hown3 hbw3 hgr4
      go_wp2_with fail
      go_meet
      exact ⟨_, _, hG4, hP4, ho4, hb4⟩
  case rest =>
  obtain ⟨A, c, hG, hP, ho, hb⟩ := hcut
  obtain ⟨w3, rfl⟩ : ∃ w3 : World, w3 = wc := ⟨_, rfl⟩
  have a1 := hG.cell7.2.1
  have fa1 := hG.frozen 1
  clear c0 c1 c2 c3 c4 c5 c6 g3 fg3
  go_upto_region 7 with fail
  obtain ⟨w4, hw4⟩ : ∃ w4, w4 = w3.setCell ⟨g, 1, none⟩ (.int .i64 (m.nx + 1)) := ⟨_, rfl⟩
  rw [← hw4]
  have hg4 : w3.grownBy w4 (some g) := by rw [hw4]; exact grownBy_set (World.grownBy.refl _ _) _ _
  have hG4 : Blk w4 g 28 #[.int .i64 m.nu, .int .i64 (m.nx + 1), .int .i64 m.jo, .slice A (m.segs.length + 1) c, .slice E2 m.marks.length f2, .slice E3 m.tals.length f3, .slice E4 m.exps.length f4] := by rw [hw4]; exact hG.set_ 1 _
  have hP4 := hP.grown hg4 (fun e => by injection e; omega)
  have ho4 := own_grown ho hg4 hlG
  have hb4 := below_grown hb hg4 hb.size hgw
  have hz4 := hb4.size
  have hoS : Sl w4 (btw w2.heap.size w4.heap.size) 7 (.slice A (m.segs.length + 1) c) (m.segs.length + 1) ((m.segs ++ [withId x m.nx]).flatMap Seg.vals) := by
    have h := Sl.of_own_btw ho4
    rw [List.flatMap_append]
    simpa [Seg.vals, withId] using h
  have hLf : Lies w4 (lt w4.heap.size) (added m x) (.slice A (m.segs.length + 1) c) (.slice E2 m.marks.length f2) (.slice E3 m.tals.length f3) (.slice E4 m.exps.length f4) := by
    have h1 : (added m x).segs.length = m.segs.length + 1 := by simp [added]
    refine ⟨?_, ?_, ?_, ?_⟩
    · rw [h1]; exact hoS.mono (fun k hk => hk.2)
    · exact (hLo.m_.below hb4 (Nat.le_refl _)).more hz4
    · exact (hLo.t.below hb4 (Nat.le_refl _)).more hz4
    · exact (hLo.e.below hb4 (Nat.le_refl _)).more hz4
  have hsmA : Small (added m x) := ⟨by show (m.segs ++ [withId x m.nx]).length ≤ _; rw [List.length_append]; exact HN.out, hsm.m_, hsm.t, hsm.e⟩
  have hCA : counted (added m x) = ⟨m.nu + 1, m.nx + 1, m.jo, m.segs ++ [withId x m.nx], m.marks, m.tals, m.exps⟩ := rfl
  clear hw4 hg4 hG hP ho hb a1 fa1
  obtain ⟨a0, a1, a2, a3, a4, a5, a6⟩ := hG4.cell7
  go_wp2_with fail
  have hc5 : Calls Try.prog 54 #[.agg #[.int .i64 m.nu, .int .i64 (m.nx + 1), .int .i64 m.jo, .slice A (m.segs.length + 1) c, .slice E2 m.marks.length f2, .slice E3 m.tals.length f3, .slice E4 m.exps.length f4]] w4 (fun e w' => e = .returned (.tuple #[.agg #[.int .i64 (m.nu + 1), .int .i64 (m.nx + 1), .int .i64 m.jo, .slice A (m.segs.length + 1) c, .slice E2 m.marks.length f2, .slice E3 m.tals.length f3, .slice E4 m.exps.length f4], .int .i64 0]) ∧ Below w4.heap.size w4 w') := counted_any (added m x) _ _ _ _ w4 hLf hsmA h0 h1 he
  refine hc5.mono ?_
  rintro e w5 ⟨rfl, hb5⟩
  clear hc5
  have hP5 := hP4.below hb5 hP4.lt
  have hbw5 := bchain hb4 hb5
  have hoS5 : Sl w5 (btw w2.heap.size w5.heap.size) 7 (.slice A (m.segs.length + 1) c) (m.segs.length + 1) ((m.segs ++ [withId x m.nx]).flatMap Seg.vals) := (hoS.under hb5 (fun k hk => hk.2)).mono (fun k hk => ⟨hk.1, Nat.lt_of_lt_of_le hk.2 hb5.size⟩)
  have hgr := put7_grown w5 p (.int .i64 (m.nu + 1)) (.int .i64 (m.nx + 1)) (.int .i64 m.jo) (.slice A (m.segs.length + 1) c) (.slice E2 m.marks.length f2) (.slice E3 m.tals.length f3) (.slice E4 m.exps.length f4)
  have HF : Hid (AddRes w m x (.slice E2 m.marks.length f2) (.slice E3 m.tals.length f3) (.slice E4 m.exps.length f4) (.returned (.tuple #[.agg #[.int .i64 (m.nu + 1), .int .i64 (m.nx + 1), .int .i64 m.jo, .slice A (m.segs.length + 1) c, .slice E2 m.marks.length f2, .slice E3 m.tals.length f3, .slice E4 m.exps.length f4], .int .i64 0])) (put7 w5 p (.int .i64 (m.nu + 1)) (.int .i64 (m.nx + 1)) (.int .i64 m.jo) (.slice A (m.segs.length + 1) c) (.slice E2 m.marks.length f2) (.slice E3 m.tals.length f3) (.slice E4 m.exps.length f4))) := by
    refine keep ⟨.slice A (m.segs.length + 1) c, rfl, ?_, below_grown hbw5 hgr hbw5.size (by omega)⟩
    exact (hoS5.grown hgr (fun k hk => ⟨hk.2, fun e => by injection e; have := hk.1; omega⟩)).mono (fun k hk => ⟨by have := hk.1; omega, Nat.lt_of_lt_of_le hk.2 hgr.size⟩)
  obtain ⟨y0, y1, y2, y3, y4, y5, y6⟩ := (put7_blk hP5 (.int .i64 (m.nu + 1)) (.int .i64 (m.nx + 1)) (.int .i64 m.jo) (.slice A (m.segs.length + 1) c) (.slice E2 m.marks.length f2) (.slice E3 m.tals.length f3) (.slice E4 m.exps.length f4)).cell7
  obtain ⟨e0, e1, e2, e3, e4, e5, e6⟩ := hP5.cell7
  have g0 := hP5.frozen 0
  have g1 := hP5.frozen 1
  have g2 := hP5.frozen 2
  have g3 := hP5.frozen 3
  have g4 := hP5.frozen 4
  have g5 := hP5.frozen 5
  have g6 := hP5.frozen 6
  clear hgr hoS5 hoS hP5 hP4 hG4 hb5 hbw5 hb4 hLf a0 a1 a2 a3 a4 a5 a6 hCA
  go_wp2_with fail
  refine bodyPost_ret (v := .tuple #[.agg #[.int .i64 (m.nu + 1), .int .i64 (m.nx + 1), .int .i64 m.jo, .slice A (m.segs.length + 1) c, .slice E2 m.marks.length f2, .slice E3 m.tals.length f3, .slice E4 m.exps.length f4], .int .i64 0]) (by simp [results, Try.results20, go_sem, y0, y1, y2, y3, y4, y5, y6]) rfl ?_
  exact HF.out
end Go.Proofs.Ytkjhnipjhefndaa
