/- ManifestCheck's function returns true at every input. -/
import Derived.Test.YtkjhnipjhefndaaManifDraw
import Derived.Test.YtkjhnipjhefndaaWrong
import Derived.Test.YtkjhnipjhefndaaFind
import Derived.Test.YtkjhnipjhefndaaRefCheck
namespace Go.Proofs.Ytkjhnipjhefndaa
open Go.RowKit

theorem Good.err {m : Man} (h : Good m) : manErr m = 0 := by
  rw [manErr_rest (by have := h.sl; omega) (by have := h.u0; have := h.x0; have := h.j0; omega) h.s.bad, if_pos ⟨h.s.1, h.m_, h.t, h.e⟩]
theorem Lies.kept {w w' : World} {S : Nat → Prop} {row : Option Nat} {m : Man} {vS vM vT vE : Value} (h : Lies w S m vS vM vT vE) (hg : w.grownBy w' row) (hS : ∀ b, S b → b < w.heap.size ∧ some b ≠ row) : Lies w' S m vS vM vT vE :=
  ⟨h.s.grown hg hS, h.m_.grown hg hS, h.t.grown hg hS, h.e.grown hg hS⟩
theorem Lies.mono {w : World} {S S' : Nat → Prop} {m : Man} {vS vM vT vE : Value} (h : Lies w S m vS vM vT vE) (hS : ∀ b, S b → S' b) : Lies w S' m vS vM vT vE :=
  ⟨h.s.mono hS, h.m_.mono hS, h.t.mono hS, h.e.mono hS⟩
theorem fine_small {m : Man} (h : fineB m = true) : Small m := by
  simp only [fineB, Bool.and_eq_true, decide_eq_true_eq] at h
  exact ⟨by omega, by omega, by omega, by omega⟩

/-- 'make([]T, n)', whatever the elements: where it lies. -/
theorem wpList_makeBig {P : Program} {t e size bytes : Nat} {z : Value} (E : Elem P t e size bytes z) {ops : Array Oper} {rest : List Oper} {o : Oper} {a : Act} {w : World} {Q : Exit → Act → World → Prop}
    (hg : o.guard = none) (l c : Operand) (hop : o.op = Op.makeSlice t l c) (L C : Int) (kl kc : IntKind) (n : Nat) (hl : a.eval l = .int kl L) (hc : a.eval c = .int kc C) (hL : L = (n : Int)) (hC : C = (n : Int))
    (b2 : bytes * n ≤ 281474976710656) (b3 : n ≤ maxLen)
    (h : ∀ w', Below w.heap.size w w' → w'.heap.size = w.heap.size + 1 → wpList P ops Q rest (a.put o.dst (.slice (some ⟨w.heap.size, 0, none⟩) n n)) w') :
    wpList P ops Q (o :: rest) a w := by
  obtain ⟨i, hi, hz0, hz1, hz2⟩ := info_parts E.hi
  refine wpList_plain hg fun K hK => ?_
  have hb : (i.bytes : Int) * (n : Int) ≤ 281474976710656 := by
    have h : ((bytes * n : Nat) : Int) ≤ 281474976710656 := by omega
    rw [hz2]
    rwa [Int.natCast_mul] at h
  have hr := run_make (P := P) w t e i z E.ht hi hz0 kl kc n n (by omega) (Int.le_refl _) hb (by unfold maxLen at b3; omega)
  simp only [Int.toNat_natCast] at hr
  subst hL
  subst hC
  unfold Oper.wp execOp
  simp only [hop, hl, hc, Sem.run_bind, Sem.run_pure, hr, Result.andThen_ok]
  exact hK _ _ (h _ ((Below.refl _ w).alloc (Nat.le_refl _) _) (by simp))

set_option maxHeartbeats 4000000 in
set_option maxRecDepth 100000 in
theorem law_check (m : Man) (vS vM vT vE v : Value) (bs : List Int) (w : World) (hL : Lies w (lt w.heap.size) m vS vM vT vE) (hv : Sl w (lt w.heap.size) 1 v bs.length (bs.map (.int .u8))) (hr : ∀ x ∈ bs, 0 ≤ x ∧ x ≤ 255) (hm : bs.length ≤ maxLen) :
    Calls Try.prog 3 #[.agg (manCells m vS vM vT vE), v] w fun e w' => e = .returned (.bool true) ∧ Below w.heap.size w w' := by
  obtain ⟨AS, cS, rfl, _, _⟩ := hL.s.form
  obtain ⟨AM, cM, rfl, _, _⟩ := hL.m_.form
  obtain ⟨AT, cT, rfl, _, _⟩ := hL.t.form
  obtain ⟨AE, cE, rfl, _, _⟩ := hL.e.form
  obtain ⟨Av, cv, rfl, _, hv⟩ := hv.form
  obtain ⟨W, hW⟩ : ∃ W, W = w.alloc (.cells (manCells m (.slice AS m.segs.length cS) (.slice AM m.marks.length cM) (.slice AT m.tals.length cT) (.slice AE m.exps.length cE)) 28) := ⟨_, rfl⟩
  have hbW : Below w.heap.size w W := by rw [hW]; exact (Below.refl _ _).alloc (Nat.le_refl _) _
  obtain ⟨g, hg⟩ : ∃ g, g = w.heap.size := ⟨_, rfl⟩
  have hBg : Blk W g 28 (manCells m (.slice AS m.segs.length cS) (.slice AM m.marks.length cM) (.slice AT m.tals.length cT) (.slice AE m.exps.length cE)) := by rw [hW, hg]; exact Blk.new _ _ _
  obtain ⟨q, hq⟩ : ∃ q, fineB m = q := ⟨_, rfl⟩
  have HQ := keep hq
  have HG := keep hg
  clear hq
  go_enter Try.func3, Try.ntmps3
  go_upto_region 1 with fail
  rw [← hW, ← hg]
  clear hW hg
  have hlg := hBg.lt
  obtain ⟨a0, a1, a2, a3, a4, a5, a6⟩ := hBg.cell7
  go_wp2_with fail
  refine (awake_any _).mono ?_
  rintro e w1 ⟨rfl, hb1⟩
  have hB1 := hBg.below hb1 hlg
  have hl1 := hB1.lt
  obtain ⟨b0, b1, b2, b3, b4, b5, b6⟩ := hB1.cell7
  go_wp2_with fail
  refine (fine_any m _ _ _ _ _ _ _ _ _).mono ?_
  rw [HQ.out]
  rintro e w2 ⟨rfl, hb2⟩
  have hB2 := hB1.below hb2 hl1
  have hl2 := hB2.lt
  have hbw2 := bchain (bchain hbW hb1) hb2
  obtain ⟨c0, c1, c2, c3, c4, c5, c6⟩ := hB2.cell7
  clear hb1 hb2 hB1 hBg hbW a0 a1 a2 a3 a4 a5 a6 b0 b1 b2 b3 b4 b5 b6
  cases q with
  | false =>
    go_wp2_with fail
    refine (fine_any m _ _ _ _ _ _ _ _ _).mono ?_
    rw [HQ.out]
    rintro e w3 ⟨rfl, hb3⟩
    go_wp2_with fail
    go_ret
    exact ⟨rfl, bchain hbw2 hb3⟩
  | true =>
    have hsm := fine_small HQ.out
    have hL2 := hL.below hbw2
    have hv2 := (hv.below hbw2 (Nat.le_refl _)).more hbw2.size
    have hL2' : Lies w2 (lt w.heap.size) m (.slice AS m.segs.length cS) (.slice AM m.marks.length cM) (.slice AT m.tals.length cT) (.slice AE m.exps.length cE) :=
      ⟨hL.s.below hbw2 (Nat.le_refl _), hL.m_.below hbw2 (Nat.le_refl _), hL.t.below hbw2 (Nat.le_refl _), hL.e.below hbw2 (Nat.le_refl _)⟩
    have hz2 := hbw2.size
    clear hL hv hL2
    go_wp2_with fail
    refine (drawNew _ bs 200 _ hv2 hr (by omega) hm).mono ?_
    rintro e w3 ⟨gc, rfl, hgc, hC3, hb3⟩
    have hB3 := hB2.below hb3 hl2
    have hbw3 := bchain hbw2 hb3
    have hL3 : Lies w3 (lt w.heap.size) m (.slice AS m.segs.length cS) (.slice AM m.marks.length cM) (.slice AT m.tals.length cT) (.slice AE m.exps.length cE) :=
      ⟨hL2'.s.below hb3 hz2, hL2'.m_.below hb3 hz2, hL2'.t.below hb3 hz2, hL2'.e.below hb3 hz2⟩
    have hz3 := hb3.size
    have hgg : g < gc := by omega
    have hwg : w.heap.size ≤ gc := by omega
    clear hB2 hL2' hv2 hbw2 c0 c1 c2 c3 c4 c5 c6 hb3
    go_wp2_with fail
    refine (drawManifest gc _ hC3).mono ?_
    rintro e w4 ⟨x, xS, xM, xT, xE, rfl, hLx, hGx, hC4, hg4⟩
    have hgcl := hC3.lt_
    have hB4 := hB3.grown hg4 (fun e => by injection e; omega)
    have hbw4 := below_grown hbw3 hg4 hbw3.size hwg
    have hL4 := hL3.kept hg4 (fun b hb => ⟨by have : b < w.heap.size := hb; omega, fun e => by injection e with e; have : b < w.heap.size := hb; omega⟩)
    have hz4 := hg4.size
    have HX := keep hGx.err
    have hxl := hGx.sl
    have hxm := hGx.ml
    have hxt := hGx.tl
    have hxe := hGx.el
    have hlx4 : Lies w4 (fun b => b < w4.heap.size ∧ b ≠ gc) x xS xM xT xE := hLx.mono (fun b hb => ⟨hb.2, by have := hb.1; omega⟩)
    clear hGx hLx hB3 hbw3 hL3 hg4 hC3
    obtain ⟨XS, dS, rfl, _, _⟩ := hlx4.s.form
    obtain ⟨XM, dM, rfl, _, _⟩ := hlx4.m_.form
    obtain ⟨XT, dT, rfl, _, _⟩ := hlx4.t.form
    obtain ⟨XE, dE, rfl, _, _⟩ := hlx4.e.form
    go_upto_region 5 with fail
    obtain ⟨W5, hW5⟩ : ∃ W5, W5 = w4.alloc (.cells (manCells x (.slice XS x.segs.length dS) (.slice XM x.marks.length dM) (.slice XT x.tals.length dT) (.slice XE x.exps.length dE)) 28) := ⟨_, rfl⟩
    obtain ⟨g6, hg6⟩ : ∃ g6, g6 = w4.heap.size := ⟨_, rfl⟩
    rw [← hW5, ← hg6]
    have hga : w4.grownBy W5 (some gc) := by rw [hW5]; exact World.grownBy_alloc _ _ _
    have hC5 : Codes W5 gc := by rw [hW5]; exact hC4.alloc _
    have hB5 := hB4.grown hga (fun e => by injection e; omega)
    have hX5 : Blk W5 g6 28 (manCells x (.slice XS x.segs.length dS) (.slice XM x.marks.length dM) (.slice XT x.tals.length dT) (.slice XE x.exps.length dE)) := by rw [hW5, hg6]; exact Blk.new _ _ _
    have hL5 := hL4.kept hga (fun b hb => ⟨by have : b < w.heap.size := hb; omega, fun e => by injection e with e; have : b < w.heap.size := hb; omega⟩)
    have hlx5 := hlx4.kept hga (fun b hb => ⟨hb.1, fun e => by injection e with e; exact hb.2 e⟩)
    have hbw5 := below_grown hbw4 hga hbw4.size hwg
    have hz5 := hga.size
    have hg6c : gc < g6 := by omega
    have hlX5 := hX5.lt
    have hly5 : Lies W5 (But W5 gc) x (.slice XS x.segs.length dS) (.slice XM x.marks.length dM) (.slice XT x.tals.length dT) (.slice XE x.exps.length dE) := hlx5.mono (fun b hb => ⟨Nat.lt_of_lt_of_le hb.1 hz5, hb.2⟩)
    clear hW5 hg6 hB4 hL4 hlx4 hbw4 hga hC4 hlx5
    obtain ⟨a0, a1, a2, a3, a4, a5, a6⟩ := hX5.cell7
    go_wp2_with fail
    refine (wrong_law gc x _ _ _ _ _ hC5 hly5 (by omega) (by omega) (by omega) (by omega)).mono ?_
    rintro e w6 ⟨y, yS, yM, yT, yE, rfl, hLy, y1, y2, y3, ⟨y4, _⟩, hC6, hg6⟩
    have hsy : Small y := ⟨by omega, by omega, by rw [y3]; omega, by omega⟩
    have hB6 := hB5.grown hg6 (fun e => by injection e; omega)
    have hX6 := hX5.grown hg6 (fun e => by injection e; omega)
    have hL6 := hL5.kept hg6 (fun b hb => ⟨by have : b < w.heap.size := hb; omega, fun e => by injection e with e; have : b < w.heap.size := hb; omega⟩)
    have hlx6 := hly5.kept hg6 (fun b hb => ⟨hb.1, fun e => by injection e with e; exact hb.2 e⟩)
    have hbw6 := below_grown hbw5 hg6 hbw5.size hwg
    have hz6 := hg6.size
    clear hB5 hX5 hL5 hly5 hbw5 hg6 hC5 hC6 y1 y2 y3 y4 a0 a1 a2 a3 a4 a5 a6
    obtain ⟨YS, fS, rfl, _, _⟩ := hLy.s.form
    obtain ⟨YM, fM, rfl, _, _⟩ := hLy.m_.form
    obtain ⟨YT, fT, rfl, _, _⟩ := hLy.t.form
    obtain ⟨YE, fE, rfl, _, _⟩ := hLy.e.form
    obtain ⟨a0, a1, a2, a3, a4, a5, a6⟩ := hX6.cell7
    have hlX6 := hX6.lt
    go_upto_region 7 with fail
    obtain ⟨W7, hW7⟩ : ∃ W7, W7 = (w6.alloc (.cells (manCells y (.slice YS y.segs.length fS) (.slice YM y.marks.length fM) (.slice YT y.tals.length fT) (.slice YE y.exps.length fE)) 28)).alloc (.cells (manCells x (.slice XS x.segs.length dS) (.slice XM x.marks.length dM) (.slice XT x.tals.length dT) (.slice XE x.exps.length dE)) 28) := ⟨_, rfl⟩
    obtain ⟨g7, hg7⟩ : ∃ g7, g7 = w6.heap.size := ⟨_, rfl⟩
    obtain ⟨g8, hg8⟩ : ∃ g8, g8 = g7 + 1 := ⟨_, rfl⟩
    rw [← hW7, ← hg7]
    have hg8' : g7 + 1 = g8 := by omega
    simp only [hg8']
    have hb67 : Below w6.heap.size w6 W7 := by rw [hW7]; exact ((Below.refl _ _).alloc (Nat.le_refl _) _).alloc (by simp) _
    have hsz7 : W7.heap.size = w6.heap.size + 2 := by rw [hW7]; simp
    have hY7 : Blk W7 g7 28 (manCells y (.slice YS y.segs.length fS) (.slice YM y.marks.length fM) (.slice YT y.tals.length fT) (.slice YE y.exps.length fE)) := by rw [hW7, hg7]; exact (Blk.new _ _ _).alloc _
    have hZ7 : Blk W7 g8 28 (manCells x (.slice XS x.segs.length dS) (.slice XM x.marks.length dM) (.slice XT x.tals.length dT) (.slice XE x.exps.length dE)) := by
      rw [hW7, hg8, hg7]
      have := Blk.new (w6.alloc (.cells (manCells y (.slice YS y.segs.length fS) (.slice YM y.marks.length fM) (.slice YT y.tals.length fT) (.slice YE y.exps.length fE)) 28)) 28 (manCells x (.slice XS x.segs.length dS) (.slice XM x.marks.length dM) (.slice XT x.tals.length dT) (.slice XE x.exps.length dE))
      simpa using this
    have hB7 := hB6.below hb67 hB6.lt
    have hX7 := hX6.below hb67 hX6.lt
    have HZ := keep (show g8 < W7.heap.size by omega)
    have hlZ := HZ.out
    have hlY := hY7.lt
    have HY := keep (show w6.heap.size ≤ g7 ∧ g7 < g8 ∧ g < w6.heap.size ∧ g6 < w6.heap.size from ⟨by omega, by omega, hB6.lt, hX6.lt⟩)
    clear hW7 hg7 hg8 hg8' hB6 hX6 a0 a1 a2 a3 a4 a5 a6 hsz7
    obtain ⟨z0, z1, z2, z3, z4, z5, z6⟩ := hZ7.cell7
    go_upto_region 8 with (refine wpList_makeBig elSegs rfl _ _ rfl 65 65 .i64 .i64 65 rfl rfl rfl rfl (by omega) (by unfold maxLen; omega) ?_; intro w8 hb8 hs8; have hZ8 := hZ7.below hb8 hlZ; obtain ⟨d0, d1, d2, d3, d4, d5, d6⟩ := hZ8.cell7; have hf8 := hZ8.frozen 3)
    obtain ⟨gm, hgm⟩ : ∃ gm, gm = W7.heap.size := ⟨_, rfl⟩
    obtain ⟨W9, hW9⟩ : ∃ W9, W9 = w8.setCell ⟨g8, 3, none⟩ (.slice (some ⟨W7.heap.size, 0, none⟩) 65 65) := ⟨_, rfl⟩
    rw [← hW9]
    have hs9 : w8.grownBy W9 (some g8) := by rw [hW9]; exact grownBy_set (World.grownBy.refl _ _) 3 _
    have hZ9 : Blk W9 g8 28 #[.int .i64 x.nu, .int .i64 x.nx, .int .i64 x.jo, .slice (some ⟨W7.heap.size, 0, none⟩) 65 65, .slice XM x.marks.length dM, .slice XT x.tals.length dT, .slice XE x.exps.length dE] := by rw [hW9]; exact hZ8.set_ 3 _
    rw [← hgm] at hZ9
    obtain ⟨y1, y2, y3, y4⟩ := HY.out
    have hB9 := (hB7.below hb8 hB7.lt).grown hs9 (fun e => by injection e; omega)
    have hX9 := (hX7.below hb8 hX7.lt).grown hs9 (fun e => by injection e; omega)
    have hY9 := (hY7.below hb8 hlY).grown hs9 (fun e => by injection e; omega)
    have hz9 : w6.heap.size ≤ W9.heap.size := Nat.le_trans hb67.size (Nat.le_trans hb8.size hs9.size)
    have hb69 : Below w6.heap.size w6 W9 := by
      have h1 : Below w6.heap.size w6 w8 := hb67.trans (hb8.mono hb67.size)
      rw [hW9]; exact h1.setCell (p := ⟨g8, 3, none⟩) (by show w6.heap.size ≤ g8; omega) _
    have hL9 : Lies W9 (lt W9.heap.size) m (.slice AS m.segs.length cS) (.slice AM m.marks.length cM) (.slice AT m.tals.length cT) (.slice AE m.exps.length cE) := (hL6.mono (fun b hb => by have h1 : b < w.heap.size := hb; show b < w6.heap.size; omega) : Lies w6 (lt w6.heap.size) m _ _ _ _).below hb69
    have hlx9 : Lies W9 (lt W9.heap.size) x (.slice XS x.segs.length dS) (.slice XM x.marks.length dM) (.slice XT x.tals.length dT) (.slice XE x.exps.length dE) := (hlx6.mono (fun b hb => by show b < w6.heap.size; have := hb.1; omega) : Lies w6 (lt w6.heap.size) x _ _ _ _).below hb69
    have hLy9 : Lies W9 (lt W9.heap.size) y (.slice YS y.segs.length fS) (.slice YM y.marks.length fM) (.slice YT y.tals.length fT) (.slice YE y.exps.length fE) := (hLy.mono (fun b hb => hb.1) : Lies w6 (lt w6.heap.size) y _ _ _ _).below hb69
    have hbf : Below w.heap.size w W9 := hbw6.trans (hb69.mono hbw6.size)
    clear hW9 hZ8 hZ7 hY7 hX7 hB7 hs9 hb8 hs8 hf8 d0 d1 d2 d3 d4 d5 d6 z0 z1 z2 z3 z4 z5 z6 hL6 hlx6 hLy hb67 hb69 hbw6 y1 y2 y3 y4 HZ HY hgm hlY hlZ
    have hsx : Small x := ⟨by omega, by omega, by omega, by omega⟩
    have hlB := hB9.lt
    have hlX := hX9.lt
    have hlY := hY9.lt
    have hlZ := hZ9.lt
    obtain ⟨a0, a1, a2, a3, a4, a5, a6⟩ := hB9.cell7
    obtain ⟨b0, b1, b2, b3, b4, b5, b6⟩ := hX9.cell7
    obtain ⟨c0, c1, c2, c3, c4, c5, c6⟩ := hY9.cell7
    obtain ⟨d0, d1, d2, d3, d4, d5, d6⟩ := hZ9.cell7
    have lM := keep (fun (a : World) (h : Held W9.heap.size W9 a) => hL9.below h.2.2)
    have lX := keep (fun (a : World) (h : Held W9.heap.size W9 a) => hlx9.below h.2.2)
    have lY := keep (fun (a : World) (h : Held W9.heap.size W9 a) => hLy9.below h.2.2)
    obtain ⟨em, hem⟩ : ∃ em, manErr m = em := ⟨_, rfl⟩
    obtain ⟨ey, hey⟩ : ∃ ey, manErr y = ey := ⟨_, rfl⟩
    have HM := keep hem
    have HY := keep hey
    have e1 : (em == em) = true := by simp
    have e2 : (ey == ey) = true := by simp
    clear hem hey hL9 hlx9 hLy9 hB9 hX9 hY9 hZ9
    go_region_held3 (Held W9.heap.size W9) (first | exact Held.start _ _ | exact Held.call (by assumption) (by assumption) (Nat.le_refl _) | assumption)
      (first
        | (go_at_call 15; (with_reducible refine (check_any m _ _ _ _ _ ?_ hsm).mono ?_); (exact lM.out _ (by assumption)); rw [HM.out]; rintro e wA ⟨rfl, hbA⟩)
        | (go_at_call 16; (with_reducible refine (refCheck_any m _ _ _ _ _ ?_ hsm).mono ?_); (exact lM.out _ (by assumption)); rw [HM.out]; rintro e wB ⟨rfl, hbB⟩)
        | (go_at_call 15; (with_reducible refine (check_any x _ _ _ _ _ ?_ hsx).mono ?_); (exact lX.out _ (by assumption)); rw [HX.out]; rintro e wC ⟨rfl, hbC⟩)
        | (go_at_call 15; (with_reducible refine (check_any y _ _ _ _ _ ?_ hsy).mono ?_); (exact lY.out _ (by assumption)); rw [HY.out]; rintro e wD ⟨rfl, hbD⟩)
        | (go_at_call 16; (with_reducible refine (refCheck_any y _ _ _ _ _ ?_ hsy).mono ?_); (exact lY.out _ (by assumption)); rw [HY.out]; rintro e wE ⟨rfl, hbE⟩)
        | (go_at_call 15; (with_reducible refine (check_many _ _ _ _ 65 65 _ _ _ _ (by omega)).mono ?_); rintro e wF ⟨rfl, hbF⟩))
    have hH : Held W9.heap.size W9 wF := by assumption
    go_wp2_with fail
    go_ret
    exact ⟨rfl, bchain hbf hH.2.2⟩
end Go.Proofs.Ytkjhnipjhefndaa
