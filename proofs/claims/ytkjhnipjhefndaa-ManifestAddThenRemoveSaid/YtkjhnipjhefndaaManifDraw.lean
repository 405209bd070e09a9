/- The contract of the drawing package's Manifest. -/
import Derived.Test.YtkjhnipjhefndaaManif
namespace Go.Proofs.Ytkjhnipjhefndaa
open Go.RowKit

abbrev man0 : Array Value := #[.int .i64 0, .int .i64 0, .int .i64 0, .slice none 0 0, .slice none 0 0, .slice none 0 0, .slice none 0 0]
/-- What a drawn manifest satisfies. -/
structure Good (m : Man) : Prop where
  u0 : 0 ≤ m.nu
  u1 : m.nu ≤ 8
  x0 : 0 ≤ m.nx
  x1 : m.nx ≤ 26
  j0 : 0 ≤ m.jo
  j1 : m.jo ≤ 4
  s : Under m.segs m.nx
  sl : m.segs.length ≤ 13
  m_ : asc mkLess m.marks = true
  ml : m.marks.length ≤ 6
  mo : ∀ t ∈ m.marks, MkOk t
  t : asc tlLess m.tals = true
  tl : m.tals.length ≤ 4
  tk : ∀ t ∈ m.tals, TlOk 40 t
  e : asc tlLess m.exps = true
  el : m.exps.length ≤ 4
  ek : ∀ t ∈ m.exps, TlOk 40 t
def ManRes (w : World) (gc : Nat) (e : Ending) (w' : World) : Prop :=
  ∃ m vS vM vT vE, e = .returned (.agg (manCells m vS vM vT vE)) ∧ Lies w' (btw w.heap.size w'.heap.size) m vS vM vT vE ∧ Good m ∧ Codes w' gc ∧ w.grownBy w' (some gc)
theorem sl_set {w : World} {b size n : Nat} {v : Value} {xs : List Value} {S : Nat → Prop} (h : Sl w S size v n xs) (hS : ∀ k, S k → k ≠ b) (i : Nat) (u : Value) : Sl (w.setCell ⟨b, i, none⟩ u) S size v n xs :=
  h.keep fun p hp => World.cell?_of_block (Below.heap_setCell w ⟨b, i, none⟩ u p.block (hS _ hp))
section
variable {wr w' : World} {p g gc base : Nat} {nu nx jo : Int} {vS : Value} {l : List Seg}
theorem Mn.drew_ (h : Mn wr p g gc base nu nx jo vS l) (h1 : gc < p) (h2 : p < g) (h3 : g < base) : Mn wr.drew p g gc base nu nx jo vS l := h.grown (grownBy_drew (World.grownBy.refl _ _)) h.c.drew h1 h2 h3
theorem Mn.setNext (h : Mn wr p g gc base nu nx jo vS l) (y : Int) (h1 : gc < p) (h2 : p < g) (h3 : g < base) : Mn (wr.setCell ⟨g, 1, none⟩ (.int .i64 y)) p g gc base nu y jo vS l := by
  have hs : wr.grownBy (wr.setCell ⟨g, 1, none⟩ (.int .i64 y)) (some g) := grownBy_set (World.grownBy.refl _ _) 1 _
  exact ⟨h.bp.far (p := ⟨g, 1, none⟩) (by show p ≠ g; omega) _, h.bg.set_ 1 _, own_grown h.own hs h3, h.c.grown hs (by omega), Nat.le_trans h.s hs.size⟩
end
set_option maxHeartbeats 40000000 in
set_option maxRecDepth 100000 in
theorem drawManifest (gc : Nat) (w : World) (h : Codes w gc) : Calls Try.prog 13 #[.pointer (some ⟨gc, 0, none⟩)] w (ManRes w gc) := by
  have hgc := h.lt_
  obtain ⟨W, hW⟩ : ∃ W, W = w.alloc (.cells man0 28) := ⟨_, rfl⟩
  have hC0 : Codes W gc := by rw [hW]; exact h.alloc _
  go_enter Try.func13, Try.ntmps13
  go_upto_region 1 with fail
  rw [← hW]
  obtain ⟨p, hp⟩ : ∃ p, p = w.heap.size := ⟨_, rfl⟩
  rw [← hp]
  have hbp : Blk W p 28 man0 := by rw [hW, hp]; exact Blk.new _ _ _
  have hG0 : w.grownBy W (some gc) := by rw [hW]; exact World.grownBy_alloc _ _ _
  have HP := keep hp
  have o1 : gc < p := by omega
  clear hW hp
  go_wp2_with fail
  refine (drawNext gc _ _ hC0 (by omega) (by omega)).mono ?_
  rintro e w1 ⟨nu, rfl, n0, n1, _, hC1, hg1⟩
  have n2 := n1 (by omega)
  clear n1
  go_wp2_with fail
  refine (drawNext gc _ _ hC1 (by omega) (by omega)).mono ?_
  rintro e w2 ⟨jo, rfl, j0, j1, _, hC2, hg2⟩
  have j2 := j1 (by omega)
  clear j1
  have hbp2 := (hbp.grown hg1 (fun e => by injection e; omega)).grown hg2 (fun e => by injection e; omega)
  have hG2 := grownBy_trans (grownBy_trans hG0 hg1) hg2
  clear hbp hG0 hg1 hg2 hC0 hC1
  have hpl := hbp2.lt
  go_upto_region 2 with fail
  obtain ⟨W2, hW2⟩ : ∃ W2, W2 = w2.alloc (.cells #[.int .i64 nu, .int .i64 0, .int .i64 jo, .slice none 0 0, .slice none 0 0, .slice none 0 0, .slice none 0 0] 28) := ⟨_, rfl⟩
  obtain ⟨g, hg⟩ : ∃ g, g = w2.heap.size := ⟨_, rfl⟩
  rw [← hW2, ← hg]
  obtain ⟨B, hB⟩ : ∃ B, B = W2.heap.size := ⟨_, rfl⟩
  have hI : Mn W2 p g gc B nu 0 jo (.slice none 0 0) [] := by
    refine ⟨?_, ?_, World.ownsRow_nil _ _ _ _, ?_, by omega⟩
    · rw [hW2]; exact hbp2.alloc _
    · rw [hW2, hg]; exact Blk.new _ _ _
    · rw [hW2]; exact hC2.alloc _
  have hG3 : w.grownBy W2 (some gc) := by rw [hW2]; exact grownBy_trans hG2 (World.grownBy_alloc _ _ _)
  have o2 : p < g := by omega
  have o3 : g < B := by rw [hB, hW2, hg]; simp
  clear hW2 hg hB hG2 hC2 hbp2
  go_wp2_with fail
  refine (drawNext gc _ _ hI.c (by omega) (by omega)).mono ?_
  rintro e w3 ⟨k, rfl, k0, k1, _, hC3, hg3⟩
  have k2 := k1 (by omega)
  have hI3 := hI.grown hg3 hC3 o1 o2 o3
  have hG4 := grownBy_trans hG3 hg3
  clear k1 hI hG3 hg3 hC3
  go_wp2_with fail
  go_loopw [4, 5] (fun a _ wr => ∃ (n nx : Int) (vS : Value) (l : List Seg), a = .int .i64 n ∧ 0 ≤ n ∧ n + l.length ≤ 13 ∧ 0 ≤ nx ∧ nx ≤ 2 * l.length ∧ Mn wr p g gc B nu nx jo vS l ∧ Hid (Under l nx) ∧ w.grownBy wr (some gc)) (fun a _ _ => (intOf a).toNat)
  case atStart => exact ⟨k, 0, _, [], rfl, k0, by simp; omega, by omega, by simp, hI3, keep ⟨rfl, by simp⟩, hG4⟩
  case round =>
    clear hI3 hG4 k0 k2
    obtain ⟨n, nx, vS, l, rfl, q0, q1, q2, q3, hIr, HL, hGr⟩ := hrel
    obtain ⟨wo, rfl⟩ : ∃ wo : World, wo = wr := ⟨_, rfl⟩
    by_cases hpos : 0 < n
    · have hd : decide (0 < n) = true := by simpa using hpos
      go_upto_region 5 with fail
      go_cut [] (fun wd => ∃ y : Int, nx ≤ y ∧ y ≤ nx + 1 ∧ Mn wd p g gc B nu y jo vS l ∧ w.grownBy wd (some gc))
      case first =>
        have hJ0 := hIr.drew_ o1 o2 o3
        have hK0 : w.grownBy wo.drew (some gc) := grownBy_drew hGr
        obtain ⟨_, c1, _, c3, _⟩ := hJ0.bg.cell7
        go_region_law (first
          | (go_simp; go_at_call 31; refine (drawNext gc _ _ hJ0.c (by omega) (by omega)).mono ?_; rintro e w' ⟨x, rfl, x0, x1, _, hC', hg'⟩; have x2 := x1 (by omega); clear x1; have hJ1 := hJ0.grown hg' hC' o1 o2 o3; have hK1 := grownBy_trans hK0 hg'; obtain ⟨_, d1, _, d3, _⟩ := hJ1.bg.cell7; have df := hJ1.bg.frozen 1; have iw : IntKind.i64.wrap (nx + x) = nx + x := (by rw [IntWalk.i64_left]; exact IntWalk.wrap64_in _ (by omega))))
        all_goals
          go_wp2_with fail
          go_meet
          exact ⟨nx + x, by omega, by omega, hJ1.setNext _ o1 o2 o3, grownBy_below hK1 ((Below.refl _ _).setCell (p := ⟨g, 1, none⟩) (by show w.heap.size ≤ g; have := HP.out; omega) _)⟩
      case rest =>
        obtain ⟨y, y0, y1, hI5, hG5⟩ := hcut
        obtain ⟨w5, rfl⟩ : ∃ w5 : World, w5 = wc := ⟨_, rfl⟩
        have HL5 := keep (HL.out.more y0)
        clear HL hIr hGr
        obtain ⟨nx, rfl⟩ : ∃ nx : Int, nx = y := ⟨_, rfl⟩
        go_wp2_with fail
        refine (drawTime gc _ hI5.c).mono ?_
        rintro e w6 ⟨tm, rfl, t0, t1, hC6, hg6⟩
        have hI6 := hI5.grown hg6 hC6 o1 o2 o3
        have hG6 := grownBy_trans hG5 hg6
        clear hI5 hG5 hC6 hg6
        go_upto_region 7 with fail
        go_cut [] (fun wd => ∃ (v : Value) (s : Seg), Mn wd p g gc B nu nx jo v (l ++ [s]) ∧ Hid (Under (l ++ [s]) (nx + 1)) ∧ w.grownBy wd (some gc))
        case first =>
          have hJ0 := hI6.drew_ o1 o2 o3
          have hK0 : w.grownBy w6.drew (some gc) := grownBy_drew hG6
          obtain ⟨_, c1, _, c3, _⟩ := hJ0.bg.cell7
          have h63 : l.length + 1 ≤ maxLen := by unfold maxLen; omega
          have hby : (l.length + 1) * 56 ≤ 140737488355328 := by omega
          go_region_law (first
            | (refine step_appendS elSegs rfl _ _ rfl B _ l.length _ rfl hO _ _ 1 _ rfl hsrc hone h63 hby hbs ?_; intro v' w3 hown' hb' hgr'; obtain ⟨g', cap', rfl⟩ := ownsRow_succ hown'; have hB3 := (hJ5.bg.alloc (.cells #[.int .i64 nx, .int .i64 xa, .int .i64 xb, .int .i64 xc, .int .i64 tm, .int .i64 (tm + xd), .int .i64 xe] 46)).below hb' o3; obtain ⟨_, e1, _, e3, _⟩ := hB3.cell7; have ef3 := hB3.frozen 3)
            | (go_simp; go_at_call 31; refine (drawNext gc _ _ hJ4.c (by omega) (by omega)).mono ?_; rintro e u5 ⟨xe, rfl, xe0, xe1, _, hC5, hg5⟩; have xe2 := xe1 (by omega); clear xe1; have hJ5 := hJ4.grown hg5 hC5 o1 o2 o3; have hK5 := grownBy_trans hK4 hg5; obtain ⟨_, d51, _, d53, _⟩ := hJ5.bg.cell7; have hlg' := hJ5.bg.lt; have hnn : ¬ g = u5.heap.size := (by omega); have hO := hJ5.own.alloc (.cells #[.int .i64 nx, .int .i64 xa, .int .i64 xb, .int .i64 xc, .int .i64 tm, .int .i64 (tm + xd), .int .i64 xe] 46); have hsrc := sl_one u5 #[.int .i64 nx, .int .i64 xa, .int .i64 xb, .int .i64 xc, .int .i64 tm, .int .i64 (tm + xd), .int .i64 xe] 46 7 rfl; have hbs : B ≤ (u5.alloc (.cells #[.int .i64 nx, .int .i64 xa, .int .i64 xb, .int .i64 xc, .int .i64 tm, .int .i64 (tm + xd), .int .i64 xe] 46)).heap.size := (by have := hJ5.s; simp; omega); have hone : ∀ u ∈ (#[Value.int .i64 nx, .int .i64 xa, .int .i64 xb, .int .i64 xc, .int .i64 tm, .int .i64 (tm + xd), .int .i64 xe] : Array Value).toList, u.oneCell' = true := (by intro u hu; simp at hu; rcases hu with rfl | rfl | rfl | rfl | rfl | rfl | rfl <;> rfl))
            | (go_simp; go_at_call 31; refine (drawNext gc _ _ hJ3.c (by omega) (by omega)).mono ?_; rintro e u4 ⟨xd, rfl, xd0, xd1, _, hC4, hg4⟩; have xd2 := xd1 (by omega); clear xd1; have hJ4 := hJ3.grown hg4 hC4 o1 o2 o3; have hK4 := grownBy_trans hK3 hg4; obtain ⟨_, d41, _, d43, _⟩ := hJ4.bg.cell7; have iw : IntKind.i64.wrap (tm + xd) = tm + xd := (by rw [IntWalk.i64_left]; exact IntWalk.wrap64_in _ (by omega)))
            | (go_simp; go_at_call 31; refine (drawNext gc _ _ hJ2.c (by omega) (by omega)).mono ?_; rintro e u3 ⟨xc, rfl, xc0, xc1, _, hC3, hg3⟩; have xc2 := xc1 (by omega); clear xc1; have hJ3 := hJ2.grown hg3 hC3 o1 o2 o3; have hK3 := grownBy_trans hK2 hg3; obtain ⟨_, d31, _, d33, _⟩ := hJ3.bg.cell7)
            | (go_simp; go_at_call 31; refine (drawNext gc _ _ hJ1.c (by omega) (by omega)).mono ?_; rintro e u2 ⟨xb, rfl, xb0, xb1, _, hC2, hg2⟩; have xb2 := xb1 (by omega); clear xb1; have hJ2 := hJ1.grown hg2 hC2 o1 o2 o3; have hK2 := grownBy_trans hK1 hg2; obtain ⟨_, d21, _, d23, _⟩ := hJ2.bg.cell7)
            | (go_simp; go_at_call 31; refine (drawNext gc _ _ hJ0.c (by omega) (by omega)).mono ?_; rintro e u1 ⟨xa, rfl, xa0, xa1, _, hC1, hg1⟩; have xa2 := xa1 (by omega); clear xa1; have hJ1 := hJ0.grown hg1 hC1 o1 o2 o3; have hK1 := grownBy_trans hK0 hg1; obtain ⟨_, d11, _, d13, _⟩ := hJ1.bg.cell7))
          all_goals
            go_wp2_with fail
            go_meet
            have hsg : w3.grownBy (w3.setCell ⟨g, 3, none⟩ (.slice (some ⟨g', 0, none⟩) (l.length + 1) cap')) (some g) := grownBy_set (World.grownBy.refl _ _) 3 _
            have hgw : w.heap.size ≤ g := by have := HP.out; omega
            have hbw : Below w.heap.size (u5.alloc (.cells #[.int .i64 nx, .int .i64 xa, .int .i64 xb, .int .i64 xc, .int .i64 tm, .int .i64 (tm + xd), .int .i64 xe] 46)) w3 := hb'.mono (by omega)
            have hG7 : w.grownBy w3 (some gc) := grownBy_below (grownBy_trans hK5 (World.grownBy_alloc _ _ _)) hbw
            have hll : (l ++ [(⟨nx, xa, xb, xc, tm, tm + xd, xe⟩ : Seg)]).length = l.length + 1 := by simp
            have hfl : (l ++ [(⟨nx, xa, xb, xc, tm, tm + xd, xe⟩ : Seg)]).flatMap Seg.vals = l.flatMap Seg.vals ++ [.int .i64 nx, .int .i64 xa, .int .i64 xb, .int .i64 xc, .int .i64 tm, .int .i64 (tm + xd), .int .i64 xe] := by simp [Seg.vals]
            have hC7 : Codes w3 gc := (hJ5.c.alloc _).under hb' (by omega)
            refine ⟨.slice (some ⟨g', 0, none⟩) (l.length + 1) cap', ⟨nx, xa, xb, xc, tm, tm + xd, xe⟩, ⟨?_, ?_, ?_, ?_, ?_⟩, ?_, ?_⟩
            · exact ((hJ5.bp.alloc _).below hb' (by omega)).far (p := ⟨g, 3, none⟩) (by show p ≠ g; omega) _
            · exact hB3.set_ 3 _
            · rw [hll, hfl]; exact own_grown hown' hsg o3
            · exact hC7.grown hsg (by omega)
            · exact Nat.le_trans hbs (Nat.le_trans hb'.size hsg.size)
            · refine keep (HL5.out.push _ rfl ⟨?_, ?_, ?_, ?_, ?_, ?_, ?_, ?_, ?_, ?_, ?_, ?_, ?_⟩) <;> (dsimp only; omega)
            · exact grownBy_below hG7 ((Below.refl _ _).setCell (p := ⟨g, 3, none⟩) hgw _)
        case rest =>
          obtain ⟨v7, s, hI7, HL7, hG7⟩ := hcut
          obtain ⟨w7, rfl⟩ : ∃ w7 : World, w7 = wc := ⟨_, rfl⟩
          obtain ⟨_, c1, _, c3, _⟩ := hI7.bg.cell7
          have cf1 := hI7.bg.frozen 1
          have hll : (l ++ [s]).length = l.length + 1 := by simp
          clear hI6 hG6 HL5
          go_wp2_with fail
          go_roundw
          case rel => exact ⟨n - 1, nx + 1, v7, l ++ [s], by go_num, by omega, by rw [hll]; omega, by omega, by rw [hll]; omega, hI7.setNext _ o1 o2 o3, HL7, grownBy_below hG7 ((Below.refl _ _).setCell (p := ⟨g, 1, none⟩) (by show w.heap.size ≤ g; have := HP.out; omega) _)⟩
          case measure => simp [intOf]; omega
    · have hd : decide (0 < n) = false := by simpa using hpos
      go_wp2_with fail
      refine (drawIntake gc _ hIr.c).mono ?_
      rintro e w4 ⟨vM, vT, lm, lt', rfl, hSM, hST, hma, hta, hml, htl, hmk, htk, hC4, hg4⟩
      have hI4 := hIr.grown hg4 hC4 o1 o2 o3
      have hG4 := grownBy_trans hGr hg4
      obtain ⟨AM, cM, rfl, _, hSM⟩ := hSM.form
      obtain ⟨AT, cT, rfl, _, hST⟩ := hST.form
      obtain ⟨AS, cS, rfl, _, hSv⟩ := (Sl.of_own_btw hI4.own).form
      have hso := hIr.s
      have z0 := hg4.size
      have HM := keep (And.intro hma hmk)
      have HT := keep (And.intro hta htk)
      clear hma hta hmk htk hg4 hIr hGr
      obtain ⟨a0, a1, a2, a3, a4, a5, a6⟩ := hI4.bg.cell7
      have f4 := hI4.bg.frozen 4
      have f5 := hI4.bg.frozen 5
      have hlg := hI4.bg.lt
      obtain ⟨wa, hwa⟩ : ∃ wa, wa = (w4.setCell ⟨g, 4, none⟩ (.slice AM lm.length cM)).setCell ⟨g, 5, none⟩ (.slice AT lt'.length cT) := ⟨_, rfl⟩
      have hsA : w4.grownBy wa (some g) := by rw [hwa]; exact grownBy_set (grownBy_set (World.grownBy.refl _ _) 4 _) 5 _
      have hBa : Blk wa g 28 #[.int .i64 nu, .int .i64 nx, .int .i64 jo, .slice AS l.length cS, .slice AM lm.length cM, .slice AT lt'.length cT, .slice none 0 0] := by rw [hwa]; exact (hI4.bg.set_ 4 _).set_ 5 _
      have hPa : Blk wa p 28 man0 := hI4.bp.grown hsA (fun e => by injection e; omega)
      have hCa : Codes wa gc := hC4.grown hsA (by omega)
      have hpw : w.heap.size ≤ p := by have := HP.out; omega
      have hGa : w.grownBy wa (some gc) := by
        rw [hwa]
        exact grownBy_below hG4 (((Below.refl _ _).setCell (p := ⟨g, 4, none⟩) (by show w.heap.size ≤ g; omega) _).setCell (p := ⟨g, 5, none⟩) (by show w.heap.size ≤ g; omega) _)
      go_upto_region 10 with fail
      rw [← hwa]
      clear hwa
      go_wp2_with fail
      refine (drawTallies gc _ hCa).mono ?_
      rintro e w5 ⟨vE, le, rfl, hSE, hea, hel, hek, hC5, hg5⟩
      obtain ⟨AE, cE, rfl, _, hSE⟩ := hSE.form
      have HE := keep (And.intro hea hek)
      have z1 := hsA.size
      have z2 := hg5.size
      have hBb := hBa.grown hg5 (fun e => by injection e; omega)
      have hPb := hPa.grown hg5 (fun e => by injection e; omega)
      have hGb := grownBy_trans hGa hg5
      clear hea hek
      obtain ⟨b0, b1, b2, b3, b4, b5, b6⟩ := hBb.cell7
      obtain ⟨p0, p1, p2, p3, p4, p5, p6⟩ := hPb.cell7
      have bf6 := hBb.frozen 6
      have pf0 := hPb.frozen 0
      have pf1 := hPb.frozen 1
      have pf2 := hPb.frozen 2
      have pf3 := hPb.frozen 3
      have pf4 := hPb.frozen 4
      have pf5 := hPb.frozen 5
      have pf6 := hPb.frozen 6
      have hlg5 := hBb.lt
      have hlp5 := hPb.lt
      have hne : ¬ g = p := by omega
      have hne2 : ¬ p = g := by omega
      go_wp2_with fail
      obtain ⟨wb, hwb⟩ : ∃ wb, wb = w5.setCell ⟨g, 6, none⟩ (.slice AE le.length cE) := ⟨_, rfl⟩
      have hsB : w5.grownBy wb (some g) := by rw [hwb]; exact grownBy_set (World.grownBy.refl _ _) 6 _
      have hPw : Blk wb p 28 man0 := hPb.grown hsB (fun e => by injection e; omega)
      have hbb : Below w.heap.size w5 wb := by rw [hwb]; exact (Below.refl _ _).setCell (p := ⟨g, 6, none⟩) (by show w.heap.size ≤ g; omega) _
      rw [← hwb]
      obtain ⟨wc, hwc⟩ : ∃ wc, wc = ((((((wb.setCell ⟨p, 0, none⟩ (.int .i64 nu)).setCell ⟨p, 1, none⟩ (.int .i64 nx)).setCell ⟨p, 2, none⟩ (.int .i64 jo)).setCell ⟨p, 3, none⟩ (.slice AS l.length cS)).setCell ⟨p, 4, none⟩ (.slice AM lm.length cM)).setCell ⟨p, 5, none⟩ (.slice AT lt'.length cT)).setCell ⟨p, 6, none⟩ (.slice AE le.length cE) := ⟨_, rfl⟩
      have hsC : wb.grownBy wc (some p) := by rw [hwc]; exact grownBy_set (grownBy_set (grownBy_set (grownBy_set (grownBy_set (grownBy_set (grownBy_set (World.grownBy.refl _ _) 0 _) 1 _) 2 _) 3 _) 4 _) 5 _) 6 _
      have hPc : Blk wc p 28 #[.int .i64 nu, .int .i64 nx, .int .i64 jo, .slice AS l.length cS, .slice AM lm.length cM, .slice AT lt'.length cT, .slice AE le.length cE] := by rw [hwc]; exact ((((((hPw.set_ 0 _).set_ 1 _).set_ 2 _).set_ 3 _).set_ 4 _).set_ 5 _).set_ 6 _
      have hbc : Below w.heap.size wb wc := by
        rw [hwc]
        exact (((((((Below.refl _ _).setCell (p := ⟨p, 0, none⟩) hpw _).setCell (p := ⟨p, 1, none⟩) hpw _).setCell (p := ⟨p, 2, none⟩) hpw _).setCell (p := ⟨p, 3, none⟩) hpw _).setCell (p := ⟨p, 4, none⟩) hpw _).setCell (p := ⟨p, 5, none⟩) hpw _).setCell (p := ⟨p, 6, none⟩) hpw _
      rw [← hwc]
      have z3 := hsB.size
      have z4 := hsC.size
      obtain ⟨y0, y1, y2, y3, y4, y5, y6⟩ := hPc.cell7
      have hSc := ((((hSv.grown hsA (fun b hb => ⟨hb.2, fun e => by injection e; have := hb.1; omega⟩)).grown hg5 (fun b hb => ⟨by have := hb.2; omega, fun e => by injection e; have := hb.1; omega⟩)).grown hsB (fun b hb => ⟨by have := hb.2; omega, fun e => by injection e; have := hb.1; omega⟩)).grown hsC (fun b hb => ⟨by have := hb.2; omega, fun e => by injection e; have := hb.1; omega⟩)).mono (S' := btw w.heap.size wc.heap.size) (fun b hb => ⟨by have := hb.1; omega, by have := hb.2; omega⟩)
      have hMc := ((((hSM.grown hsA (fun b hb => ⟨hb.2, fun e => by injection e; have := hb.1; omega⟩)).grown hg5 (fun b hb => ⟨by have := hb.2; omega, fun e => by injection e; have := hb.1; omega⟩)).grown hsB (fun b hb => ⟨by have := hb.2; omega, fun e => by injection e; have := hb.1; omega⟩)).grown hsC (fun b hb => ⟨by have := hb.2; omega, fun e => by injection e; have := hb.1; omega⟩)).mono (S' := btw w.heap.size wc.heap.size) (fun b hb => ⟨by have := hb.1; omega, by have := hb.2; omega⟩)
      have hTc := ((((hST.grown hsA (fun b hb => ⟨hb.2, fun e => by injection e; have := hb.1; omega⟩)).grown hg5 (fun b hb => ⟨by have := hb.2; omega, fun e => by injection e; have := hb.1; omega⟩)).grown hsB (fun b hb => ⟨by have := hb.2; omega, fun e => by injection e; have := hb.1; omega⟩)).grown hsC (fun b hb => ⟨by have := hb.2; omega, fun e => by injection e; have := hb.1; omega⟩)).mono (S' := btw w.heap.size wc.heap.size) (fun b hb => ⟨by have := hb.1; omega, by have := hb.2; omega⟩)
      have hEc := ((hSE.grown hsB (fun b hb => ⟨by have := hb.2; omega, fun e => by injection e; have := hb.1; omega⟩)).grown hsC (fun b hb => ⟨by have := hb.2; omega, fun e => by injection e; have := hb.1; omega⟩)).mono (S' := btw w.heap.size wc.heap.size) (fun b hb => ⟨by have := hb.1; omega, by have := hb.2; omega⟩)
      have hCc : Codes wc gc := (hC5.grown hsB (by omega)).grown hsC (by omega)
      have hGc : w.grownBy wc (some gc) := grownBy_below (grownBy_below hGb hbb) hbc
      refine bodyPost_ret (v := .agg #[.int .i64 nu, .int .i64 nx, .int .i64 jo, .slice AS l.length cS, .slice AM lm.length cM, .slice AT lt'.length cT, .slice AE le.length cE]) (by simp [results, Try.results13, go_sem, y0, y1, y2, y3, y4, y5, y6]) rfl ?_
      exact ⟨⟨nu, nx, jo, l, lm, lt', le⟩, _, _, _, _, rfl, ⟨hSc, hMc, hTc, hEc⟩, ⟨n0, by show nu ≤ 8; omega, q2, by show nx ≤ 26; omega, j0, by show jo ≤ 4; omega, HL.out, by show l.length ≤ 13; omega, HM.out.1, hml, HM.out.2, HT.out.1, htl, HT.out.2, HE.out.1, hel, HE.out.2⟩, hCc, hGc⟩
end Go.Proofs.Ytkjhnipjhefndaa
