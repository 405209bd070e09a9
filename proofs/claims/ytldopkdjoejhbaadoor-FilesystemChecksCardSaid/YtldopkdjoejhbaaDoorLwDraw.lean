/- The statements' draw: a directory made by changes: any directory that keeps the invariant. -/
import Derived.Test.YtldopkdjoejhbaaDoorMkChg
import Derived.Test.YtldopkdjoejhbaaDoorRfI
import Derived.Test.YtldopkdjoejhbaaDoorRfM
namespace Go.Proofs.YtldopkdjoejhbaaDoor
open Go.RowKit

def DrwOut (w : World) (gc : Nat) (x : Ending) (w' : World) : Prop := ∃ (fs : FS) (vN vF vO : Value), x = .returned (.agg #[vN, vF, vO]) ∧ FsT w' vN vF vO fs ∧ Inv fs ∧ fs.O.length ≤ 3 ∧ Codes w' gc ∧ w.grownBy w' (some gc)
theorem heldP_len {fs : FS} (hi : Inv fs) (is : List Int) : (heldP fs.p.F is).length ≤ is.length := by
  refine nodup_sub _ _ ?_ (fun x hx => ?_)
  · unfold heldP
    refine List.Pairwise.filter _ ?_
    have h := (inos_pos hi).1
    have e : fs.p.F.map (·.ino) = fs.F.map (·.ino) := by
      show (fs.F.map Fi.p).map (·.ino) = _
      rw [List.map_map]; rfl
    rw [e]
    exact h.imp fun h => by omega
  · unfold heldP at hx
    have := (List.mem_filter.1 hx).2
    simpa using this
theorem three_lit (w : World) (x y z : Int) (t : TypeId) : Sl (w.alloc (.cells #[.int .i64 x, .int .i64 y, .int .i64 z] t)) (lt (w.alloc (.cells #[.int .i64 x, .int .i64 y, .int .i64 z] t)).heap.size) 1 (.slice (some ⟨w.heap.size, 0, none⟩) 3 3) 3 (ints [x, y, z]) := by
  refine ⟨rfl, _, 3, rfl, Nat.le_refl _, fun _ => ⟨w.heap.size, 0, rfl, (Blk.new w t #[.int .i64 x, .int .i64 y, .int .i64 z]).lt, fun j u hu => ?_⟩⟩
  rw [Nat.zero_add]
  refine ((Blk.new w t #[.int .i64 x, .int .i64 y, .int .i64 z]).cell j).trans ?_
  simpa [ints] using hu
theorem Gr.fsT {w w' : World} {gc : Nat} {vN vF vO : Value} {fs : FS} (h : FsT w vN vF vO fs) (hC : Codes w gc) (hg : w.grownBy w' (some gc)) : FsT w' vN vF vO fs := by
  obtain ⟨_, _, _, _, _, hb, _⟩ := hC
  exact h.grown hb hg (by decide) (by decide) (by decide) (by decide)
set_option maxHeartbeats 16000000 in
set_option maxRecDepth 100000 in
theorem lawDraw (gc most : Nat) (w : World) (h : Codes w gc) (hm : most ≤ 1000) :
    Calls Tryd.prog 21 #[.pointer (some ⟨gc, 0, none⟩), .int .i64 (most : Int)] w (DrwOut w gc) := by
  have hl := h.lt_
  obtain ⟨W, hW⟩ : ∃ W, W = w.alloc (.cells #[.slice none 0 0, .slice none 0 0, .slice none 0 0] 31) := ⟨_, rfl⟩
  have hb : Below w.heap.size w W := hW ▸ (Below.refl _ w).alloc (Nat.le_refl _) _
  have hZ : Blk W w.heap.size 31 #[.slice none 0 0, .slice none 0 0, .slice none 0 0] := hW ▸ Blk.new w _ _
  have HC := keep (h.under hb hl)
  have HB := keep hb
  have HZ := keep hZ
  clear h hb hZ
  go_enter Tryd.func21, Tryd.ntmps21
  go_wp2_with fail
  rw [← hW]
  clear hW
  refine (refNew_any W).mono ?_
  rintro e w1 ⟨rfl, hb1⟩
  have hz1 := hb1.size
  have hlw : w.heap.size < W.heap.size := HZ.out.lt
  have hal : Below w1.heap.size w1 (w1.alloc (.cells #[.slice none 0 0, .slice none 0 0, .slice none 0 0] 31)) := (Below.refl _ w1).alloc (Nat.le_refl _) _
  have HC1 := keep ((HC.out.under hb1 (by omega)).alloc (.cells #[.slice none 0 0, .slice none 0 0, .slice none 0 0] 31))
  have HZ1 := keep ((HZ.out.below hb1 HZ.out.lt).below hal (by omega))
  have HF1 : Hid (Blk (w1.alloc (.cells #[.slice none 0 0, .slice none 0 0, .slice none 0 0] 31)) w1.heap.size 31 #[.slice none 0 0, .slice none 0 0, .slice none 0 0]) := keep (Blk.new w1 _ _)
  have HG1 := keep (grownBy_of_below (bchain (bchain HB.out hb1) hal) (some gc))
  have HT1 : Hid (FsT (w1.alloc (.cells #[.slice none 0 0, .slice none 0 0, .slice none 0 0] 31)) (.slice none 0 0) (.slice none 0 0) (.slice none 0 0) ⟨[], [], []⟩) := keep ⟨Sl.nil _ _ _ _ _, Sl.nil _ _ _ _ _, Sl.nil _ _ _ _ _, by simp⟩
  obtain ⟨f0, f1, f2⟩ := HF1.out.cell3
  have hgl : w1.heap.size < (w1.alloc (.cells #[.slice none 0 0, .slice none 0 0, .slice none 0 0] 31)).heap.size := HF1.out.lt
  clear hal hb1
  go_upto_region 2 with fail
  generalize w1.alloc (.cells #[.slice none 0 0, .slice none 0 0, .slice none 0 0] 31) = w2 at *
  generalize w1.heap.size = gf at *
  have hcm : (most : Int) ≤ 1000 := by omega
  go_wp2_with fail
  refine (drawNext gc _ _ HC1.out (by omega) (by omega)).mono ?_
  rintro e w3 ⟨n, rfl, n0, n1, _, hC3, hg3⟩
  have n2 := n1 (by omega)
  have hgfc : gc < gf := by omega
  have hgfw : w.heap.size < gf := by omega
  have HF3 := keep (HF1.out.grown hg3 (fun e => by injection e; omega))
  have HZ3 := keep (HZ1.out.grown hg3 (fun e => by injection e; omega))
  have HT3 := keep (Gr.fsT HT1.out HC1.out hg3)
  have HG3 := keep (grownBy_trans HG1.out hg3)
  have HC3 := keep hC3
  have HNN : Hid (n ≤ 1000) := keep (by omega)
  clear hC3 hg3 n1 n2 HF1 HZ1 HT1 HG1 HC1 f0 f1 f2 hgl HZ HC
  go_wp2_with fail
  go_loopw [6] (fun i wr => ∃ (m : Int) (fk : FS) (vN vF vO : Value), i = .int .i64 m ∧ m ≤ 1000 ∧ Hid (Blk wr gf 31 #[vN, vF, vO]) ∧ Hid (FsT wr vN vF vO fk) ∧ Hid (Inv fk) ∧ Hid (fk.O.length ≤ 3) ∧ Hid (Codes wr gc) ∧ Hid (w.grownBy wr (some gc)) ∧ Hid (Blk wr w.heap.size 31 #[.slice none 0 0, .slice none 0 0, .slice none 0 0])) (fun i _ => (intOf i).toNat)
  case atStart => exact ⟨n, ⟨[], [], []⟩, _, _, _, rfl, HNN.out, HF3, HT3, keep Inv.new, keep (by simp), HC3, HG3, HZ3⟩
  case round =>
    obtain ⟨m, fk, vN, vF, vO, rfl, hm1, HFk, HTk, HIk, HOk, HCk, HGk, HZk⟩ := hrel
    obtain ⟨wo, rfl⟩ : ∃ wo : World, wo = wr := ⟨_, rfl⟩
    clear HF3 HT3 HC3 HG3 HZ3 HNN n0
    obtain ⟨B1, d1, rfl, _, _⟩ := HTk.out.n.form
    obtain ⟨B2, d2, rfl, _, _⟩ := HTk.out.f.form
    obtain ⟨B3, d3, rfl, _, _⟩ := HTk.out.o.form
    obtain ⟨f0, f1, f2⟩ := HFk.out.cell3
    by_cases hp : 0 < m
    · have hd : decide (0 < m) = true := by simpa using hp
      have hal : Below wo.heap.size wo wo.drew := (Below.refl _ wo).drew
      have hJ0 : Codes wo.drew gc := HCk.out.under hal HCk.out.lt_
      have HFa := keep (HFk.out.below hal HFk.out.lt)
      have HZa := keep (HZk.out.below hal HZk.out.lt)
      have HTa := keep (HTk.out.up hal)
      have HGa := keep (grownBy_drew HGk.out)
      have hlw2 : gf < wo.heap.size := HFk.out.lt
      clear hal
      go_upto_region 5 with fail
      go_cut [] (fun wd => ∃ (fk : FS) (vN vF vO : Value), Hid (Blk wd gf 31 #[vN, vF, vO]) ∧ Hid (FsT wd vN vF vO fk) ∧ Hid (Inv fk) ∧ Hid (fk.O.length ≤ 3) ∧ Hid (Codes wd gc) ∧ Hid (w.grownBy wd (some gc)) ∧ Hid (Blk wd w.heap.size 31 #[.slice none 0 0, .slice none 0 0, .slice none 0 0]))
      case first =>
        go_region_with (first
          | (go_at_call 24; refine (refDo_any _ _ _ fk ⟨kind, name, dst, .slice CA data.length CC, data, nn⟩ w6 HT6.out HIk.out (by have := HOk.out; omega) hc6.ok).mono ?_; rintro e w7 ⟨fs7, vN7, vF7, vO7, rfl, hT7, hP7, hI7, hO7, hb7⟩
             obtain ⟨E1, g1, rfl, _, _⟩ := hT7.n.form
             obtain ⟨E2, g2, rfl, _, _⟩ := hT7.f.form
             obtain ⟨E3, g3, rfl, _, _⟩ := hT7.o.form
             have HO7 := keep hO7
             clear hO7 hP7
             have hF7 := HF6.out.below hb7 HF6.out.lt
             obtain ⟨q0, q1, q2⟩ := hF7.cell3
             obtain ⟨p0, p1, p2⟩ := hF7.froz3)
          | (go_at_call 22; (with_reducible refine (makeChange gc _ _ hJ1).mono ?_); rintro e w6 ⟨c, rfl, hc6, hC6, hg6⟩
             obtain ⟨CA, CC, hcv, _, _⟩ := Sl.form hc6.r
             obtain ⟨kind, name, dst, dv, data, nn⟩ := c
             simp only at hcv
             subst hcv
             simp only [chV]
             have HF6 := keep (HF5.out.grown hg6 (fun e => by injection e; omega))
             have HZ6 := keep (HZ5.out.grown hg6 (fun e => by injection e; omega))
             have HT6 := keep (Gr.fsT HT5.out hJ1 hg6)
             have HG6 := keep (grownBy_trans HG5.out hg6)
             obtain ⟨l0, l1, l2⟩ := HF6.out.cell3)
          | (go_at_call 17; (with_reducible refine (drawNext gc 256 _ hJ0 (by omega) (by omega)).mono ?_); rintro e w5 ⟨r, rfl, r0, r1, _, hJ1, hg5⟩
             have HF5 := keep (HFa.out.grown hg5 (fun e => by injection e; omega))
             have HZ5 := keep (HZa.out.grown hg5 (fun e => by injection e; omega))
             have HT5 := keep (Gr.fsT HTa.out hJ0 hg5)
             have HG5 := keep (grownBy_trans HGa.out hg5)
             obtain ⟨k0, k1, k2⟩ := HF5.out.cell3)
          | fail)
        all_goals
          have hgr := grown_three w7 gf (.slice E1 fs7.N.length g1) (.slice E2 fs7.F.length g2) (.slice E3 fs7.O.length g3)
          have HF8 := keep (hF7.three (.slice E1 fs7.N.length g1) (.slice E2 fs7.F.length g2) (.slice E3 fs7.O.length g3))
          have HT8 := keep (hT7.grown hF7 hgr (by decide) (by decide) (by decide) (by decide))
          have HZ8 := keep ((HZ6.out.below hb7 HZ6.out.lt).grown hgr (fun e => by injection e; omega))
          have HC8 := keep ((hC6.under hb7 hC6.lt_).grown hgr (by omega))
          have hz7 : w.heap.size ≤ w6.heap.size := HG6.out.size
          have HG8 := keep (grownBy_below (grownBy_trans HG6.out (grownBy_of_below hb7 _)) (below_three (g := gf) (Below.refl w.heap.size w7) (by omega) (.slice E1 fs7.N.length g1) (.slice E2 fs7.F.length g2) (.slice E3 fs7.O.length g3)))
          have HI8 := keep hI7
          have HO8 : Hid (fs7.O.length ≤ 3) := keep (by rw [HO7.out]; exact HOk.out)
          have HJ0 := keep hJ0
          have HJ1 := keep hJ1
          clear hgr hF7 hT7 hI7 hb7 hC6 hc6 hg6 hg5 hJ0 hJ1 r1
          go_wp2_with fail
          go_meet
          case rel => exact ⟨fs7, _, _, _, HF8, HT8, HI8, HO8, HC8, HG8, HZ8⟩
      case rest =>
        clear f0 f1 f2 hJ0 HFa HZa HTa HGa HFk HTk HIk HOk HCk HGk HZk
        obtain ⟨fk, vN, vF, vO, HFk, HTk, HIk, HOk, HCk, HGk, HZk⟩ := hcut
        obtain ⟨wv, rfl⟩ : ∃ wv : World, wv = wc := ⟨_, rfl⟩
        go_wp2_with fail
        refine (drawNext gc 5 _ HCk.out (by omega) (by omega)).mono ?_
        rintro e wt ⟨r, rfl, r0, r1, _, hCt, hgt⟩
        have HFt := keep (HFk.out.grown hgt (fun e => by injection e; omega))
        have HZt := keep (HZk.out.grown hgt (fun e => by injection e; omega))
        have HTt := keep (Gr.fsT HTk.out HCk.out hgt)
        have HGt := keep (grownBy_trans HGk.out hgt)
        have HCt := keep hCt
        have hlt : gf < wt.heap.size := HFt.out.lt
        clear hCt hgt r1 HFk HTk HCk HGk HZk
        by_cases h4 : r = 4
        · subst h4
          obtain ⟨C1, e1, rfl, _, _⟩ := HTt.out.n.form
          obtain ⟨C2, e2, rfl, _, _⟩ := HTt.out.f.form
          obtain ⟨C3, e3, rfl, _, _⟩ := HTt.out.o.form
          obtain ⟨f0, f1, f2⟩ := HFt.out.cell3
          have hal : Below wt.heap.size wt wt.drew := (Below.refl _ wt).drew
          have hJ0 : Codes wt.drew gc := HCt.out.under hal HCt.out.lt_
          have HFa := keep (HFt.out.below hal HFt.out.lt)
          have HZa := keep (HZt.out.below hal HZt.out.lt)
          have HTa := keep (HTt.out.up hal)
          have HGa := keep (grownBy_drew HGt.out)
          clear hal
          go_upto_region 7 with fail
          go_region_with (first
            | (go_at_call 36; refine (refHold_any _ _ _ (.slice (some ⟨w6.heap.size, 0, none⟩) 3 3) fk [1 + r, 1 + q, 2] _ HT6.out HIk.out (by have := HOk.out; omega) (three_lit w6 (1 + r) (1 + q) 2 3) (by simp)).mono ?_; rintro e w7 ⟨fs7, vN7, vF7, vO7, rfl, hT7, hP7, hI7, hO7, hb7⟩
               obtain ⟨E1, g1, rfl, _, _⟩ := hT7.n.form
               obtain ⟨E2, g2, rfl, _, _⟩ := hT7.f.form
               obtain ⟨E3, g3, rfl, _, _⟩ := hT7.o.form
               have hO8 : fs7.O.length ≤ 3 := by
                 have h1 : fs7.O = heldP fk.p.F [1 + r, 1 + q, 2] := congrArg PD.O hP7
                 rw [h1]
                 exact heldP_len HIk.out _
               clear hO7 hP7
               have hF7 := HF6.out.below hb7 HF6.out.lt
               obtain ⟨y0, y1, y2⟩ := hF7.cell3
               obtain ⟨p0, p1, p2⟩ := hF7.froz3)
            | (go_at_call 17; (with_reducible refine (drawNext gc 5 _ hJ1 (by omega) (by omega)).mono ?_); rintro e w6 ⟨q, rfl, q0, q1, _, hJ2, hg6⟩
               have q2 := q1 (by omega)
               have hw6 : IntKind.i64.wrap (1 + q) = 1 + q := IntWalk.i64_in _ (by omega)
               have hF6 := HF5.out.grown hg6 (fun e => by injection e; omega)
               have HZ6 := keep (HZ5.out.grown hg6 (fun e => by injection e; omega))
               have HG6 := keep (grownBy_trans HG5.out hg6)
               have hal6 : Below w6.heap.size w6 (w6.alloc (.cells #[.int .i64 (1 + r), .int .i64 (1 + q), .int .i64 2] 3)) := (Below.refl _ w6).alloc (Nat.le_refl _) _
               have HT6 := keep ((Gr.fsT HT5.out hJ1 hg6).up hal6)
               have HF6 := keep (hF6.below hal6 hF6.lt)
               have HC6 := keep (hJ2.under hal6 hJ2.lt_)
               have hlF := hF6.lt
               have HBL := keep hal6
               obtain ⟨l0, l1, l2⟩ := hF6.cell3
               obtain ⟨v0, v1, v2⟩ := HF6.out.cell3
               clear hal6 hF6 q1 hg6)
            | (go_at_call 17; (with_reducible refine (drawNext gc 3 _ hJ0 (by omega) (by omega)).mono ?_); rintro e w5 ⟨r, rfl, r0, r1, _, hJ1, hg5⟩
               have r2 := r1 (by omega)
               have hw5 : IntKind.i64.wrap (1 + r) = 1 + r := IntWalk.i64_in _ (by omega)
               have HF5 := keep (HFa.out.grown hg5 (fun e => by injection e; omega))
               have HZ5 := keep (HZa.out.grown hg5 (fun e => by injection e; omega))
               have HT5 := keep (Gr.fsT HTa.out hJ0 hg5)
               have HG5 := keep (grownBy_trans HGa.out hg5)
               obtain ⟨k0, k1, k2⟩ := HF5.out.cell3
               clear r1 hg5)
            | fail)
          all_goals
            have hgr := grown_three w7 gf (.slice E1 fs7.N.length g1) (.slice E2 fs7.F.length g2) (.slice E3 fs7.O.length g3)
            have HF8 := keep (hF7.three (.slice E1 fs7.N.length g1) (.slice E2 fs7.F.length g2) (.slice E3 fs7.O.length g3))
            have HT8 := keep (hT7.grown hF7 hgr (by decide) (by decide) (by decide) (by decide))
            have HZ8 := keep (((HZ6.out.below HBL.out HZ6.out.lt).below hb7 (Nat.lt_of_lt_of_le HZ6.out.lt HBL.out.size)).grown hgr (fun e => by injection e; omega))
            have HC8 := keep ((HC6.out.under hb7 HC6.out.lt_).grown hgr (by omega))
            have hz7 : w.heap.size ≤ w6.heap.size := HG6.out.size
            have HG8 := keep (grownBy_below (grownBy_trans (grownBy_trans HG6.out (grownBy_of_below HBL.out _)) (grownBy_of_below hb7 _)) (below_three (g := gf) (Below.refl w.heap.size w7) (by omega) (.slice E1 fs7.N.length g1) (.slice E2 fs7.F.length g2) (.slice E3 fs7.O.length g3)))
            have HI8 := keep hI7
            have HO8 := keep hO8
            have HJ0 := keep hJ0
            have HJ1 := keep hJ1
            have HJ2 := keep hJ2
            clear hgr hF7 hT7 hI7 hO8 hb7 hJ0 hJ1 hJ2
            go_wp2_with fail
            go_roundw
            case rel => exact ⟨m - 1, fs7, _, _, _, by go_num, by omega, HF8, HT8, HI8, HO8, HC8, HG8, HZ8⟩
            case measure => simp [intOf]; omega
        · have h4' : (r == 4) = false := by simpa using h4
          go_wp2_with fail
          go_roundw
          case rel => exact ⟨m - 1, fk, _, _, _, by go_num, by omega, HFt, HTt, HIk, HOk, HCt, HGt, HZt⟩
          case measure => simp [intOf]; omega
    · have hd : decide (0 < m) = false := by simpa using hp
      obtain ⟨z0, z1, z2⟩ := HZk.out.cell3
      obtain ⟨g0, g1, g2⟩ := HZk.out.froz3
      have hlz := HZk.out.lt
      go_wp2_with fail
      refine bodyPost_ret (results_cell_row rfl _ _ w.heap.size _ _ _ _ rfl (HZk.out.three _ _ _) Tryd.underlying31 rfl (by kernel_rfl)) rfl ?_
      have hbl := below_three (Below.refl w.heap.size wo) (Nat.le_refl _) (.slice B1 fk.N.length d1) (.slice B2 fk.F.length d2) (.slice B3 fk.O.length d3)
      exact ⟨fk, _, _, _, rfl, HTk.out.grown HZk.out (grown_three _ _ _ _ _) (by decide) (by decide) (by decide) (by decide), HIk.out, HOk.out, HCk.out.under hbl hl, grownBy_below HGk.out hbl⟩
end Go.Proofs.YtldopkdjoejhbaaDoor
