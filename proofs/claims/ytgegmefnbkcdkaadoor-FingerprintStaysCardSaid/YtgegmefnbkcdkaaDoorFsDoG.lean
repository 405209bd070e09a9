/- Do: a change of a right kind. -/
import Derived.Test.YtgegmefnbkcdkaaDoorFsDo
namespace Go.Proofs.YtgegmefnbkcdkaaDoor
open Go.RowKit
/-- Are the names of a change wrong? -/
def badNm (c : Ch) : Bool := !vld c.name || ((c.kind == 4 || c.kind == 5) && !vld c.dst)
theorem Blk.cell3 {w : World} {g : Nat} {t : TypeId} {a b c : Value} (h : Blk w g t #[a, b, c]) : w.cell? ⟨g, 0, none⟩ = some a ∧ w.cell? ⟨g, 1, none⟩ = some b ∧ w.cell? ⟨g, 2, none⟩ = some c := ⟨(h.cell 0).trans rfl, (h.cell 1).trans rfl, (h.cell 2).trans rfl⟩
theorem Blk.froz3 {w : World} {g : Nat} {t : TypeId} {cs : Array Value} (h : Blk w g t cs) : w.frozen? ⟨g, 0, none⟩ = false ∧ w.frozen? ⟨g, 1, none⟩ = false ∧ w.frozen? ⟨g, 2, none⟩ = false := ⟨h.frozen 0, h.frozen 1, h.frozen 2⟩
/-- Three cells of a box are written. -/
theorem Blk.three {w : World} {g : Nat} {t : TypeId} {a0 a1 a2 : Value} (h : Blk w g t #[a0, a1, a2]) (b0 b1 b2 : Value) :
    Blk (((w.setCell ⟨g, 0, none⟩ b0).setCell ⟨g, 1, none⟩ b1).setCell ⟨g, 2, none⟩ b2) g t #[b0, b1, b2] := ((h.set_ 0 b0).set_ 1 b1).set_ 2 b2
theorem below_three {B g : Nat} {a w : World} (h : Below B a w) (hg : B ≤ g) (b0 b1 b2 : Value) :
    Below B a (((w.setCell ⟨g, 0, none⟩ b0).setCell ⟨g, 1, none⟩ b1).setCell ⟨g, 2, none⟩ b2) :=
  ((h.setCell (p := ⟨g, 0, none⟩) hg b0).setCell (p := ⟨g, 1, none⟩) hg b1).setCell (p := ⟨g, 2, none⟩) hg b2
theorem grown_three (w : World) (g : Nat) (b0 b1 b2 : Value) :
    w.grownBy (((w.setCell ⟨g, 0, none⟩ b0).setCell ⟨g, 1, none⟩ b1).setCell ⟨g, 2, none⟩ b2) (some g) :=
  grownBy_set (grownBy_set (grownBy_set (World.grownBy.refl w _) 0 b0) 1 b1) 2 b2
theorem badNm_yes {c : Ch} (h : badNm c = true) : vld c.name = false ∨ ((c.kind = 4 ∨ c.kind = 5) ∧ vld c.dst = false) := by
  unfold badNm at h
  simpa using h
theorem badNm_no {c : Ch} (h : badNm c = false) : vld c.name = true ∧ ((c.kind = 4 ∨ c.kind = 5) → vld c.dst = true) := by
  unfold badNm at h
  simp only [Bool.or_eq_false_iff, Bool.not_eq_false', Bool.and_eq_false_iff, beq_eq_false_iff_ne, ne_eq] at h
  refine ⟨h.1, fun hk => ?_⟩
  rcases h.2 with h2 | h2
  · rcases hk with h3 | h3
    · exact absurd h3 h2.1
    · exact absurd h3 h2.2
  · exact h2
set_option maxHeartbeats 8000000 in
set_option maxRecDepth 100000 in
theorem do_good (vN vF vO : Value) (fs : FS) (c : Ch) (w : World) (h : FsT w vN vF vO fs) (hi : DInv fs) (hc : BR w c.dv c.data) (hcl : c.data.length ≤ 1000000) (hcn : c.n ≤ 9223372036854775807) (hs1 : c.name.size ≤ 9223372036854775807) (hs2 : c.dst.size ≤ 9223372036854775807) (hg : Chg w) (hk : 1 ≤ c.kind ∧ c.kind ≤ 8) :
    Calls Tryd.prog 15 #[.agg #[vN, vF, vO], .agg (chV c)] w (DoRes fs c w) := by
  obtain ⟨A1, c1, rfl, _, _⟩ := h.n.form
  obtain ⟨A2, c2, rfl, _, _⟩ := h.f.form
  obtain ⟨A3, c3, rfl, _, _⟩ := h.o.form
  obtain ⟨A, cc, hv, _, _⟩ := Sl.form hc
  obtain ⟨kind, name, dst, dv, data, n⟩ := c
  simp only at hv hk hcl hcn hs1 hs2
  subst hv
  simp only [chV]
  obtain ⟨W, hW⟩ : ∃ W, W = (((w.alloc (.cells #[.slice A1 fs.N.length c1, .slice A2 fs.F.length c2, .slice A3 fs.O.length c3] 33)).alloc (.cells #[.int .i64 kind, .string name, .string dst, .slice A data.length cc, .int .i64 n] 39)).alloc (.cells #[.slice none 0 0, .slice none 0 0, .slice none 0 0] 33)) := ⟨_, rfl⟩
  have hb : Below w.heap.size w W := hW ▸ (((Below.refl _ w).alloc (Nat.le_refl _) _).alloc (by simp) _).alloc (by simp; omega) _
  have hF : Blk W w.heap.size 33 #[.slice A1 fs.N.length c1, .slice A2 fs.F.length c2, .slice A3 fs.O.length c3] := hW ▸ ((Blk.new w _ _).alloc _).alloc _
  have hX : Blk W (w.heap.size + 1) 39 #[.int .i64 kind, .string name, .string dst, .slice A data.length cc, .int .i64 n] := hW ▸ (Blk.new_at (by simp)).alloc _
  have hZ : Blk W (w.heap.size + 1 + 1) 33 #[.slice none 0 0, .slice none 0 0, .slice none 0 0] := hW ▸ Blk.new_at (by simp)
  have HH0 := keep h
  have HH := keep (h.up hb)
  have HC := keep (hc.up hb)
  have HG := keep (hg.up hb)
  have HB := keep hb
  have HF := keep hF
  have HX := keep hX
  have HZ := keep hZ
  have HI := keep hi
  obtain ⟨x0, x1, x2, x3, x4⟩ := hX.cell5
  clear h hc hg hb hF hX hZ hi x3 x4
  have d1 : decide (kind < 1) = false := decide_eq_false (by omega)
  have d2 : decide (8 < kind) = false := decide_eq_false (by omega)
  go_enter Tryd.func15, Tryd.ntmps15
  go_upto_region 3 with (fail)
  rw [← hW]
  clear hW
  go_cut [36] (fun q wd => q = .bool (badNm ⟨kind, name, dst, .slice A data.length cc, data, n⟩) ∧ Below W.heap.size W wd)
  case first =>
    go_wp2_with fail
    refine (valid_any name _ hs1).mono ?_
    rintro e w1 ⟨rfl, hb1⟩
    have y0 := (bcell hb1).1 (w.heap.size + 1) 0 HX.out.lt
    have y2 := (bcell hb1).1 (w.heap.size + 1) 2 HX.out.lt
    rw [x0] at y0
    rw [x2] at y2
    have HB1 := keep hb1
    clear x0 x1 x2 hb1
    cases hv1 : vld name with
    | false =>
      have HV1 := keep hv1
      clear hv1
      go_wp2_with fail
      go_meet
      case rel => exact ⟨by unfold badNm; rw [HV1.out]; rfl, HB1.out⟩
    | true =>
      have HV1 := keep hv1
      clear hv1
      by_cases h45 : kind = 4 ∨ kind = 5
      · have hE : (kind == 4 || kind == 5) = true := by
          rcases h45 with h | h
          · rw [h]; rfl
          · rw [h]; rfl
        have HE := keep hE
        clear hE
        rcases h45 with rfl | rfl
        all_goals
          go_wp2_with fail
          refine (valid_any dst _ hs2).mono ?_
          rintro e w2 ⟨rfl, hb2⟩
          obtain ⟨q, hq⟩ : ∃ q, vld dst = q := ⟨_, rfl⟩
          rw [hq]
          have HQ := keep hq
          have HB2 := keep (bchain HB1.out hb2)
          clear hb2 hq
          cases q
          all_goals
            go_wp2_with fail
            go_meet
            case rel => exact ⟨by unfold badNm; rw [HV1.out, HQ.out]; rfl, HB2.out⟩
      · have n4 : (kind == 4) = false := beq_eq_false_iff_ne.2 (fun e => h45 (.inl e))
        have n5 : (kind == 5) = false := beq_eq_false_iff_ne.2 (fun e => h45 (.inr e))
        have hE : (kind == 4 || kind == 5) = false := by rw [n4, n5]; rfl
        have HE := keep hE
        clear hE h45
        go_wp2_with fail
        go_meet
        case rel => exact ⟨by unfold badNm; rw [HV1.out, HE.out]; rfl, HB1.out⟩
  case rest =>
    obtain ⟨rfl, hb3⟩ := hcut
    obtain ⟨wv, rfl⟩ : ∃ wv : World, wv = wc := ⟨_, rfl⟩
    obtain ⟨bq, hbq⟩ : ∃ q, badNm ⟨kind, name, dst, .slice A data.length cc, data, n⟩ = q := ⟨_, rfl⟩
    rw [hbq]
    have hF3 := HF.out.below hb3 HF.out.lt
    have hX3 := HX.out.below hb3 HX.out.lt
    have hZ3 := HZ.out.below hb3 HZ.out.lt
    have hH3 := HH.out.up hb3
    have hC3 := HC.out.up hb3
    have hG3 := HG.out.up hb3
    have hB3 := bchain HB.out hb3
    have HBQ := keep hbq
    have HF3 := keep hF3
    have HX3 := keep hX3
    have HZ3 := keep hZ3
    have HH3 := keep hH3
    have HC3 := keep hC3
    have HG3 := keep hG3
    have HB3 := keep hB3
    obtain ⟨f0, f1, f2⟩ := hF3.cell3
    obtain ⟨z0, z1, z2⟩ := hZ3.cell3
    obtain ⟨g0, g1, g2⟩ := hZ3.froz3
    have hzlt : w.heap.size + 1 + 1 < wv.heap.size := hZ3.lt
    clear hbq hF3 hX3 hZ3 hH3 hC3 hG3 hB3 hb3 x0 x1 x2
    cases bq with
    | true =>
      go_wp2_with fail
      refine bodyPost_ret (results_cell_row_tmp rfl _ _ (w.heap.size + 1 + 1) _ _ _ _ rfl (HZ3.out.three _ _ _) Tryd.underlying33 rfl (by kernel_rfl)) rfl ?_
      have hbz : Below w.heap.size w (((wv.setCell ⟨w.heap.size + 1 + 1, 0, none⟩ (.slice A1 fs.N.length c1)).setCell ⟨w.heap.size + 1 + 1, 1, none⟩ (.slice A2 fs.F.length c2)).setCell ⟨w.heap.size + 1 + 1, 2, none⟩ (.slice A3 fs.O.length c3)) := below_three HB3.out (by omega) _ _ _
      exact ⟨6, fs, _, _, _, rfl, HH0.out.up hbz, .inr ⟨hk, .inl ⟨badNm_yes HBQ.out, rfl, rfl⟩⟩, hbz⟩
    | false =>
      go_wp2_with fail
      refine (clone_any _ _ _ fs wv HH3.out.r HI.out.small).mono ?_
      rintro e w4 ⟨gd, rfl, hD4, hb4⟩
      have hF4 := HF3.out.below hb4 HF3.out.lt
      have hX4 := HX3.out.below hb4 HX3.out.lt
      have hZ4 := HZ3.out.below hb4 HZ3.out.lt
      have HWD := keep (Below.drew (Below.refl wv.heap.size w4))
      have HG5 := keep (HG3.out.up hb4)
      have hg0 : 0 < wv.heap.size := HG3.out.lt
      have hx0 : w.heap.size + 1 < wv.heap.size := by omega
      have HM := keep (met_any gd wv.heap.size fs ⟨kind, name, dst, .slice A data.length cc, data, n⟩ w4.drew hk hb4.size (hD4.up (Below.refl _ w4).drew) HI.out ((HC3.out.up hb4).up (Below.refl _ w4).drew) hcl hcn)
      obtain ⟨y0, y1, y2, y3, y4⟩ := hX4.cell5
      have HF4 := keep hF4
      have HX4 := keep hX4
      have HZ4 := keep hZ4
      have HB4 := keep (bchain HB3.out hb4)
      have hz4 := hb4.size
      clear hF4 hX4 hZ4 hb4 hD4 f0 f1 f2 z0 z1 z2 g0 g1 g2
      go_wp2_with fail
      go_cut [7] (fun v wd => ∃ (e5 : Int) (fs5 : FS), v = .int .i64 e5 ∧ Hid (MetSt fs ⟨kind, name, dst, .slice A data.length cc, data, n⟩ e5 fs5) ∧ Hid (Dir wd wv.heap.size gd fs5) ∧ Hid (Below wv.heap.size w4 wd))
      case first =>
        have hkk : kind = 1 ∨ kind = 2 ∨ kind = 3 ∨ kind = 4 ∨ kind = 5 ∨ kind = 6 ∨ kind = 7 ∨ kind = 8 := by omega
        clear d1 d2 HBQ HC HC3 HX HX3 HX4 hk
        rcases hkk with rfl | rfl | rfl | rfl | rfl | rfl | rfl | rfl
        · have hM : Calls Tryd.prog 79 #[.pointer (some ⟨gd, 0, none⟩), .agg #[.int .i64 1, .string name, .string dst, .slice A data.length cc, .int .i64 n]] w4.drew (MetOut wv.heap.size gd fs ⟨1, name, dst, .slice A data.length cc, data, n⟩ w4.drew) := HM.out
          have HMM := keep hM
          have t0 := HG5.out.c1
          clear hM HM
          go_region_held3 (Held wv.heap.size w4) (first | (with_reducible exact Held.start _ _) | (with_reducible assumption)) ((go_at_call 79; (with_reducible refine HMM.out.mono ?_); rintro e w5 ⟨e5, fs5, hst, rfl, hD5, hb5⟩; have hh5 : Held wv.heap.size w4 w5 := Held.of_below (HWD.out.trans hb5)))
          go_wp2_with fail
          go_meet
          case rel => exact ⟨e5, fs5, rfl, keep hst, keep hD5, keep (HWD.out.trans (hb5.mono (Nat.le_refl _)))⟩
        · have hM : Calls Tryd.prog 80 #[.pointer (some ⟨gd, 0, none⟩), .agg #[.int .i64 2, .string name, .string dst, .slice A data.length cc, .int .i64 n]] w4.drew (MetOut wv.heap.size gd fs ⟨2, name, dst, .slice A data.length cc, data, n⟩ w4.drew) := HM.out
          have HMM := keep hM
          have t0 := HG5.out.c2
          clear hM HM
          go_region_held3 (Held wv.heap.size w4) (first | (with_reducible exact Held.start _ _) | (with_reducible assumption)) ((go_at_call 80; (with_reducible refine HMM.out.mono ?_); rintro e w5 ⟨e5, fs5, hst, rfl, hD5, hb5⟩; have hh5 : Held wv.heap.size w4 w5 := Held.of_below (HWD.out.trans hb5)))
          go_wp2_with fail
          go_meet
          case rel => exact ⟨e5, fs5, rfl, keep hst, keep hD5, keep (HWD.out.trans (hb5.mono (Nat.le_refl _)))⟩
        · have hM : Calls Tryd.prog 81 #[.pointer (some ⟨gd, 0, none⟩), .agg #[.int .i64 3, .string name, .string dst, .slice A data.length cc, .int .i64 n]] w4.drew (MetOut wv.heap.size gd fs ⟨3, name, dst, .slice A data.length cc, data, n⟩ w4.drew) := HM.out
          have HMM := keep hM
          have t0 := HG5.out.c3
          clear hM HM
          go_region_held3 (Held wv.heap.size w4) (first | (with_reducible exact Held.start _ _) | (with_reducible assumption)) ((go_at_call 81; (with_reducible refine HMM.out.mono ?_); rintro e w5 ⟨e5, fs5, hst, rfl, hD5, hb5⟩; have hh5 : Held wv.heap.size w4 w5 := Held.of_below (HWD.out.trans hb5)))
          go_wp2_with fail
          go_meet
          case rel => exact ⟨e5, fs5, rfl, keep hst, keep hD5, keep (HWD.out.trans (hb5.mono (Nat.le_refl _)))⟩
        · have hM : Calls Tryd.prog 82 #[.pointer (some ⟨gd, 0, none⟩), .agg #[.int .i64 4, .string name, .string dst, .slice A data.length cc, .int .i64 n]] w4.drew (MetOut wv.heap.size gd fs ⟨4, name, dst, .slice A data.length cc, data, n⟩ w4.drew) := HM.out
          have HMM := keep hM
          have t0 := HG5.out.c4
          clear hM HM
          go_region_held3 (Held wv.heap.size w4) (first | (with_reducible exact Held.start _ _) | (with_reducible assumption)) ((go_at_call 82; (with_reducible refine HMM.out.mono ?_); rintro e w5 ⟨e5, fs5, hst, rfl, hD5, hb5⟩; have hh5 : Held wv.heap.size w4 w5 := Held.of_below (HWD.out.trans hb5)))
          go_wp2_with fail
          go_meet
          case rel => exact ⟨e5, fs5, rfl, keep hst, keep hD5, keep (HWD.out.trans (hb5.mono (Nat.le_refl _)))⟩
        · have hM : Calls Tryd.prog 83 #[.pointer (some ⟨gd, 0, none⟩), .agg #[.int .i64 5, .string name, .string dst, .slice A data.length cc, .int .i64 n]] w4.drew (MetOut wv.heap.size gd fs ⟨5, name, dst, .slice A data.length cc, data, n⟩ w4.drew) := HM.out
          have HMM := keep hM
          have t0 := HG5.out.c5
          clear hM HM
          go_region_held3 (Held wv.heap.size w4) (first | (with_reducible exact Held.start _ _) | (with_reducible assumption)) ((go_at_call 83; (with_reducible refine HMM.out.mono ?_); rintro e w5 ⟨e5, fs5, hst, rfl, hD5, hb5⟩; have hh5 : Held wv.heap.size w4 w5 := Held.of_below (HWD.out.trans hb5)))
          go_wp2_with fail
          go_meet
          case rel => exact ⟨e5, fs5, rfl, keep hst, keep hD5, keep (HWD.out.trans (hb5.mono (Nat.le_refl _)))⟩
        · have hM : Calls Tryd.prog 84 #[.pointer (some ⟨gd, 0, none⟩), .agg #[.int .i64 6, .string name, .string dst, .slice A data.length cc, .int .i64 n]] w4.drew (MetOut wv.heap.size gd fs ⟨6, name, dst, .slice A data.length cc, data, n⟩ w4.drew) := HM.out
          have HMM := keep hM
          have t0 := HG5.out.c6
          clear hM HM
          go_region_held3 (Held wv.heap.size w4) (first | (with_reducible exact Held.start _ _) | (with_reducible assumption)) ((go_at_call 84; (with_reducible refine HMM.out.mono ?_); rintro e w5 ⟨e5, fs5, hst, rfl, hD5, hb5⟩; have hh5 : Held wv.heap.size w4 w5 := Held.of_below (HWD.out.trans hb5)))
          go_wp2_with fail
          go_meet
          case rel => exact ⟨e5, fs5, rfl, keep hst, keep hD5, keep (HWD.out.trans (hb5.mono (Nat.le_refl _)))⟩
        · have hM : Calls Tryd.prog 85 #[.pointer (some ⟨gd, 0, none⟩), .agg #[.int .i64 7, .string name, .string dst, .slice A data.length cc, .int .i64 n]] w4.drew (MetOut wv.heap.size gd fs ⟨7, name, dst, .slice A data.length cc, data, n⟩ w4.drew) := HM.out
          have HMM := keep hM
          have t0 := HG5.out.c7
          clear hM HM
          go_region_held3 (Held wv.heap.size w4) (first | (with_reducible exact Held.start _ _) | (with_reducible assumption)) ((go_at_call 85; (with_reducible refine HMM.out.mono ?_); rintro e w5 ⟨e5, fs5, hst, rfl, hD5, hb5⟩; have hh5 : Held wv.heap.size w4 w5 := Held.of_below (HWD.out.trans hb5)))
          go_wp2_with fail
          go_meet
          case rel => exact ⟨e5, fs5, rfl, keep hst, keep hD5, keep (HWD.out.trans (hb5.mono (Nat.le_refl _)))⟩
        · have hM : Calls Tryd.prog 86 #[.pointer (some ⟨gd, 0, none⟩), .agg #[.int .i64 8, .string name, .string dst, .slice A data.length cc, .int .i64 n]] w4.drew (MetOut wv.heap.size gd fs ⟨8, name, dst, .slice A data.length cc, data, n⟩ w4.drew) := HM.out
          have HMM := keep hM
          have t0 := HG5.out.c8
          clear hM HM
          go_region_held3 (Held wv.heap.size w4) (first | (with_reducible exact Held.start _ _) | (with_reducible assumption)) ((go_at_call 86; (with_reducible refine HMM.out.mono ?_); rintro e w5 ⟨e5, fs5, hst, rfl, hD5, hb5⟩; have hh5 : Held wv.heap.size w4 w5 := Held.of_below (HWD.out.trans hb5)))
          go_wp2_with fail
          go_meet
          case rel => exact ⟨e5, fs5, rfl, keep hst, keep hD5, keep (HWD.out.trans (hb5.mono (Nat.le_refl _)))⟩
      case rest =>
        obtain ⟨e5, fs5, rfl, HST, HD5, HB5⟩ := hcut
        have hF5 := HF4.out.below HB5.out (Nat.lt_of_lt_of_le HF3.out.lt (Nat.le_refl _))
        have hZ5 := HZ4.out.below HB5.out hzlt
        have hB5 : Below w.heap.size w wc := HB4.out.trans (HB5.out.mono HB3.out.size)
        by_cases he : e5 = 0
        · subst he
          have HSM := keep (HST.out.small HI.out)
          have HZ5 := keep hZ5
          have HBB5 := keep hB5
          have hz5 : wv.heap.size ≤ wc.heap.size := Nat.le_trans hz4 HB5.out.size
          clear hF5 hZ5 hB5 y0 y1 y2 y3 y4
          go_wp2_with fail
          refine (purge_any gd wv.heap.size fs5 wc hz5 HD5.out HSM.out).mono ?_
          rintro e w6 ⟨rfl, hD6, hb6, _⟩
          have hZ6 := HZ5.out.below hb6 hzlt
          have hB6 : Below w.heap.size w w6 := HBB5.out.trans (hb6.mono HB3.out.size)
          obtain ⟨_, vN6, vF6, vO6, hBk6, hO6⟩ := hD6
          obtain ⟨_, _, rfl, _⟩ := own_sl hO6.n
          obtain ⟨_, _, rfl, _⟩ := own_sl hO6.f
          obtain ⟨_, _, rfl, _⟩ := own_sl hO6.o
          obtain ⟨q0, q1, q2⟩ := hBk6.cell3
          obtain ⟨z0, z1, z2⟩ := hZ6.cell3
          obtain ⟨g0, g1, g2⟩ := hZ6.froz3
          have HZ6 := keep hZ6
          have HB6 := keep hB6
          have HO6 := keep hO6
          clear hZ6 hB6 hO6 hb6 hBk6
          go_wp2_with fail
          refine bodyPost_ret (results_cell_row_tmp rfl _ _ (w.heap.size + 1 + 1) _ _ _ _ rfl (HZ6.out.three _ _ _) Tryd.underlying33 rfl (by kernel_rfl)) rfl ?_
          exact ⟨0, purged fs5, _, _, _, rfl, FsT.grown HO6.out.t HZ6.out (grown_three _ _ _ _ _) (by decide) (by decide) (by decide) (by decide), .inr ⟨hk, .inr ⟨badNm_no HBQ.out, .inr ⟨rfl, fs5, HST.out, rfl⟩⟩⟩, below_three HB6.out (by omega) _ _ _⟩
        · have hne : (e5 != 0) = true := bne_iff_ne.2 he
          have HF5 := keep hF5
          have HZ5 := keep hZ5
          have HBB5 := keep hB5
          obtain ⟨f0, f1, f2⟩ := hF5.cell3
          obtain ⟨z0, z1, z2⟩ := hZ5.cell3
          obtain ⟨g0, g1, g2⟩ := hZ5.froz3
          clear hF5 hZ5 hB5 y0 y1 y2 y3 y4
          go_wp2_with fail
          refine bodyPost_ret (results_cell_row_tmp rfl _ _ (w.heap.size + 1 + 1) _ _ _ _ rfl (HZ5.out.three _ _ _) Tryd.underlying33 rfl (by kernel_rfl)) rfl ?_
          have hbz := below_three HBB5.out (show w.heap.size ≤ w.heap.size + 1 + 1 by omega) (.slice A1 fs.N.length c1) (.slice A2 fs.F.length c2) (.slice A3 fs.O.length c3)
          exact ⟨e5, fs, _, _, _, rfl, HH0.out.up hbz, .inr ⟨hk, .inr ⟨badNm_no HBQ.out, .inl ⟨he, rfl, fs5, HST.out⟩⟩⟩, hbz⟩
end Go.Proofs.YtgegmefnbkcdkaaDoor
