/- FilesystemChanges: the walk of the statement. -/
import Derived.Test.YtldopkdjoejhbaaDoorFsAwake
import Derived.Test.YtldopkdjoejhbaaDoorFsChk
import Derived.Test.YtldopkdjoejhbaaDoorLwDraw
import Derived.Test.YtldopkdjoejhbaaDoorRfJ
namespace Go.Proofs.YtldopkdjoejhbaaDoor
open Go.RowKit

theorem p_parts2 {a b : FS} (h : a.p = b.p) : a.N = b.N ∧ a.F.map Fi.p = b.F.map Fi.p ∧ a.O = b.O := by
  unfold FS.p at h
  injection h with h1 h2 h3
  exact ⟨h1, h2, h3⟩
theorem same_alike (vN vF vO uN uF uO : Value) (a b : FS) (w : World) (h : FsT w vN vF vO a) (h2 : FsT w uN uF uO b) (hp : a.p = b.p) (hm : a.N.length ≤ 1000000 ∧ a.F.length ≤ 1000000 ∧ a.O.length ≤ 1000000) :
    Calls Tryd.prog 25 #[.agg #[vN, vF, vO], .agg #[uN, uF, uO]] w fun e w' => e = .returned (.bool true) ∧ Below w.heap.size w w' := by
  obtain ⟨h1, hF, h3⟩ := p_parts2 hp
  obtain ⟨N, F, O⟩ := a
  obtain ⟨N', F', O'⟩ := b
  simp only at h1 hF h3
  subst h1 h3
  exact refSame_any vN vF vO uN uF uO N F F' O w h h2 hF hm
theorem check_good (vN vF vO : Value) (fs : FS) (w : World) (h : FsT w vN vF vO fs) (hi : Inv fs) (ho : fs.O.length ≤ 900) :
    Calls Tryd.prog 30 #[.agg #[vN, vF, vO]] w fun e w' => e = .returned (.bool true) ∧ Below w.heap.size w w' := by
  have hc := hi.count
  have hb := hi.b
  refine (check_any vN vF vO fs w h ⟨by omega, by omega, by omega⟩ (fun n hn => ?_)).mono ?_
  · have := hi.v n hn
    unfold vld at this
    simp only [Bool.and_eq_true, decide_eq_true_eq] at this
    omega
  · rintro e w' ⟨b, rfl, hb, hw⟩
    rw [hb.2 (Chk.of_inv hi)]
    exact ⟨rfl, hw⟩
set_option maxHeartbeats 16000000 in
set_option maxRecDepth 100000 in
theorem law_changes (vc : Value) (bs : List Int) (c : Ch) (s : ByteArray) (inode : Int) (w : World) (hg : Chg w) (hsc : Sl w (lt w.heap.size) 1 vc bs.length (bs.map (.int .u8))) (hr : ∀ x ∈ bs, 0 ≤ x ∧ x ≤ 255) (hm : bs.length ≤ maxLen)
    (hcr : BR w c.dv c.data) (hcl : c.data.length ≤ maxLen) (hcn : c.n ≤ 9223372036854775807) (hcs : c.name.size ≤ 9223372036854775807) (hct : c.dst.size ≤ 9223372036854775807) :
    Calls Tryd.prog 6 #[vc, .agg (chV c), .string s, .int .i64 inode] w fun e w' => e = .returned (.bool true) ∧ Below w.heap.size w w' := by
  obtain ⟨Ac, cc, rfl, hcc, hsc⟩ := hsc.form
  obtain ⟨Ar, cr, hcv, hcr2, _⟩ := Sl.form hcr
  obtain ⟨kind, name, dst, dv, data, n⟩ := c
  simp only at hcv hcr hcl hcn hcs hct hcr2
  subst hcv
  simp only [chV]
  have HG := keep hg
  have HRD := keep hcr
  have HRC := keep (And.intro hcn (And.intro hcs hct))
  have HDL : Hid (data.length ≤ 9223372036854775807) := keep (by unfold maxLen at hcl; omega)
  obtain ⟨W, hW⟩ : ∃ W, W = w.alloc (.cells #[.int .i64 kind, .string name, .string dst, .slice Ar data.length cr, .int .i64 n] 37) := ⟨_, rfl⟩
  have hb : Below w.heap.size w W := hW ▸ (Below.refl _ w).alloc (Nat.le_refl _) _
  have hX : Blk W w.heap.size 37 #[.int .i64 kind, .string name, .string dst, .slice Ar data.length cr, .int .i64 n] := hW ▸ Blk.new w _ _
  have HB := keep hb
  have HX := keep hX
  clear hg hcr hcn hcs hct hb hX hcl hcr2
  go_enter Tryd.func6, Tryd.ntmps6
  go_wp2_with fail
  rw [← hW]
  clear hW
  refine (awake_any W (HG.out.up HB.out)).mono ?_
  rintro e w1 ⟨rfl, hb1⟩
  have HX1 := keep (HX.out.below hb1 HX.out.lt)
  have HB1 := keep (bchain HB.out hb1)
  have hsc1 := (hsc.below HB1.out (Nat.le_refl _)).more HB1.out.size
  obtain ⟨x0, x1, x2, x3, x4⟩ := HX1.out.cell5
  clear hb1 hsc HX HB
  by_cases h3 : 300 < data.length
  · have d : decide (300 < (data.length : Int)) = true := decide_eq_true (by omega)
    go_wp2_with fail
    go_ret
    exact ⟨rfl, HB1.out⟩
  · have d : decide (300 < (data.length : Int)) = false := decide_eq_false (by omega)
    have HRW := keep (show ChOk w ⟨kind, name, dst, .slice Ar data.length cr, data, n⟩ from ⟨HRD.out, by show data.length ≤ 1000000; omega, HRC.out.1, HRC.out.2.1, HRC.out.2.2⟩)
    clear h3
    go_wp2_with fail
    refine (drawNew _ bs 240 _ hsc1 hr (by omega) hm).mono ?_
    rintro e w2 ⟨gc, rfl, hgc, hC, hb2⟩
    have HC2 := keep hC
    have hgw : w.heap.size ≤ gc := Nat.le_trans HB1.out.size hgc
    have hxg : w.heap.size < gc := Nat.lt_of_lt_of_le HX1.out.lt hgc
    have HB2 := keep (bchain HB1.out hb2)
    have HX2 := keep (HX1.out.below hb2 HX1.out.lt)
    clear hsc1 hr hm hcc hb2 hC hgc d x0 x1 x2 x3 x4 HX1 HB1
    go_wp2_with fail
    refine (lawDraw gc 12 w2 HC2.out (by omega)).mono ?_
    rintro e w3 ⟨fs, vN, vF, vO, rfl, hT3, hI3, hO3, hC3, hg3⟩
    obtain ⟨A1, c1, rfl, _, _⟩ := hT3.n.form
    obtain ⟨A2, c2, rfl, _, _⟩ := hT3.f.form
    obtain ⟨A3, c3, rfl, _, _⟩ := hT3.o.form
    have hal : Below w3.heap.size w3 (w3.alloc (.cells #[.slice A1 fs.N.length c1, .slice A2 fs.F.length c2, .slice A3 fs.O.length c3] 31)) := (Below.refl _ w3).alloc (Nat.le_refl _) _
    have HF : Hid (Blk (w3.alloc (.cells #[.slice A1 fs.N.length c1, .slice A2 fs.F.length c2, .slice A3 fs.O.length c3] 31)) w3.heap.size 31 #[.slice A1 fs.N.length c1, .slice A2 fs.F.length c2, .slice A3 fs.O.length c3]) := keep (Blk.new w3 _ _)
    have HT := keep (hT3.up hal)
    have HC3 := keep (hC3.under hal hC3.lt_)
    have HB3 := keep (bchain (below_grown HB2.out hg3 HB2.out.size hgw) hal)
    have HX3 := keep ((HX2.out.grown hg3 (fun e => by injection e; omega)).below hal (Nat.lt_of_lt_of_le HX2.out.lt hg3.size))
    have HI := keep hI3
    have HO := keep hO3
    have hgf : gc < w3.heap.size := hC3.lt_
    clear hT3 hI3 hO3 hC3 hg3 hal HC2 HB2 HX2
    go_upto_region 7 with fail
    generalize w3.alloc (.cells #[.slice A1 fs.N.length c1, .slice A2 fs.F.length c2, .slice A3 fs.O.length c3] 31) = W3 at *
    generalize w3.heap.size = gf at *
    go_wp2_with fail
    refine (drawNext gc 256 _ HC3.out (by omega) (by omega)).mono ?_
    rintro e w5 ⟨r, rfl, r0, r1, _, hC5, hg5⟩
    have HF5 := keep (HF.out.grown hg5 (fun e => by injection e; omega))
    have HT5 := keep (Gr.fsT HT.out HC3.out hg5)
    have HX5 := keep (HX3.out.grown hg5 (fun e => by injection e; omega))
    have HB5 := keep (below_grown HB3.out hg5 HB3.out.size hgw)
    have HC5 := keep hC5
    clear hC5 hg5 r1 HF HT HX3 HB3 HC3
    go_wp2_with fail
    refine (makeChange gc _ _ HC5.out).mono ?_
    rintro e w6 ⟨cx, rfl, hc6, hC6, hg6⟩
    obtain ⟨CA, CC, hcv, _, _⟩ := Sl.form hc6.r
    obtain ⟨kx, nx, tx, dx, ex, mx⟩ := cx
    simp only at hcv
    subst hcv
    simp only [chV]
    have hal : Below w6.heap.size w6 (w6.alloc (.cells #[.int .i64 kx, .string nx, .string tx, .slice CA ex.length CC, .int .i64 mx] 37)) := (Below.refl _ w6).alloc (Nat.le_refl _) _
    have HY : Hid (Blk (w6.alloc (.cells #[.int .i64 kx, .string nx, .string tx, .slice CA ex.length CC, .int .i64 mx] 37)) w6.heap.size 37 #[.int .i64 kx, .string nx, .string tx, .slice CA ex.length CC, .int .i64 mx]) := keep (Blk.new w6 _ _)
    have HF6 := keep ((HF5.out.grown hg6 (fun e => by injection e; omega)).below hal (Nat.lt_of_lt_of_le HF5.out.lt hg6.size))
    have HT6 := keep ((Gr.fsT HT5.out HC5.out hg6).up hal)
    have HX6 := keep ((HX5.out.grown hg6 (fun e => by injection e; omega)).below hal (Nat.lt_of_lt_of_le HX5.out.lt hg6.size))
    have HB6 := keep (bchain (below_grown HB5.out hg6 HB5.out.size hgw) hal)
    have HC6 := keep (hC6.under hal hC6.lt_)
    have HCX := keep (hc6.up hal)
    have hgx : gc < w6.heap.size := hC6.lt_
    clear hC6 hg6 hc6 hal HF5 HT5 HX5 HB5 HC5
    go_upto_region 8 with fail
    generalize w6.alloc (.cells #[.int .i64 kx, .string nx, .string tx, .slice CA ex.length CC, .int .i64 mx] 37) = W6 at *
    generalize w6.heap.size = gx at *
    go_cut [49, 50, 51] (fun s49 s50 s51 wd => ∃ (g : Nat) (L : List Ch), s49 = .slice (some ⟨g, 0, none⟩) 3 3 ∧ s50 = .int .i64 3 ∧ s51 = .int .i64 0 ∧ L.length = 3 ∧ Hid (ChsR wd (.slice (some ⟨g, 0, none⟩) 3 3) L) ∧ Hid (Blk wd gf 31 #[.slice A1 fs.N.length c1, .slice A2 fs.F.length c2, .slice A3 fs.O.length c3]) ∧ Hid (FsT wd (.slice A1 fs.N.length c1) (.slice A2 fs.F.length c2) (.slice A3 fs.O.length c3) fs) ∧ Hid (Below w.heap.size w wd) ∧ Hid (Blk wd gx 37 #[.int .i64 kx, .string nx, .string tx, .slice CA ex.length CC, .int .i64 mx]))
    case first =>
      obtain ⟨x0, x1, x2, x3, x4⟩ := HX6.out.cell5
      obtain ⟨y0, y1, y2, y3, y4⟩ := HY.out.cell5
      have hd6 : Below W6.heap.size W6 W6.drew := (Below.refl _ W6).drew
      have HFd := keep (HF6.out.below hd6 HF6.out.lt)
      have HTd := keep (HT6.out.up hd6)
      have HXd := keep (HX6.out.below hd6 HX6.out.lt)
      have HYd := keep (HY.out.below hd6 HY.out.lt)
      have HBd := keep (bchain HB6.out hd6)
      have HCd := keep (HC6.out.under hd6 HC6.out.lt_)
      have HGd := keep (HCX.out.up hd6)
      clear hd6
      go_region_with (first
        | (go_at_call 23; refine (makeSpoil gc ⟨kx, nx, tx, .slice CA ex.length CC, ex, mx⟩ W6.drew HCd.out HGd.out).mono ?_; rintro e w7 ⟨cz, rfl, hc7, hC7, hg7⟩
           obtain ⟨DA, DC, hcv, _, _⟩ := Sl.form hc7.r
           obtain ⟨kz, nz, tz, dz, ez, mz⟩ := cz
           simp only at hcv
           subst hcv
           simp only [chV]
           have HF7 := keep (HFd.out.grown hg7 (fun e => by injection e; omega))
           have HT7 := keep (Gr.fsT HTd.out HCd.out hg7)
           have hX7 := HXd.out.grown hg7 (fun e => by injection e; omega)
           have HY7 := keep (HYd.out.grown hg7 (fun e => by injection e; omega))
           have HB7 := keep (below_grown HBd.out hg7 HBd.out.size hgw)
           have HG7 := keep (HGd.out.grown HCd.out hg7)
           have HZ7 := keep hc7
           obtain ⟨p0, p1, p2, p3, p4⟩ := hX7.cell5
           obtain ⟨q0, q1, q2, q3, q4⟩ := HY7.out.cell5
           clear hX7 hc7 hC7 hg7)
        | fail)
      all_goals
        have hal : Below w7.heap.size w7 (w7.alloc (.cells (([⟨kind, name, dst, .slice Ar data.length cr, data, n⟩, ⟨kx, nx, tx, .slice CA ex.length CC, ex, mx⟩, ⟨kz, nz, tz, .slice DA ez.length DC, ez, mz⟩] : List Ch).flatMap fun c => (chV c).toList).toArray 37)) := (Below.refl _ w7).alloc (Nat.le_refl _) _
        have HL := keep (ChsR.lit w7 [⟨kind, name, dst, .slice Ar data.length cr, data, n⟩, ⟨kx, nx, tx, .slice CA ex.length CC, ex, mx⟩, ⟨kz, nz, tz, .slice DA ez.length DC, ez, mz⟩] 37 w7.heap.size rfl (fun c hc => by
          simp only [List.mem_cons, List.not_mem_nil, or_false] at hc
          rcases hc with rfl | rfl | rfl
          · exact HRW.out.up HB7.out
          · exact HG7.out.ok
          · exact HZ7.out.ok))
        have HF8 := keep (HF7.out.below hal HF7.out.lt)
        have HT8 := keep (HT7.out.up hal)
        have HY8 := keep (HY7.out.below hal HY7.out.lt)
        have HB8 := keep (bchain HB7.out hal)
        clear hal
        go_wp2_with fail
        go_meet
        case rel => exact ⟨_, _, rfl, rfl, rfl, rfl, HL, HF8, HT8, HB8, HY8⟩
    case rest =>
      obtain ⟨g, L, rfl, rfl, rfl, hL3, HL, HF7, HT7, HB7, HY7⟩ := hcut
      obtain ⟨wv, rfl⟩ : ∃ wv : World, wv = wc := ⟨_, rfl⟩
      clear HF6 HT6 HB6 HY HX6 HC6 HCX
      have HL3 := keep hL3
      have HGv := keep (HG.out.up HB7.out)
      have HFL : Hid (fs.N.length ≤ 40 ∧ fs.F.length ≤ 43) := keep (by have h1 := HI.out.count; have h2 := HI.out.b; have := HO.out; omega)
      clear hL3
      go_wp2_with fail
      go_loopw [51] (fun i wr => ∃ k : Nat, i = .int .i64 k ∧ k ≤ 3 ∧ Hid (Below wv.heap.size wv wr)) (fun i _ => 3 - (intOf i).toNat)
      case atStart => exact ⟨0, rfl, by omega, keep (Below.refl _ _)⟩
      case round =>
        obtain ⟨k, rfl, hk, hBr⟩ := hrel
        obtain ⟨wo, rfl⟩ : ∃ wo : World, wo = wr := ⟨_, rfl⟩
        have HFo := keep (HF7.out.below hBr.out HF7.out.lt)
        have HTo := keep (HT7.out.up hBr.out)
        obtain ⟨f0, f1, f2⟩ := HFo.out.cell3
        by_cases hlt : k < 3
        · have hLo := HL.out.up hBr.out
          have hlt' : k < L.length := by rw [HL3.out]; exact hlt
          have hs3 : Sl wo (lt wo.heap.size) 5 (.slice (some ⟨g, 0, none⟩) L.length 3) L.length (L.flatMap fun c => (chV c).toList) := by
            have := hLo.s
            rw [HL3.out] at this ⊢
            exact this
          obtain ⟨b, o, hA, _, x0, x1, x2, x3, x4⟩ := ch_cells hs3 hlt'
          injection hA with hA
          injection hA with q1 q2 _
          subst q1 q2
          rw [Nat.zero_add] at x0 x1 x2 x3 x4
          have hck := hLo.c _ (List.getElem_mem hlt')
          obtain ⟨cy, hcy⟩ : ∃ cy, L[k] = cy := ⟨_, rfl⟩
          rw [hcy] at x0 x1 x2 x3 x4 hck
          clear hcy
          obtain ⟨YA, YC, hcv, _, _⟩ := hck.r.form
          obtain ⟨ky, ny, ty, dy, ey, my⟩ := cy
          simp only at hcv x0 x1 x2 x3 x4
          subst hcv
          have i0 : (0 : Int) ≤ (k : Int) := by omega
          have i1 : (k : Int) < 3 := by omega
          have hal : Below wo.heap.size wo (wo.alloc (.cells #[.int .i64 ky, .string ny, .string ty, .slice YA ey.length YC, .int .i64 my] 37)) := (Below.refl _ wo).alloc (Nat.le_refl _) _
          have HYb : Hid (Blk (wo.alloc (.cells #[.int .i64 ky, .string ny, .string ty, .slice YA ey.length YC, .int .i64 my] 37)) wo.heap.size 37 #[.int .i64 ky, .string ny, .string ty, .slice YA ey.length YC, .int .i64 my]) := keep (Blk.new wo _ _)
          have HCK := keep (hck.up hal)
          have HFp := keep (HFo.out.below hal HFo.out.lt)
          have HTp := keep (HTo.out.up hal)
          have HBp := keep (hBr.out.trans (hal.mono hBr.out.size))
          have HGp := keep (HGv.out.up HBp.out)
          clear hLo hck hal hs3
          go_upto_region 11 with fail
          generalize wo.alloc (.cells #[.int .i64 ky, .string ny, .string ty, .slice YA ey.length YC, .int .i64 my] 37) = Wp at *
          generalize wo.heap.size = gy at *
          clear x0 x1 x2 x3 x4 f0 f1 f2 HFo HTo hBr
          obtain ⟨f0, f1, f2⟩ := HFp.out.cell3
          obtain ⟨y0, y1, y2, y3, y4⟩ := HYb.out.cell5
          go_wp2_with fail
          refine (do_any _ _ _ fs ⟨ky, ny, ty, .slice YA ey.length YC, ey, my⟩ Wp HTp.out HI.out (by have := HO.out; omega) HCK.out HGp.out).mono ?_
          rintro e wq ⟨fA, aN, aF, aO, rfl, hTa, hPa, hIa, hOa, hba⟩
          obtain ⟨E1, g1, rfl, _, _⟩ := hTa.n.form
          obtain ⟨E2, g2, rfl, _, _⟩ := hTa.f.form
          obtain ⟨E3, g3, rfl, _, _⟩ := hTa.o.form
          have hal : Below wq.heap.size wq (wq.alloc (.cells #[.slice E1 fA.N.length g1, .slice E2 fA.F.length g2, .slice E3 fA.O.length g3] 31)) := (Below.refl _ wq).alloc (Nat.le_refl _) _
          have HXA : Hid (Blk (wq.alloc (.cells #[.slice E1 fA.N.length g1, .slice E2 fA.F.length g2, .slice E3 fA.O.length g3] 31)) wq.heap.size 31 #[.slice E1 fA.N.length g1, .slice E2 fA.F.length g2, .slice E3 fA.O.length g3]) := keep (Blk.new wq _ _)
          have HTA := keep (hTa.up hal)
          have HFq := keep ((HFp.out.below hba HFp.out.lt).below hal (Nat.lt_of_lt_of_le HFp.out.lt hba.size))
          have HTq := keep ((HTp.out.up hba).up hal)
          have HYq := keep ((HYb.out.below hba HYb.out.lt).below hal (Nat.lt_of_lt_of_le HYb.out.lt hba.size))
          have HCKq := keep ((HCK.out.up hba).up hal)
          have HBq := keep (HBp.out.trans ((hba.trans (hal.mono hba.size)).mono HBp.out.size))
          have HPA := keep hPa
          have HSA : Hid (fA.N.length ≤ 40 ∧ fA.F.length ≤ 43 ∧ fA.O.length ≤ 3) := keep (by
            have h1 := hIa.count
            have h2 := hIa.b
            have h3 := HO.out
            rw [← hOa] at h3
            omega)
          obtain ⟨ee, hee⟩ : ∃ ee, (doP fs.p (Ch.p ⟨ky, ny, ty, .slice YA ey.length YC, ey, my⟩)).1 = ee := ⟨_, rfl⟩
          rw [hee]
          have HEE := keep hee
          clear hTa hPa hIa hOa hba hal hee f0 f1 f2 y0 y1 y2 y3 y4 HFp HTp HYb HCK HBp HGp
          go_upto_region 12 with fail
          generalize wq.alloc (.cells #[.slice E1 fA.N.length g1, .slice E2 fA.F.length g2, .slice E3 fA.O.length g3] 31) = Wq at *
          generalize wq.heap.size = ga at *
          obtain ⟨f0, f1, f2⟩ := HFq.out.cell3
          obtain ⟨y0, y1, y2, y3, y4⟩ := HYq.out.cell5
          go_wp2_with fail
          refine (refDo_any _ _ _ fs ⟨ky, ny, ty, .slice YA ey.length YC, ey, my⟩ Wq HTq.out HI.out (by have := HO.out; omega) HCKq.out).mono ?_
          rintro e ws ⟨fB, bN, bF, bO, rfl, hTb, hPb, hIb, hOb, hbb⟩
          obtain ⟨J1, j1, rfl, _, _⟩ := hTb.n.form
          obtain ⟨J2, j2, rfl, _, _⟩ := hTb.f.form
          obtain ⟨J3, j3, rfl, _, _⟩ := hTb.o.form
          rw [HEE.out]
          have hal : Below ws.heap.size ws (ws.alloc (.cells #[.slice J1 fB.N.length j1, .slice J2 fB.F.length j2, .slice J3 fB.O.length j3] 31)) := (Below.refl _ ws).alloc (Nat.le_refl _) _
          have HXB : Hid (Blk (ws.alloc (.cells #[.slice J1 fB.N.length j1, .slice J2 fB.F.length j2, .slice J3 fB.O.length j3] 31)) ws.heap.size 31 #[.slice J1 fB.N.length j1, .slice J2 fB.F.length j2, .slice J3 fB.O.length j3]) := keep (Blk.new ws _ _)
          have HTB := keep (hTb.up hal)
          have HXA2 := keep ((HXA.out.below hbb HXA.out.lt).below hal (Nat.lt_of_lt_of_le HXA.out.lt hbb.size))
          have HTA2 := keep ((HTA.out.up hbb).up hal)
          have HBs := keep (HBq.out.trans ((hbb.trans (hal.mono hbb.size)).mono HBq.out.size))
          have HPP : Hid (fA.p = fB.p) := keep (HPA.out.trans hPb.symm)
          clear hTb hPb hIb hOb hbb hal f0 f1 f2 y0 y1 y2 y3 y4 HFq HTq HYq HCKq HBq HXA HTA
          go_upto_region 13 with fail
          generalize ws.alloc (.cells #[.slice J1 fB.N.length j1, .slice J2 fB.F.length j2, .slice J3 fB.O.length j3] 31) = Ws at *
          generalize ws.heap.size = gb at *
          obtain ⟨f0, f1, f2⟩ := HXA2.out.cell3
          obtain ⟨y0, y1, y2⟩ := HXB.out.cell3
          have hne : (ee != ee) = false := bne_self_eq_false _
          go_wp2_with fail
          refine (same_alike _ _ _ _ _ _ fA fB Ws HTA2.out HTB.out HPP.out (by have := HSA.out; omega)).mono ?_
          rintro e wt ⟨rfl, hbt⟩
          have HBt := keep (HBs.out.trans (hbt.mono HBs.out.size))
          clear hbt
          go_wp2_with fail
          go_roundw
          case rel => exact ⟨k + 1, by go_num, by omega, HBt⟩
          case measure => simp [intOf]; omega
        · have hk3 : ¬ (k : Int) < 3 := by omega
          have HYo := keep (HY7.out.below hBr.out HY7.out.lt)
          have HBo := keep (bchain HB7.out hBr.out)
          clear f0 f1 f2 HF7 HT7 HY7 HB7 HL hBr HGv HL3
          obtain ⟨y0, y1, y2, y3, y4⟩ := HYo.out.cell5
          have hal : Below wo.heap.size wo (wo.alloc (.cells #[.string s, .string ⟨#[97, 112, 112]⟩, .string nx] 9)) := (Below.refl _ wo).alloc (Nat.le_refl _) _
          have HSL : Hid (Blk (wo.alloc (.cells #[.string s, .string ⟨#[97, 112, 112]⟩, .string nx] 9)) wo.heap.size 9 #[.string s, .string ⟨#[97, 112, 112]⟩, .string nx]) := keep (Blk.new wo _ _)
          have HFp := keep (HFo.out.below hal HFo.out.lt)
          have HTp := keep (HTo.out.up hal)
          have HBp := keep (bchain HBo.out hal)
          clear hal HFo HTo HBo
          go_wp2_with fail
          generalize wo.alloc (.cells #[.string s, .string ⟨#[97, 112, 112]⟩, .string nx] 9) = WL at *
          generalize wo.heap.size = gl at *
          clear y0 y1 y2 y3 y4
          go_loopw [82] (fun i wr => ∃ k : Nat, i = .int .i64 k ∧ k ≤ 3 ∧ Hid (Below WL.heap.size WL wr)) (fun i _ => 3 - (intOf i).toNat)
          case atStart => exact ⟨0, rfl, by omega, keep (Below.refl _ _)⟩
          case round =>
            obtain ⟨k, rfl, hk, hBr⟩ := hrel
            obtain ⟨wx, rfl⟩ : ∃ wx : World, wx = wr := ⟨_, rfl⟩
            have HFx := keep (HFp.out.below hBr.out HFp.out.lt)
            have HTx := keep (HTp.out.up hBr.out)
            by_cases hlt : k < 3
            · obtain ⟨st, hst⟩ : ∃ st : ByteArray, wx.cell? ⟨gl, k, none⟩ = some (.string st) := by
                have hb := HSL.out.below hBr.out HSL.out.lt
                have h01 : k = 0 ∨ k = 1 ∨ k = 2 := by omega
                rcases h01 with rfl | rfl | rfl
                · exact ⟨_, (hb.cell 0).trans rfl⟩
                · exact ⟨_, (hb.cell 1).trans rfl⟩
                · exact ⟨_, (hb.cell 2).trans rfl⟩
              have i0 : (0 : Int) ≤ (k : Int) := by omega
              have i1 : (k : Int) < 3 := by omega
              obtain ⟨f0, f1, f2⟩ := HFx.out.cell3
              obtain ⟨lv, hlv⟩ : ∃ v, (lookP fs.N st).getD 0 = v := ⟨_, rfl⟩
              obtain ⟨hv, hhv⟩ : ∃ v, hasP fs.N st = v := ⟨_, rfl⟩
              have HLV := keep hlv
              have HHV := keep hhv
              clear hlv hhv
              go_wp2_with fail
              refine (lookup_any _ _ _ fs st wx HTx.out HI.out).mono ?_
              rintro e w8 ⟨rfl, hb8⟩
              rw [HLV.out, HHV.out]
              have HF8 := HFx.out.below hb8 HFx.out.lt
              have HT8 := keep (HTx.out.up hb8)
              have HB8 := keep (hBr.out.trans (hb8.mono hBr.out.size))
              obtain ⟨q0, q1, q2⟩ := HF8.cell3
              clear hb8 HF8 f0 f1 f2 hst
              go_wp2_with fail
              refine (refLookup_any _ _ _ fs st w8 HT8.out (by have := HFL.out; omega)).mono ?_
              rintro e w9 ⟨rfl, hb9⟩
              rw [HLV.out, HHV.out]
              have HB9 := keep (HB8.out.trans (hb9.mono HB8.out.size))
              have hne1 : (lv != lv) = false := bne_self_eq_false _
              have hne2 : (hv != hv) = false := bne_self_eq_false _
              clear hb9 q0 q1 q2
              go_wp2_with fail
              go_roundw
              case rel => exact ⟨k + 1, by go_num, by omega, HB9⟩
              case measure => simp [intOf]; omega
            · have hk3 : ¬ (k : Int) < 3 := by omega
              have HBx := keep (bchain HBp.out hBr.out)
              clear HFp HTp HBp HSL hBr
              go_wp2_with fail
              refine (makeMod inode 6 _ (by omega)).mono ?_
              rintro e w10 ⟨r, rfl, r0, r1, rfl⟩
              have r2 := r1 (by omega)
              clear r1
              have hal : Below wx.heap.size wx (wx.alloc (.cells #[.int .i64 inode, .int .i64 (1 + r)] 3)) := (Below.refl _ wx).alloc (Nat.le_refl _) _
              have HSI : Hid (Blk (wx.alloc (.cells #[.int .i64 inode, .int .i64 (1 + r)] 3)) wx.heap.size 3 #[.int .i64 inode, .int .i64 (1 + r)]) := keep (Blk.new wx _ _)
              have HFp := keep (HFx.out.below hal HFx.out.lt)
              have HTp := keep (HTx.out.up hal)
              have HBp := keep (bchain HBx.out hal)
              clear hal HFx HTx HBx
              go_wp2_with fail
              generalize wx.alloc (.cells #[.int .i64 inode, .int .i64 (1 + r)] 3) = WI at *
              generalize wx.heap.size = gi at *
              go_loopw [113] (fun i wr => ∃ k : Nat, i = .int .i64 k ∧ k ≤ 2 ∧ Hid (Below WI.heap.size WI wr)) (fun i _ => 2 - (intOf i).toNat)
              case atStart => exact ⟨0, rfl, by omega, keep (Below.refl _ _)⟩
              case round =>
                obtain ⟨k, rfl, hk, hBr⟩ := hrel
                obtain ⟨wy, rfl⟩ : ∃ wy : World, wy = wr := ⟨_, rfl⟩
                have HFx := keep (HFp.out.below hBr.out HFp.out.lt)
                have HTx := keep (HTp.out.up hBr.out)
                by_cases hlt : k < 2
                · obtain ⟨y, hy⟩ : ∃ y : Int, wy.cell? ⟨gi, k, none⟩ = some (.int .i64 y) := by
                    have hb := HSI.out.below hBr.out HSI.out.lt
                    have h01 : k = 0 ∨ k = 1 := by omega
                    rcases h01 with rfl | rfl
                    · exact ⟨_, (hb.cell 0).trans rfl⟩
                    · exact ⟨_, (hb.cell 1).trans rfl⟩
                  have i0 : (0 : Int) ≤ (k : Int) := by omega
                  have i1 : (k : Int) < 2 := by omega
                  obtain ⟨f0, f1, f2⟩ := HFx.out.cell3
                  obtain ⟨T, hT⟩ : ∃ T, (readP fs.p y).getD zeroF = T := ⟨_, rfl⟩
                  obtain ⟨bv, hbv⟩ : ∃ b, (readP fs.p y).isSome = b := ⟨_, rfl⟩
                  have HTT := keep hT
                  have HBV := keep hbv
                  clear hT hbv
                  go_wp2_with fail
                  refine (read_any _ _ _ fs y wy HTx.out HI.out (by have := HO.out; omega)).mono ?_
                  rintro e w8 ⟨dv1, rfl, hs1, hb8⟩
                  rw [HTT.out, HBV.out]
                  rw [HTT.out] at hs1
                  obtain ⟨D1, dc1, rfl, _, _⟩ := hs1.form
                  obtain ⟨ti, td, tc, tw, tl⟩ := T
                  simp only [fileV]
                  simp only at hs1
                  have hal : Below w8.heap.size w8 (w8.alloc (.cells #[.int .i64 ti, .slice D1 td.length dc1, .bool tc, .bool tw, .int .i64 tl] 45)) := (Below.refl _ w8).alloc (Nat.le_refl _) _
                  have HX1 : Hid (Blk (w8.alloc (.cells #[.int .i64 ti, .slice D1 td.length dc1, .bool tc, .bool tw, .int .i64 tl] 45)) w8.heap.size 45 #[.int .i64 ti, .slice D1 td.length dc1, .bool tc, .bool tw, .int .i64 tl]) := keep (Blk.new w8 _ _)
                  have HS1 := keep (hs1.u8Grown (grownBy_of_below hal none) (by simp))
                  have HF8 := keep ((HFx.out.below hb8 HFx.out.lt).below hal (Nat.lt_of_lt_of_le HFx.out.lt hb8.size))
                  have HT8 := keep ((HTx.out.up hb8).up hal)
                  have HB8 := keep (hBr.out.trans ((hb8.trans (hal.mono hb8.size)).mono hBr.out.size))
                  clear hb8 hal hs1 hy f0 f1 f2
                  go_upto_region 28 with fail
                  generalize w8.alloc (.cells #[.int .i64 ti, .slice D1 td.length dc1, .bool tc, .bool tw, .int .i64 tl] 45) = W8 at *
                  generalize w8.heap.size = g8 at *
                  obtain ⟨f0, f1, f2⟩ := HF8.out.cell3
                  go_wp2_with fail
                  refine (refRead_any _ _ _ fs y W8 HT8.out HI.out (by have := HO.out; omega)).mono ?_
                  rintro e w9 ⟨dv2, rfl, hs2, hb9⟩
                  rw [HTT.out, HBV.out]
                  rw [HTT.out] at hs2
                  obtain ⟨D2, dc2, rfl, _, _⟩ := hs2.form
                  simp only [fileV]
                  simp only at hs2
                  have hal : Below w9.heap.size w9 (w9.alloc (.cells #[.int .i64 ti, .slice D2 td.length dc2, .bool tc, .bool tw, .int .i64 tl] 45)) := (Below.refl _ w9).alloc (Nat.le_refl _) _
                  have HX2 : Hid (Blk (w9.alloc (.cells #[.int .i64 ti, .slice D2 td.length dc2, .bool tc, .bool tw, .int .i64 tl] 45)) w9.heap.size 45 #[.int .i64 ti, .slice D2 td.length dc2, .bool tc, .bool tw, .int .i64 tl]) := keep (Blk.new w9 _ _)
                  have HS2 := keep (hs2.u8Grown (grownBy_of_below hal none) (by simp))
                  have HS19 := keep ((HS1.out.u8Grown (grownBy_of_below hb9 none) (by simp)).u8Grown (grownBy_of_below hal none) (by simp))
                  have HX19 := keep ((HX1.out.below hb9 HX1.out.lt).below hal (Nat.lt_of_lt_of_le HX1.out.lt hb9.size))
                  have HB9 := keep (HB8.out.trans ((hb9.trans (hal.mono hb9.size)).mono HB8.out.size))
                  have hne : (bv != bv) = false := bne_self_eq_false _
                  clear hb9 hal hs2 f0 f1 f2 HF8 HT8 HB8 HX1 HS1
                  go_upto_region 29 with fail
                  generalize w9.alloc (.cells #[.int .i64 ti, .slice D2 td.length dc2, .bool tc, .bool tw, .int .i64 tl] 45) = W9 at *
                  generalize w9.heap.size = g9 at *
                  obtain ⟨y0, y1, y2, y3, y4⟩ := HX19.out.cell5
                  obtain ⟨z0, z1, z2, z3, z4⟩ := HX2.out.cell5
                  go_wp2_with fail
                  refine (sameFile_any ⟨ti, td, tc, tw, tl⟩ (.slice D1 td.length dc1) (.slice D2 td.length dc2) W9 (u8B W9) (u8B W9) HS19.out HS2.out (fun _ hb => hb.lt_) (fun _ hb => hb.lt_)).mono ?_
                  rintro e w11 ⟨rfl, hb11⟩
                  have HB11 := keep (HB9.out.trans (hb11.mono HB9.out.size))
                  clear hb11
                  go_wp2_with fail
                  go_roundw
                  case rel => exact ⟨k + 1, by go_num, by omega, HB11⟩
                  case measure => simp [intOf]; omega
                · have hk3 : ¬ (k : Int) < 2 := by omega
                  obtain ⟨f0, f1, f2⟩ := HFx.out.cell3
                  go_wp2_with fail
                  refine (check_good _ _ _ fs wy HTx.out HI.out (by have := HO.out; omega)).mono ?_
                  rintro e w12 ⟨rfl, hb12⟩
                  have HBE := keep (bchain (bchain HBp.out hBr.out) hb12)
                  clear hb12
                  go_wp2_with fail
                  go_ret
                  exact ⟨rfl, HBE.out⟩
end Go.Proofs.YtldopkdjoejhbaaDoor
