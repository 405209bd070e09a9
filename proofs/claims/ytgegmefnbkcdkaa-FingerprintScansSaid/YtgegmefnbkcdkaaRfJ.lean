/- The reference's Read. The reference's Same, at two directories that are alike. The reference's Same, at two directories that are alike. -/
import Derived.Test.YtgegmefnbkcdkaaRfH
import Derived.Test.YtgegmefnbkcdkaaFsRead
import Derived.Test.YtgegmefnbkcdkaaBytes
import Derived.Test.YtgegmefnbkcdkaaRfC
namespace Go.Proofs.Ytgegmefnbkcdkaa
open Go.RowKit
set_option maxHeartbeats 8000000 in
set_option maxRecDepth 100000 in
theorem refRead_any (vN vF vO : Value) (fs : FS) (n : Int) (w : World) (h : FsT w vN vF vO fs) (hi : Inv fs) (ho : fs.O.length ≤ 800) :
    Calls Try.prog 46 #[.agg #[vN, vF, vO], .int .i64 n] w (ReadOut fs n w) := by
  obtain ⟨A1, c1, rfl, _, _⟩ := h.n.form
  obtain ⟨A2, c2, rfl, _, _⟩ := h.f.form
  obtain ⟨A3, c3, rfl, _, _⟩ := h.o.form
  obtain ⟨W, hW⟩ : ∃ W, W = ((w.alloc (.cells #[.slice A1 fs.N.length c1, .slice A2 fs.F.length c2, .slice A3 fs.O.length c3] 40)).alloc (.cells #[.int .i64 0, .slice none 0 0, .bool false, .bool false, .int .i64 0] 72)) := ⟨_, rfl⟩
  have hb : Below w.heap.size w W := hW ▸ ((Below.refl _ w).alloc (Nat.le_refl _) _).alloc (by simp) _
  have hF : Blk W w.heap.size 40 #[.slice A1 fs.N.length c1, .slice A2 fs.F.length c2, .slice A3 fs.O.length c3] := hW ▸ ((Blk.new w _ _).alloc _)
  have hZ : Blk W (w.heap.size + 1) 72 #[.int .i64 0, .slice none 0 0, .bool false, .bool false, .int .i64 0] := hW ▸ Blk.new_at (by simp)
  have hT := h.up hb
  have hFl : fs.F.length ≤ 840 := by have := hi.count; omega
  have HAT := keep (refAt_any _ _ _ fs n W hT (by omega))
  have HF := keep hF
  have HZ := keep hZ
  have HT := keep hT
  have HB := keep hb
  have HI := keep hi
  obtain ⟨f0, f1, f2⟩ := hF.cell3
  clear hb hF hZ hT h hi ho
  go_enter Try.func46, Try.ntmps46
  go_upto_region 1 with fail
  rw [← hW]
  clear hW
  go_wp2_with fail
  refine HAT.out.mono ?_
  rintro e w1 ⟨r, rfl, hr, hb1⟩
  have HF1 := keep (HF.out.below hb1 HF.out.lt)
  have HZ1 := keep (HZ.out.below hb1 HZ.out.lt)
  have HT1 := keep (HT.out.up hb1)
  have HB1 := keep (bchain HB.out hb1)
  clear hb1 f0 f1 f2 HF HZ HT HB HAT
  rcases hr with ⟨rfl, hno⟩ | ⟨k, hk, rfl, hino, hfirst⟩
  · have hg : readP fs.p n = none := by
      unfold readP
      rw [show fs.p.F = fs.F.map Fi.p from rfl, get_none hno]; rfl
    have HG := keep hg
    obtain ⟨z0, z1, z2, z3, z4⟩ := HZ1.out.cell5
    obtain ⟨g0, g1, g2, g3, g4⟩ := HZ1.out.froz5
    clear hno hg
    go_wp2_with fail
    refine bodyPost_ret (results_cell_row_tmp rfl _ _ (w.heap.size + 1) _ _ _ _ rfl (HZ1.out.five _ _ _ _ _) Try.underlying72 rfl (by kernel_rfl)) rfl ?_
    refine ⟨.slice none 0 0, ?_, ?_, below_five HB1.out (by omega) _ _ _ _ _⟩
    · rw [HG.out]; rfl
    · rw [HG.out]; exact Sl.nil _ _ _ _ _
  · obtain ⟨_, f1, _⟩ := HF1.out.cell3
    obtain ⟨b, o, rfl, _, m0, m1, m2, m3, m4⟩ := fi_cells HT1.out.f hk
    have hR := HT1.out.d _ (List.getElem_mem hk)
    obtain ⟨FA, FC, hfd⟩ := hR.form
    rw [hfd] at m1
    have i0 : decide ((k : Int) < 0) = false := decide_eq_false (by omega)
    have i00 : (0 : Int) ≤ (k : Int) := by omega
    have i1 : (k : Int) < (fs.F.length : Int) := by omega
    have hgt : readP fs.p n = some (seenP fs.F[k].p) := by
      unfold readP
      rw [← hino]
      show (getP (fs.F.map Fi.p) fs.F[k].ino).map seenP = _
      rw [get_at HI.out.f hk]; rfl
    have hl := HI.out.l _ (List.getElem_mem hk)
    have hdl := HI.out.d _ (List.getElem_mem hk)
    have HGT := keep hgt
    have HR := keep hR
    generalize fs.F[k] = t at *
    obtain ⟨ino, dv, data, cp, wh, left⟩ := t
    simp only at hfd m0 m1 m2 m3 m4 hino hl hdl
    subst hfd
    obtain ⟨m, rfl⟩ := Int.eq_ofNat_of_zero_le hl.1
    obtain ⟨hl0, hl1⟩ := hl
    have i3 : (data.length : Int) ≤ 60000 := by omega
    have hcut := sl_cut (k := data.length - m) (by have h1 := (HR.out).1; exact h1) (by omega)
    have hfc : data.length ≤ FC := by
      obtain ⟨_, A', c', hv, hcc, _⟩ := (HR.out).1
      injection hv with _ _ e3
      rw [e3]; exact hcc
    have hfc2 : data.length - m ≤ FC := by omega
    have hsub : (data.length : Int) - (m : Int) = ((data.length - m : Nat) : Int) := by omega
    have HTK : (data.take (data.length - m)).length = data.length - m := by rw [List.length_take]; omega
    have HSP : Hid (seenP (Fi.p ⟨ino, .slice FA data.length FC, data, cp, wh, (m : Int)⟩) = ⟨ino, data.take (data.length - m), cp, wh, 0⟩) := keep (by simp [seenP, Fi.p])
    generalize data.take (data.length - m) = l at hcut HTK HSP
    subst hino
    have hal : Below w1.heap.size w1 (w1.alloc (.cells #[.int .i64 ino, .slice FA data.length FC, .bool cp, .bool wh, .int .i64 (m : Int)] 72)) := (Below.refl _ w1).alloc (Nat.le_refl _) _
    have HX2 := keep (show Blk (w1.alloc (.cells #[.int .i64 ino, .slice FA data.length FC, .bool cp, .bool wh, .int .i64 (m : Int)] 72)) w1.heap.size 72 #[.int .i64 ino, .slice FA data.length FC, .bool cp, .bool wh, .int .i64 (m : Int)] from Blk.new _ _ _)
    have HGL : Hid (w.heap.size + 1 < w1.heap.size) := keep (by have := HZ1.out.lt; omega)
    have HZ2 := keep (HZ1.out.below hal HZ1.out.lt)
    have HB2 := keep (bchain HB1.out hal)
    have HC2 := keep (hcut.u8Grown (grownBy_of_below hal none) (by simp))
    clear hal hcut hgt hR HR hl0 hfirst
    go_upto_region 5 with fail
    generalize (w1.alloc (.cells #[.int .i64 ino, .slice FA data.length FC, .bool cp, .bool wh, .int .i64 (m : Int)] 72)) = w2 at *
    clear m0 m1 m2 m3 m4 f1
    obtain ⟨g, hg⟩ : ∃ g, g = w1.heap.size := ⟨_, rfl⟩
    rw [← hg] at HX2 HGL ⊢
    clear hg
    obtain ⟨x0, x1, x2, x3, x4⟩ := HX2.out.cell5
    have hsrc := HC2.out
    have hll : l.length ≤ 60000 := by omega
    rw [HTK] at hsrc
    go_upto_region 6 with (refine wpList_appendS elBy rfl _ _ rfl w2.heap.size (.slice none 0 0) 0 [] rfl (World.ownsRow_nil _ _ _ _) _ _ (data.length - m) (bys l) rfl hsrc (bys_one _) (by unfold maxLen; omega) (by omega) (Nat.le_refl _) ?_; intro vd w3 hd3 hb3 hg3; rw [Nat.zero_add, List.nil_append] at hd3; obtain ⟨E5, g5, rfl, _⟩ := own_sl hd3; have hX3 := HX2.out.below hb3 HX2.out.lt; obtain ⟨p0, p1, p2, p3, p4⟩ := hX3.cell5; obtain ⟨y0, y1, y2, y3, y4⟩ := hX3.froz5)
    have hZ3 := HZ2.out.below hb3 HZ2.out.lt
    have hS3 := own_u8 hd3
    have hgr1 := grownBy_set (World.grownBy.refl w3 (some g)) 1 (.slice E5 (data.length - m) g5)
    have hX4 := hX3.set_ 1 (.slice E5 (data.length - m) g5)
    have hS4 := hS3.u8Grown hgr1 (noU8 hX3 (by decide))
    have hZ4 := hZ3.grown hgr1 (fun e => by injection e; have := HGL.out; omega)
    have hB4 := (bchain HB2.out hb3).setCell (p := ⟨g, 1, none⟩) (show w.heap.size ≤ g by have := HGL.out; omega) (.slice E5 (data.length - m) g5)
    have hgr2 := grownBy_set (World.grownBy.refl (w3.setCell ⟨g, 1, none⟩ (.slice E5 (data.length - m) g5)) (some g)) 4 (.int .i64 0)
    have HX4 := keep hX4
    have HX6 := keep (hX4.set_ 4 (.int .i64 0))
    have HS6 := keep (hS4.u8Grown hgr2 (noU8 hX4 (by decide)))
    have HZ6 := keep (hZ4.grown hgr2 (fun e => by injection e; have := HGL.out; omega))
    have HB6 := keep (hB4.setCell (p := ⟨g, 4, none⟩) (show w.heap.size ≤ g by have := HGL.out; omega) (.int .i64 0))
    clear hd3 hb3 hg3 hZ3 hS3 hgr1 hS4 hZ4 hB4 hgr2 hX3 hX4 x0 x1 x2 x3 x4 p0 p1 p2 p3 p4 y0 y1 y2 y3 y4 hsrc
    generalize w3.setCell ⟨g, 1, none⟩ (.slice E5 (data.length - m) g5) = w4 at *
    obtain ⟨p0, p1, p2, p3, p4⟩ := HX4.out.cell5
    obtain ⟨y0, y1, y2, y3, y4⟩ := HX4.out.froz5
    go_upto_region 7 with fail
    generalize w4.setCell ⟨g, 4, none⟩ (.int .i64 0) = w6 at *
    clear p0 p1 p2 p3 p4 y0 y1 y2 y3 y4
    obtain ⟨p0, p1, p2, p3, p4⟩ := HX6.out.cell5
    obtain ⟨z0, z1, z2, z3, z4⟩ := HZ6.out.cell5
    obtain ⟨r0, r1, r2, r3, r4⟩ := HZ6.out.froz5
    go_wp2_with fail
    refine bodyPost_ret (results_cell_row_tmp rfl _ _ (w.heap.size + 1) _ _ _ _ rfl (HZ6.out.five _ _ _ _ _) Try.underlying72 rfl (by kernel_rfl)) rfl ?_
    exact read_done HGT.out HSP.out (by rw [HTK]; exact HS6.out) HZ6.out HB6.out
end Go.Proofs.Ytgegmefnbkcdkaa
namespace Go.Proofs.Ytgegmefnbkcdkaa
open Go.RowKit
end Go.Proofs.Ytgegmefnbkcdkaa
namespace Go.Proofs.Ytgegmefnbkcdkaa
open Go.RowKit
end Go.Proofs.Ytgegmefnbkcdkaa
