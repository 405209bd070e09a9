/- The reference's Do. -/
import Derived.Test.YtgegmefnbkcdkaaRfH
import Derived.Test.YtgegmefnbkcdkaaRegV
namespace Go.Proofs.Ytgegmefnbkcdkaa
open Go.RowKit
theorem FsO.box {w w' : World} {B g : Nat} {vN vF vO : Value} {fs : FS} {cs : Array Value} (h : FsO w B vN vF vO fs) (hb : Blk w g 40 cs) (hg : w.grownBy w' (some g)) : FsO w' B vN vF vO fs :=
  ⟨h.n.kept hg (.inr (own_off h.n hb (by decide))), h.f.kept hg (.inr (own_off h.f hb (by decide))), h.o.kept hg (.inr (own_off h.o hb (by decide))), fun t ht => (h.d t ht).grown hg (noU8 hb (by decide))⟩
/-- What the regions of Do keep: the change and the result's box. -/
def DoWk (w : World) (B : Nat) (X : Array Value) (wa : World) : Prop := Below w.heap.size w wa ∧ B ≤ wa.heap.size ∧ Blk wa (w.heap.size + 1) 46 X ∧ Blk wa (w.heap.size + 1 + 1) 40 #[.slice none 0 0, .slice none 0 0, .slice none 0 0] ∧ ∃ a b c : Value, Blk wa w.heap.size 40 #[a, b, c]
theorem DoWk.low {w wa wb : World} {B : Nat} {X : Array Value} (h : DoWk w B X wa) (hB : w.heap.size + 1 + 1 < B) (hb : Below B wa wb) : DoWk w B X wb := by
  obtain ⟨h1, h2, h3, h4, a, b, c, h5⟩ := h
  exact ⟨h1.trans (hb.mono (by omega)), Nat.le_trans h2 hb.size, h3.below hb (by omega), h4.below hb (by omega), a, b, c, h5.below hb (by omega)⟩
theorem DoWk.up {w wa wb : World} {B : Nat} {X : Array Value} (h : DoWk w B X wa) (hB : w.heap.size + 1 + 1 < B) (hb : Below wa.heap.size wa wb) : DoWk w B X wb := h.low hB (hb.mono h.2.1)
theorem DoWk.box {w wa : World} {B : Nat} {X : Array Value} (h : DoWk w B X wa) (a b c : Value) : DoWk w B X (((wa.setCell ⟨w.heap.size, 0, none⟩ a).setCell ⟨w.heap.size, 1, none⟩ b).setCell ⟨w.heap.size, 2, none⟩ c) := by
  have hg := grown_three wa w.heap.size a b c
  obtain ⟨h1, h2, h3, h4, _, _, _, h5⟩ := h
  exact ⟨below_three h1 (Nat.le_refl _) a b c, Nat.le_trans h2 hg.size, h3.grown hg (fun e => by injection e; omega), h4.grown hg (fun e => by injection e; omega), a, b, c, h5.three a b c⟩
/-- What one operation does to the world: the one at a writes above B, the one at b writes the box. -/
def DoMn (w : World) (B : Nat) (p : Option Nat) (q i : Nat) (a b : World) : Prop := if some i = p then Below B a b else if i = q then a.grownBy b (some w.heap.size) ∧ (∃ x y z : Value, Blk a w.heap.size 40 #[x, y, z]) else Below a.heap.size a b
theorem DoMn.fso {w a b : World} {B q i : Nat} {p : Option Nat} {vN vF vO : Value} {fs : FS} (h : DoMn w B p q i a b) (hi : some i ≠ p) (hS : FsO a B vN vF vO fs) : FsO b B vN vF vO fs := by
  unfold DoMn at h
  rw [if_neg hi] at h
  split at h
  · obtain ⟨hg, _, _, _, hb⟩ := h
    exact hS.box hb hg
  · exact hS.up h
theorem DoMn.fir {w a b : World} {B q i : Nat} {p : Option Nat} {t : Fi} (h : DoMn w B p q i a b) (hi : some i ≠ p) (hS : FiR a t) : FiR b t := by
  unfold DoMn at h
  rw [if_neg hi] at h
  split at h
  · obtain ⟨hg, _, _, _, hb⟩ := h
    exact hS.grown hg (noU8 hb (by decide))
  · exact hS.up h
theorem DoMn.blk {w a b : World} {B q i : Nat} {p : Option Nat} {cs : Array Value} (h : DoMn w B p q i a b) (hi : i ≠ q) (hB : w.heap.size < B) (hb : Blk a w.heap.size 40 cs) : Blk b w.heap.size 40 cs := by
  unfold DoMn at h
  rw [if_neg hi] at h
  split at h
  · exact hb.below h hB
  · exact hb.below h hb.lt
theorem DoMn.pure {w a : World} {B q i : Nat} {p : Option Nat} (hp : some i ≠ p) (hq : i ≠ q) : DoMn w B p q i a a := by
  unfold DoMn
  rw [if_neg hp, if_neg hq]
  exact Below.refl _ _
/-- The place that at gives. -/
theorem at_place {fs : FS} (hi : Inv fs) {k : Nat} (hk : k < fs.F.length) {r : Int} (hr : AtRes fs.F fs.F[k].ino r) : r = (k : Int) := by
  rcases hr with ⟨_, hno⟩ | ⟨j, hj, hrj, hij, _⟩
  · exact absurd rfl (hno _ (List.getElem_mem hk))
  · have : j = k := by
      rcases Nat.lt_trichotomy j k with hlt | rfl | hgt
      · have := List.pairwise_iff_getElem.1 hi.f j k hj hk hlt
        omega
      · rfl
      · have := List.pairwise_iff_getElem.1 hi.f k j hk hj hgt
        omega
    rw [hrj, this]
theorem fset {w : World} {B g k j : Nat} {vN vF vO u : Value} {fs : FS} {a : Fi} (hO : FsO w B vN vF vO fs) (hg : vF.ownBlock = some g) (hk : k < fs.F.length) (hj : j < 5)
    (ha : fiV a = (fiV fs.F[k]).set j u) (hr : FiR w a) : FsO (w.setCell ⟨g, k * 5 + j, none⟩ u) B vN vF vO ⟨fs.N, fs.F.set k a, fs.O⟩ := by
  obtain ⟨N, F, O⟩ := fs
  have hgr : w.grownBy (w.setCell ⟨g, k * 5 + j, none⟩ u) vF.ownBlock := by
    rw [hg]; exact grownBy_set (World.grownBy.refl w _) _ _
  have hst := own_store hO.f hg (k * 5 + j) u
  have hrow : (fis F).set (k * 5 + j) u = fis (F.set k a) := rows_set fiV_len F k hk j hj u a ha
  rw [show fis (FS.mk N F O).F = fis F from rfl, hrow] at hst
  have hno := own_noU8 hO.f (by decide)
  have hf : (w.setCell ⟨g, k * 5 + j, none⟩ u).ownsRow B 72 5 vF (F.set k a).length (fis (F.set k a)) := by rw [List.length_set]; exact hst
  exact hO.putF hgr hf (fun t ht => by
    rcases List.mem_or_eq_of_mem_set ht with h | rfl
    · exact (hO.d t h).grown hgr hno
    · exact hr.grown hgr hno)
def fr147 (x : Nat → Value) : Array Value := #[x 0, x 1, x 2, x 3, x 4, x 5, x 6, x 7, x 8, x 9, x 10, x 11, x 12, x 13, x 14, x 15, x 16, x 17, x 18, x 19, x 20, x 21, x 22, x 23, x 24, x 25, x 26, x 27, x 28, x 29, x 30, x 31, x 32, x 33, x 34, x 35, x 36, x 37, x 38, x 39, x 40, x 41, x 42, x 43, x 44, x 45, x 46, x 47, x 48, x 49, x 50, x 51, x 52, x 53, x 54, x 55, x 56, x 57, x 58, x 59, x 60, x 61, x 62, x 63, x 64, x 65, x 66, x 67, x 68, x 69, x 70, x 71, x 72, x 73, x 74, x 75, x 76, x 77, x 78, x 79, x 80, x 81, x 82, x 83, x 84, x 85, x 86, x 87, x 88, x 89, x 90, x 91, x 92, x 93, x 94, x 95, x 96, x 97, x 98, x 99, x 100, x 101, x 102, x 103, x 104, x 105, x 106, x 107, x 108, x 109, x 110, x 111, x 112, x 113, x 114, x 115, x 116, x 117, x 118, x 119, x 120, x 121, x 122, x 123, x 124, x 125, x 126, x 127, x 128, x 129, x 130, x 131, x 132, x 133, x 134, x 135, x 136, x 137, x 138, x 139, x 140, x 141, x 142, x 143, x 144, x 145, x 146]
set_option maxHeartbeats 16000000 in
set_option maxRecDepth 100000 in
theorem refDo_any (vN vF vO : Value) (fs : FS) (c : Ch) (w : World) (h : FsT w vN vF vO fs) (hi : Inv fs) (ho : fs.O.length ≤ 800) (hc : ChOk w c) :
    Calls Try.prog 17 #[.agg #[vN, vF, vO], .agg (chV c)] w (DoOut fs c w) := by
  obtain ⟨A1, c1, rfl, _, _⟩ := h.n.form
  obtain ⟨A2, c2, rfl, _, _⟩ := h.f.form
  obtain ⟨A3, c3, rfl, _, _⟩ := h.o.form
  obtain ⟨A, cc, hv, _, _⟩ := Sl.form hc.r
  obtain ⟨kind, name, dst, dv, data, n⟩ := c
  simp only at hv
  subst hv
  have hdl := hc.d
  have hcn := hc.n
  simp only at hdl hcn
  simp only [chV]
  have hcnt := hi.count
  have hbn := hi.b
  obtain ⟨W, hW⟩ : ∃ W, W = (((w.alloc (.cells #[.slice A1 fs.N.length c1, .slice A2 fs.F.length c2, .slice A3 fs.O.length c3] 40)).alloc (.cells #[.int .i64 kind, .string name, .string dst, .slice A data.length cc, .int .i64 n] 46)).alloc (.cells #[.slice none 0 0, .slice none 0 0, .slice none 0 0] 40)) := ⟨_, rfl⟩
  have hb : Below w.heap.size w W := hW ▸ (((Below.refl _ w).alloc (Nat.le_refl _) _).alloc (by simp) _).alloc (by simp; omega) _
  have hF : Blk W w.heap.size 40 #[.slice A1 fs.N.length c1, .slice A2 fs.F.length c2, .slice A3 fs.O.length c3] := hW ▸ ((Blk.new w _ _).alloc _).alloc _
  have hX : Blk W (w.heap.size + 1) 46 #[.int .i64 kind, .string name, .string dst, .slice A data.length cc, .int .i64 n] := hW ▸ (Blk.new_at (by simp)).alloc _
  have hZ : Blk W (w.heap.size + 1 + 1) 40 #[.slice none 0 0, .slice none 0 0, .slice none 0 0] := hW ▸ Blk.new_at (by simp)
  have HT := keep (h.up hb)
  have HCO : Hid (ChOk W ⟨kind, name, dst, .slice A data.length cc, data, n⟩) := keep (hc.up hb)
  have HB := keep hb
  have HF := keep hF
  have HX := keep hX
  have HZ := keep hZ
  have HI := keep hi
  have HWS : Hid (W.heap.size = w.heap.size + 1 + 1 + 1) := keep (by rw [hW]; simp)
  have HRE := keep (refRefuse_any _ _ _ fs ⟨kind, name, dst, .slice A data.length cc, data, n⟩ W HT.out hi ho HCO.out)
  obtain ⟨f0, f1, f2⟩ := hF.cell3
  obtain ⟨x0, x1, x2, x3, x4⟩ := hX.cell5
  have HCW := keep hc.r
  clear h hb hF hX hZ hi hc
  go_enter Try.func17, Try.ntmps17
  go_upto_region 1 with fail
  rw [← hW]
  clear hW
  go_wp2_with fail
  refine HRE.out.mono ?_
  rintro e w1 ⟨rfl, hb1⟩
  obtain ⟨e0, he0⟩ : ∃ e, (doP fs.p (Ch.p ⟨kind, name, dst, .slice A data.length cc, data, n⟩)).1 = e := ⟨_, rfl⟩
  rw [he0]
  have HE0 := keep he0
  have HT1 := keep (HT.out.up hb1)
  have HF1 := keep (HF.out.below hb1 HF.out.lt)
  have HX1 := keep (HX.out.below hb1 HX.out.lt)
  have HZ1 := keep (HZ.out.below hb1 HZ.out.lt)
  have HB1 := keep (bchain HB.out hb1)
  have HCO1 := keep (HCO.out.up hb1)
  have HW1 : Hid (w.heap.size + 1 + 1 < w1.heap.size) := keep (by have := HWS.out; have := hb1.size; omega)
  clear he0 hb1 f0 f1 f2 x0 x1 x2 x3 x4 HT HF HX HZ HB HCO HRE
  obtain ⟨f0, f1, f2⟩ := HF1.out.cell3
  by_cases hz : e0 = 0
  · subst hz
    have HC := keep (refCopy_any _ _ _ fs w1 HT1.out (by omega) (by omega) (by omega))
    go_wp2_with fail
    refine HC.out.mono ?_
    rintro e w2 ⟨vN1, vF1, vO1, rfl, hO2, hb2⟩
    obtain ⟨B1, b1, rfl, _⟩ := own_sl hO2.n
    obtain ⟨B2, b2, rfl, _⟩ := own_sl hO2.f
    obtain ⟨B3, b3, rfl, _⟩ := own_sl hO2.o
    obtain ⟨B, hB⟩ : ∃ B, B = w1.heap.size := ⟨_, rfl⟩
    rw [← hB] at hO2
    have hF2 := HF1.out.below hb2 HF1.out.lt
    have hgr := grown_three w2 w.heap.size (.slice B1 fs.N.length b1) (.slice B2 fs.F.length b2) (.slice B3 fs.O.length b3)
    have HS3 : Hid (FsO _ B (.slice B1 fs.N.length b1) (.slice B2 fs.F.length b2) (.slice B3 fs.O.length b3) fs) := keep ⟨hO2.n.kept hgr (.inr (own_off hO2.n hF2 (by decide))), hO2.f.kept hgr (.inr (own_off hO2.f hF2 (by decide))), hO2.o.kept hgr (.inr (own_off hO2.o hF2 (by decide))), fun t ht => (hO2.d t ht).grown hgr (noU8 hF2 (by decide))⟩
    have HF3 := keep (hF2.three (.slice B1 fs.N.length b1) (.slice B2 fs.F.length b2) (.slice B3 fs.O.length b3))
    have HX3 := keep ((HX1.out.below hb2 HX1.out.lt).grown hgr (fun e => by injection e; omega))
    have HZ3 := keep ((HZ1.out.below hb2 HZ1.out.lt).grown hgr (fun e => by injection e; omega))
    have HBL3 := keep (Nat.le_trans (show B ≤ w2.heap.size by rw [hB]; exact hb2.size) hgr.size)
    have HBL3 := keep (Nat.le_trans (show B ≤ w2.heap.size by rw [hB]; exact hb2.size) hgr.size)
    have HB3 := keep (below_three (bchain HB1.out hb2) (Nat.le_refl _) (.slice B1 fs.N.length b1) (.slice B2 fs.F.length b2) (.slice B3 fs.O.length b3))
    obtain ⟨t0, t1, t2⟩ := hF2.cell3
    obtain ⟨u0, u1, u2⟩ := hF2.froz3
    clear hO2 hb2 hF2 hgr HT1 HF1 HX1 HZ1 HB1 HCO1 HC
    obtain ⟨x0, x1, x2, x3, x4⟩ := HX3.out.cell5
    go_upto_region 5 with fail
    generalize ((w2.setCell ⟨w.heap.size, 0, none⟩ (.slice B1 fs.N.length b1)).setCell ⟨w.heap.size, 1, none⟩ (.slice B2 fs.F.length b2)).setCell ⟨w.heap.size, 2, none⟩ (.slice B3 fs.O.length b3) = W3 at *
    clear t0 t1 t2 u0 u1 u2
    have HL := keep (refLookup_any _ _ _ fs name W3 HS3.out.t (by omega))
    obtain ⟨f0, f1, f2⟩ := HF3.out.cell3
    go_wp2_with fail
    refine HL.out.mono ?_
    rintro e w4 ⟨rfl, hb4⟩
    obtain ⟨q1, hq1⟩ : ∃ q, hasP fs.N name = q := ⟨_, rfl⟩
    obtain ⟨i1, hi1⟩ : ∃ i, (lookP fs.N name).getD 0 = i := ⟨_, rfl⟩
    rw [hq1, hi1]
    have HQ1 := keep hq1
    have HI1 := keep hi1
    have HS4 := keep (HS3.out.up hb4)
    have HF4 := keep (HF3.out.below hb4 HF3.out.lt)
    have HX4 := keep (HX3.out.below hb4 HX3.out.lt)
    have HZ4 := keep (HZ3.out.below hb4 HZ3.out.lt)
    have HB4 := keep (bchain HB3.out hb4)
    have HBL4 : Hid (B ≤ w4.heap.size) := keep (Nat.le_trans HBL3.out hb4.size)
    clear hq1 hi1 hb4 f0 f1 f2 x0 x1 x2 x3 x4 HS3 HF3 HX3 HZ3 HB3 HL
    have hsrc : Sl w4 (lt w.heap.size) 1 (.slice A data.length cc) data.length (bys data) := Sl.below HCW.out HB4.out (Nat.le_refl _)
    have x3 := (HX4.out.cell 3).trans rfl
    go_upto_region 7 with (refine wpList_appendS elBy rfl _ _ rfl w4.heap.size (.slice none 0 0) 0 [] rfl (World.ownsRow_nil _ _ _ _) _ _ data.length (bys data) rfl hsrc (bys_one _) (by unfold maxLen; omega) (by omega) (Nat.le_refl _) ?_; intro vd w5 hd5 hb5 hg5)
    rw [Nat.zero_add, List.nil_append] at hd5
    have HD5 := keep (own_u8 hd5)
    obtain ⟨DA, DC, rfl, _⟩ := own_sl hd5
    have HS5 := keep (HS4.out.up hb5)
    have HF5 := keep (HF4.out.below hb5 HF4.out.lt)
    have HX5 := keep (HX4.out.below hb5 HX4.out.lt)
    have HZ5 := keep (HZ4.out.below hb5 HZ4.out.lt)
    have HB5 := keep (bchain HB4.out hb5)
    have HBL5 : Hid (B ≤ w5.heap.size) := keep (Nat.le_trans HBL4.out hb5.size)
    clear hd5 hb5 hg5 hsrc x3 HS4 HF4 HX4 HZ4 HB4
    have HAT := keep (refAt_any _ _ _ fs i1 w5 HS5.out.t (by omega))
    obtain ⟨f0, f1, f2⟩ := HF5.out.cell3
    go_wp2_with fail
    refine HAT.out.mono ?_
    rintro e w6 ⟨r, rfl, hr, hb6⟩
    have HR := keep hr
    have HD6 := keep ((show FiR w5 ⟨0, .slice DA data.length DC, data, false, false, 0⟩ from ⟨HD5.out, hdl⟩).up hb6).1
    have HS6 := keep (HS5.out.up hb6)
    have HF6 := keep (HF5.out.below hb6 HF5.out.lt)
    have HX6 := keep (HX5.out.below hb6 HX5.out.lt)
    have HZ6 := keep (HZ5.out.below hb6 HZ5.out.lt)
    have HB6 := keep (bchain HB5.out hb6)
    have HGB : Hid (w.heap.size + 1 + 1 < B ∧ B ≤ w6.heap.size) := keep ⟨by rw [hB]; exact HW1.out, Nat.le_trans HBL5.out hb6.size⟩
    clear hr hb6 f0 f1 f2 HS5 HF5 HX5 HZ5 HB5 HD5 HAT hB
    obtain ⟨hk8, hbad, hst⟩ := doP_ok HE0.out
    have HBAD : Hid (badNm ⟨kind, name, dst, .slice A data.length cc, data, n⟩ = false) := keep hbad
    have HST : Hid ((stepP fs.p ⟨kind, name, dst, data, n⟩).1 = 0) := keep hst
    have hk : kind = 1 ∨ kind = 2 ∨ kind = 3 ∨ kind = 4 ∨ kind = 5 ∨ kind = 6 ∨ kind = 7 ∨ kind = 8 := by
      simp only [Ch.p] at hk8
      omega
    clear hk8 hbad hst
    obtain ⟨f0, f1, f2⟩ := HF6.out.cell3
    obtain ⟨x0, x1, x2, x3, x4⟩ := HX6.out.cell5
    rcases hk with rfl | rfl | rfl | rfl | rfl | rfl | rfl | rfl
    · have hh := step_1 HST.out
      have HNO := keep (hasN_no hh.1)
      have HLT := keep hh.2.1
      have HDL := keep hh.2.2
      obtain ⟨k, hg, hfr, hkl⟩ := gap_of HI.out
      have hfree := refFree_any _ _ _ fs w6 HS6.out.t HI.out (by omega)
      rw [hfr] at hfree
      have HFR := keep hfree
      have HG := keep hg
      have HKL := keep hkl
      have HMN := keep (show fs.N.length ≤ 1000000 by omega)
      have HBL6 : Hid (B ≤ w6.heap.size) := keep HGB.out.2
      have hmF : fs.F.length ≤ 1000000 := by omega
      clear hh hfr hfree hg hkl
      go_wp2_with fail
      refine HFR.out.mono ?_
      rintro e w7 ⟨rfl, hb7⟩
      have HS7 := keep (HS6.out.up hb7)
      have HF7 := keep (HF6.out.below hb7 HF6.out.lt)
      have HX7 := keep (HX6.out.below hb7 HX6.out.lt)
      have HZ7 := keep (HZ6.out.below hb7 HZ6.out.lt)
      have HB7 := keep (bchain HB6.out hb7)
      have HBL7 : Hid (B ≤ w7.heap.size) := keep (Nat.le_trans HBL6.out hb7.size)
      have HD7 : Hid (FiR w7 ⟨(k : Int) + 1, .slice DA data.length DC, data, false, true, 0⟩) := keep ((show FiR w6 ⟨(k : Int) + 1, .slice DA data.length DC, data, false, true, 0⟩ from ⟨HD6.out, hdl⟩).up hb7)
      have HADD : Hid (∀ wa, B ≤ wa.heap.size → FsO wa B (.slice B1 fs.N.length b1) (.slice B2 fs.F.length b2) (.slice B3 fs.O.length b3) fs → FiR wa ⟨(k : Int) + 1, .slice DA data.length DC, data, false, true, 0⟩ → Calls Try.prog 36 #[.agg #[(.slice B1 fs.N.length b1), (.slice B2 fs.F.length b2), (.slice B3 fs.O.length b3)], .agg #[.int .i64 ((k : Int) + 1), .slice DA data.length DC, .bool false, .bool true, .int .i64 0]] wa (RefAdd fs ⟨(k : Int) + 1, .slice DA data.length DC, data, false, true, 0⟩ B (.slice B1 fs.N.length b1) (.slice B3 fs.O.length b3) wa)) := keep (fun wa h1 h2 h3 => refAdd_any _ _ _ fs ⟨(k : Int) + 1, .slice DA data.length DC, data, false, true, 0⟩ B wa h1 h2 h3 hmF)
      clear hb7 f0 f1 f2 x0 x1 x2 x3 x4 HFR HS6 HF6 HX6 HZ6 HB6 HD6 hmF
      go_wp2_with fail
      rename_i K' hK'
      have HK := keep hK'
      clear hK'
      refine reg_start 147 fr147 (fun _ => rfl) _ rfl fun x0 hx0 => ?_
      have y2 : x0 2 = .pointer (some ⟨w.heap.size, 0, none⟩) := hx0 2
      have y3 : x0 3 = .pointer (some ⟨w.heap.size + 1, 0, none⟩) := hx0 3
      have y11 : x0 11 = .int .i64 ((k : Int) + 1) := hx0 11
      have y9 : x0 9 = .slice DA data.length DC := hx0 9
      refine wp_regV (by kernel_rfl) 147 (fun i =>  i) (by kernel_rfl) fr147 (fun _ => rfl) x0 (DoWk w B #[.int .i64 1, .string name, .string dst, .slice A data.length cc, .int .i64 n]) (DoMn w B (some 4) 9) (fun i v u wa => match i with
          | 0 => v = .agg #[(.slice B1 fs.N.length b1), (.slice B2 fs.F.length b2), (.slice B3 fs.O.length b3)]
          | 1 => v = .int .i64 ((k : Int) + 1)
          | 2 => v = .slice DA data.length DC
          | 3 => v = .agg #[.int .i64 ((k : Int) + 1), .slice DA data.length DC, .bool false, .bool true, .int .i64 0]
          | 4 => ∃ vF' : Value, v = .agg #[(.slice B1 fs.N.length b1), vF', (.slice B3 fs.O.length b3)] ∧ FsO wa B (.slice B1 fs.N.length b1) vF' (.slice B3 fs.O.length b3) ⟨fs.N, (putFile fs.F k ⟨(k : Int) + 1, .slice DA data.length DC, data, false, true, 0⟩), fs.O⟩
          | 5 => v = .pointer (some ⟨w.heap.size + 1, 1, none⟩)
          | 6 => v = .string name
          | 7 => v = .int .i64 ((k : Int) + 1)
          | 8 => ∃ vN' vF' : Value, v = .agg #[vN', vF', (.slice B3 fs.O.length b3)] ∧ FsO wa B vN' vF' (.slice B3 fs.O.length b3) (⟨(putName (rmName fs.N name) ⟨name, (k : Int) + 1⟩), (putFile fs.F k ⟨(k : Int) + 1, .slice DA data.length DC, data, false, true, 0⟩), fs.O⟩ : FS)
          | 9 => ∃ vN' vF' : Value, Blk wa w.heap.size 40 #[vN', vF', (.slice B3 fs.O.length b3)] ∧ FsO wa B vN' vF' (.slice B3 fs.O.length b3) (⟨(putName (rmName fs.N name) ⟨name, (k : Int) + 1⟩), (putFile fs.F k ⟨(k : Int) + 1, .slice DA data.length DC, data, false, true, 0⟩), fs.O⟩ : FS)
          | _ => True) (fun m wa => if m = 4 then FsO wa B (.slice B1 fs.N.length b1) (.slice B2 fs.F.length b2) (.slice B3 fs.O.length b3) fs ∧ FiR wa ⟨(k : Int) + 1, .slice DA data.length DC, data, false, true, 0⟩ else if m = 9 then Blk wa w.heap.size 40 #[(.slice B1 fs.N.length b1), (.slice B2 fs.F.length b2), (.slice B3 fs.O.length b3)] else True) (fun m => by
          by_cases h1 : m = 4
          · rw [if_pos h1]; exact ⟨HS7.out.up (below_drewN (Below.refl _ w7) 1), HD7.out.up (below_drewN (Below.refl _ w7) 1)⟩
          · rw [if_neg h1]
            split
            · exact HF7.out
            · trivial) (fun i m wa wb hne hmn h => by
          by_cases h1 : m = 4
          · rw [if_pos h1] at h ⊢
            exact ⟨DoMn.fso hmn (fun e => by injection e with e; exact hne (e.trans h1.symm)) h.1, DoMn.fir hmn (fun e => by injection e with e; exact hne (e.trans h1.symm)) h.2⟩
          · rw [if_neg h1] at h ⊢
            by_cases h2 : m = 9
            · rw [if_pos h2] at h ⊢
              exact DoMn.blk hmn (fun e => hne (e.trans h2.symm)) (by have := HGB.out; omega) h
            · rw [if_neg h2]; trivial) (by
            intro i j v u wa wb hbf hmn hp
            match j, hp with
            | 0, hp => exact hp
            | 1, hp => exact hp
            | 2, hp => exact hp
            | 3, hp => exact hp
            | 4, hp => obtain ⟨vF', h1, h2⟩ := hp; exact ⟨vF', h1, DoMn.fso hmn (fun e => by injection e with e; subst e; exact Bool.false_ne_true (hbf.symm.trans (by kernel_rfl))) h2⟩
            | 5, hp => exact hp
            | 6, hp => exact hp
            | 7, hp => exact hp
            | 8, hp => obtain ⟨vN', vF', h1, h2⟩ := hp; exact ⟨vN', vF', h1, DoMn.fso hmn (fun e => by injection e with e; subst e; exact Bool.false_ne_true (hbf.symm.trans (by kernel_rfl))) h2⟩
            | 9, hp => obtain ⟨vN', vF', h1, h2⟩ := hp; exact ⟨vN', vF', DoMn.blk hmn (fun e => by subst e; exact Bool.false_ne_true (hbf.symm.trans (by kernel_rfl))) (by have := HGB.out; omega) h1, DoMn.fso hmn (fun e => by injection e with e; subst e; exact Bool.false_ne_true (hbf.symm.trans (by kernel_rfl))) h2⟩
            | _ + 10, hp => trivial) (⟨HB7.out.drew, HBL7.out, HX7.out, HZ7.out, _, _, _, HF7.out⟩) ?step ?skip ?done
      case step =>
        intro i o ho x wa K hW hbef hout hdep hgd hK
        have E2 : Hid (x 2 = .pointer (some ⟨w.heap.size, 0, none⟩)) := keep ((hout 2 (by decide)).trans y2)
        have E3 : Hid (x 3 = .pointer (some ⟨w.heap.size + 1, 0, none⟩)) := keep ((hout 3 (by decide)).trans y3)
        have E11 : Hid (x 11 = .int .i64 ((k : Int) + 1)) := keep ((hout 11 (by decide)).trans y11)
        have E9 : Hid (x 9 = .slice DA data.length DC) := keep ((hout 9 (by decide)).trans y9)
        clear hout hx0 y2 y3 y11 y9
        have hi : i < 10 := (Array.getElem?_eq_some_iff.1 ho).1
        have hcase : i = 0 ∨ i = 1 ∨ i = 2 ∨ i = 3 ∨ i = 4 ∨ i = 5 ∨ i = 6 ∨ i = 7 ∨ i = 8 ∨ i = 9 := by omega
        clear hi
        rcases hcase with rfl | rfl | rfl | rfl | rfl | rfl | rfl | rfl | rfl | rfl
        · -- operation 0
          simp only [List.getElem?_toArray, List.getElem?_cons_zero, Option.some.injEq] at ho
          subst ho
          have e9 : Blk wa w.heap.size 40 #[(.slice B1 fs.N.length b1), (.slice B2 fs.F.length b2), (.slice B3 fs.O.length b3)] := hbef 9 (by decide) (by kernel_rfl)
          clear hdep hgd hbef
          obtain ⟨f0, f1, f2⟩ := e9.cell3
          unfold fr147
          rw [E2.out]
          go_simp
          have hk : K { tmps := #[x 0, x 1, x 2, x 3, x 4, x 5, x 6, x 7, x 8, x 9, x 10, x 11, x 12, x 13, x 14, x 15, x 16, x 17, x 18, x 19, x 20, x 21, x 22, x 23, x 24, x 25, x 26, x 27, x 28, x 29, x 30, x 31, x 32, x 33, x 34, x 35, x 36, x 37, x 38, x 39, x 40, x 41, x 42, .agg #[(.slice B1 fs.N.length b1), (.slice B2 fs.F.length b2), (.slice B3 fs.O.length b3)], x 44, x 45, x 46, x 47, x 48, x 49, x 50, x 51, x 52, x 53, x 54, x 55, x 56, x 57, x 58, x 59, x 60, x 61, x 62, x 63, x 64, x 65, x 66, x 67, x 68, x 69, x 70, x 71, x 72, x 73, x 74, x 75, x 76, x 77, x 78, x 79, x 80, x 81, x 82, x 83, x 84, x 85, x 86, x 87, x 88, x 89, x 90, x 91, x 92, x 93, x 94, x 95, x 96, x 97, x 98, x 99, x 100, x 101, x 102, x 103, x 104, x 105, x 106, x 107, x 108, x 109, x 110, x 111, x 112, x 113, x 114, x 115, x 116, x 117, x 118, x 119, x 120, x 121, x 122, x 123, x 124, x 125, x 126, x 127, x 128, x 129, x 130, x 131, x 132, x 133, x 134, x 135, x 136, x 137, x 138, x 139, x 140, x 141, x 142, x 143, x 144, x 145, x 146], defers := [] } wa := hK _ _ hW (DoMn.pure (by decide) (by decide)) rfl
          rw [E2.out] at hk
          exact hk
        · -- operation 1
          simp only [List.getElem?_toArray, List.getElem?_cons_succ, List.getElem?_cons_zero, Option.some.injEq] at ho
          subst ho
          clear hdep hgd hbef
          unfold fr147
          rw [E11.out]
          go_simp
          have hk : K { tmps := #[x 0, x 1, x 2, x 3, x 4, x 5, x 6, x 7, x 8, x 9, x 10, x 11, x 12, x 13, x 14, x 15, x 16, x 17, x 18, x 19, x 20, x 21, x 22, x 23, x 24, x 25, x 26, x 27, x 28, x 29, x 30, x 31, x 32, x 33, x 34, x 35, x 36, x 37, x 38, x 39, x 40, x 41, x 42, x 43, .int .i64 ((k : Int) + 1), x 45, x 46, x 47, x 48, x 49, x 50, x 51, x 52, x 53, x 54, x 55, x 56, x 57, x 58, x 59, x 60, x 61, x 62, x 63, x 64, x 65, x 66, x 67, x 68, x 69, x 70, x 71, x 72, x 73, x 74, x 75, x 76, x 77, x 78, x 79, x 80, x 81, x 82, x 83, x 84, x 85, x 86, x 87, x 88, x 89, x 90, x 91, x 92, x 93, x 94, x 95, x 96, x 97, x 98, x 99, x 100, x 101, x 102, x 103, x 104, x 105, x 106, x 107, x 108, x 109, x 110, x 111, x 112, x 113, x 114, x 115, x 116, x 117, x 118, x 119, x 120, x 121, x 122, x 123, x 124, x 125, x 126, x 127, x 128, x 129, x 130, x 131, x 132, x 133, x 134, x 135, x 136, x 137, x 138, x 139, x 140, x 141, x 142, x 143, x 144, x 145, x 146], defers := [] } wa := hK _ _ hW (DoMn.pure (by decide) (by decide)) rfl
          rw [E11.out] at hk
          exact hk
        · -- operation 2
          simp only [List.getElem?_toArray, List.getElem?_cons_succ, List.getElem?_cons_zero, Option.some.injEq] at ho
          subst ho
          clear hdep hgd hbef
          unfold fr147
          rw [E9.out]
          go_simp
          have hk : K { tmps := #[x 0, x 1, x 2, x 3, x 4, x 5, x 6, x 7, x 8, x 9, x 10, x 11, x 12, x 13, x 14, x 15, x 16, x 17, x 18, x 19, x 20, x 21, x 22, x 23, x 24, x 25, x 26, x 27, x 28, x 29, x 30, x 31, x 32, x 33, x 34, x 35, x 36, x 37, x 38, x 39, x 40, x 41, x 42, x 43, x 44, .slice DA data.length DC, x 46, x 47, x 48, x 49, x 50, x 51, x 52, x 53, x 54, x 55, x 56, x 57, x 58, x 59, x 60, x 61, x 62, x 63, x 64, x 65, x 66, x 67, x 68, x 69, x 70, x 71, x 72, x 73, x 74, x 75, x 76, x 77, x 78, x 79, x 80, x 81, x 82, x 83, x 84, x 85, x 86, x 87, x 88, x 89, x 90, x 91, x 92, x 93, x 94, x 95, x 96, x 97, x 98, x 99, x 100, x 101, x 102, x 103, x 104, x 105, x 106, x 107, x 108, x 109, x 110, x 111, x 112, x 113, x 114, x 115, x 116, x 117, x 118, x 119, x 120, x 121, x 122, x 123, x 124, x 125, x 126, x 127, x 128, x 129, x 130, x 131, x 132, x 133, x 134, x 135, x 136, x 137, x 138, x 139, x 140, x 141, x 142, x 143, x 144, x 145, x 146], defers := [] } wa := hK _ _ hW (DoMn.pure (by decide) (by decide)) rfl
          rw [E9.out] at hk
          exact hk
        · -- operation 3
          simp only [List.getElem?_toArray, List.getElem?_cons_succ, List.getElem?_cons_zero, Option.some.injEq] at ho
          subst ho
          have p1 : (x 44) = .int .i64 ((k : Int) + 1) := hdep 1 (List.mem_of_elem_eq_true (by kernel_rfl))
          have p2 : (x 45) = .slice DA data.length DC := hdep 2 (List.mem_of_elem_eq_true (by kernel_rfl))
          clear hdep hgd hbef
          unfold fr147
          rw [p1, p2]
          go_simp
          have hk : K { tmps := #[x 0, x 1, x 2, x 3, x 4, x 5, x 6, x 7, x 8, x 9, x 10, x 11, x 12, x 13, x 14, x 15, x 16, x 17, x 18, x 19, x 20, x 21, x 22, x 23, x 24, x 25, x 26, x 27, x 28, x 29, x 30, x 31, x 32, x 33, x 34, x 35, x 36, x 37, x 38, x 39, x 40, x 41, x 42, x 43, x 44, x 45, .agg #[.int .i64 ((k : Int) + 1), .slice DA data.length DC, .bool false, .bool true, .int .i64 0], x 47, x 48, x 49, x 50, x 51, x 52, x 53, x 54, x 55, x 56, x 57, x 58, x 59, x 60, x 61, x 62, x 63, x 64, x 65, x 66, x 67, x 68, x 69, x 70, x 71, x 72, x 73, x 74, x 75, x 76, x 77, x 78, x 79, x 80, x 81, x 82, x 83, x 84, x 85, x 86, x 87, x 88, x 89, x 90, x 91, x 92, x 93, x 94, x 95, x 96, x 97, x 98, x 99, x 100, x 101, x 102, x 103, x 104, x 105, x 106, x 107, x 108, x 109, x 110, x 111, x 112, x 113, x 114, x 115, x 116, x 117, x 118, x 119, x 120, x 121, x 122, x 123, x 124, x 125, x 126, x 127, x 128, x 129, x 130, x 131, x 132, x 133, x 134, x 135, x 136, x 137, x 138, x 139, x 140, x 141, x 142, x 143, x 144, x 145, x 146], defers := [] } wa := hK _ _ hW (DoMn.pure (by decide) (by decide)) rfl
          rw [p1, p2] at hk
          exact hk
        · -- operation 4
          simp only [List.getElem?_toArray, List.getElem?_cons_succ, List.getElem?_cons_zero, Option.some.injEq] at ho
          subst ho
          have p0 : (x 43) = .agg #[(.slice B1 fs.N.length b1), (.slice B2 fs.F.length b2), (.slice B3 fs.O.length b3)] := hdep 0 (List.mem_of_elem_eq_true (by kernel_rfl))
          have p3 : (x 46) = .agg #[.int .i64 ((k : Int) + 1), .slice DA data.length DC, .bool false, .bool true, .int .i64 0] := hdep 3 (List.mem_of_elem_eq_true (by kernel_rfl))
          have e4 : FsO wa B (.slice B1 fs.N.length b1) (.slice B2 fs.F.length b2) (.slice B3 fs.O.length b3) fs ∧ FiR wa ⟨(k : Int) + 1, .slice DA data.length DC, data, false, true, 0⟩ := hbef 4 (by decide) (by kernel_rfl)
          clear hdep hgd hbef
          unfold fr147
          rw [p0, p3]
          go_simp
          refine (HADD.out wa hW.2.1 e4.1 e4.2).mono ?_
          rintro e w8 ⟨p, vF', hins, rfl, ho8, hb8⟩
          rw [insAt_gap HI.out HG.out HKL.out rfl hins] at ho8
          have hk : K { tmps := #[x 0, x 1, x 2, x 3, x 4, x 5, x 6, x 7, x 8, x 9, x 10, x 11, x 12, x 13, x 14, x 15, x 16, x 17, x 18, x 19, x 20, x 21, x 22, x 23, x 24, x 25, x 26, x 27, x 28, x 29, x 30, x 31, x 32, x 33, x 34, x 35, x 36, x 37, x 38, x 39, x 40, x 41, x 42, x 43, x 44, x 45, x 46, .agg #[(.slice B1 fs.N.length b1), vF', (.slice B3 fs.O.length b3)], x 48, x 49, x 50, x 51, x 52, x 53, x 54, x 55, x 56, x 57, x 58, x 59, x 60, x 61, x 62, x 63, x 64, x 65, x 66, x 67, x 68, x 69, x 70, x 71, x 72, x 73, x 74, x 75, x 76, x 77, x 78, x 79, x 80, x 81, x 82, x 83, x 84, x 85, x 86, x 87, x 88, x 89, x 90, x 91, x 92, x 93, x 94, x 95, x 96, x 97, x 98, x 99, x 100, x 101, x 102, x 103, x 104, x 105, x 106, x 107, x 108, x 109, x 110, x 111, x 112, x 113, x 114, x 115, x 116, x 117, x 118, x 119, x 120, x 121, x 122, x 123, x 124, x 125, x 126, x 127, x 128, x 129, x 130, x 131, x 132, x 133, x 134, x 135, x 136, x 137, x 138, x 139, x 140, x 141, x 142, x 143, x 144, x 145, x 146], defers := [] } w8 := hK _ _ (hW.low HGB.out.1 hb8) (by unfold DoMn; rw [if_pos rfl]; exact hb8) ⟨vF', rfl, ho8⟩
          rw [p0, p3] at hk
          exact hk
        · -- operation 5
          simp only [List.getElem?_toArray, List.getElem?_cons_succ, List.getElem?_cons_zero, Option.some.injEq] at ho
          subst ho
          clear hdep hgd hbef
          unfold fr147
          rw [E3.out]
          go_simp
          have hk : K { tmps := #[x 0, x 1, x 2, x 3, x 4, x 5, x 6, x 7, x 8, x 9, x 10, x 11, x 12, x 13, x 14, x 15, x 16, x 17, x 18, x 19, x 20, x 21, x 22, x 23, x 24, x 25, x 26, x 27, x 28, x 29, x 30, x 31, x 32, x 33, x 34, x 35, x 36, x 37, x 38, x 39, x 40, x 41, x 42, x 43, x 44, x 45, x 46, x 47, .pointer (some ⟨w.heap.size + 1, 1, none⟩), x 49, x 50, x 51, x 52, x 53, x 54, x 55, x 56, x 57, x 58, x 59, x 60, x 61, x 62, x 63, x 64, x 65, x 66, x 67, x 68, x 69, x 70, x 71, x 72, x 73, x 74, x 75, x 76, x 77, x 78, x 79, x 80, x 81, x 82, x 83, x 84, x 85, x 86, x 87, x 88, x 89, x 90, x 91, x 92, x 93, x 94, x 95, x 96, x 97, x 98, x 99, x 100, x 101, x 102, x 103, x 104, x 105, x 106, x 107, x 108, x 109, x 110, x 111, x 112, x 113, x 114, x 115, x 116, x 117, x 118, x 119, x 120, x 121, x 122, x 123, x 124, x 125, x 126, x 127, x 128, x 129, x 130, x 131, x 132, x 133, x 134, x 135, x 136, x 137, x 138, x 139, x 140, x 141, x 142, x 143, x 144, x 145, x 146], defers := [] } wa := hK _ _ hW (DoMn.pure (by decide) (by decide)) rfl
          rw [E3.out] at hk
          exact hk
        · -- operation 6
          simp only [List.getElem?_toArray, List.getElem?_cons_succ, List.getElem?_cons_zero, Option.some.injEq] at ho
          subst ho
          have p5 : (x 48) = .pointer (some ⟨w.heap.size + 1, 1, none⟩) := hdep 5 (List.mem_of_elem_eq_true (by kernel_rfl))
          clear hdep hgd hbef
          obtain ⟨x0, x1, x2, x3, x4⟩ := hW.2.2.1.cell5
          unfold fr147
          rw [p5]
          go_simp
          have hk : K { tmps := #[x 0, x 1, x 2, x 3, x 4, x 5, x 6, x 7, x 8, x 9, x 10, x 11, x 12, x 13, x 14, x 15, x 16, x 17, x 18, x 19, x 20, x 21, x 22, x 23, x 24, x 25, x 26, x 27, x 28, x 29, x 30, x 31, x 32, x 33, x 34, x 35, x 36, x 37, x 38, x 39, x 40, x 41, x 42, x 43, x 44, x 45, x 46, x 47, x 48, .string name, x 50, x 51, x 52, x 53, x 54, x 55, x 56, x 57, x 58, x 59, x 60, x 61, x 62, x 63, x 64, x 65, x 66, x 67, x 68, x 69, x 70, x 71, x 72, x 73, x 74, x 75, x 76, x 77, x 78, x 79, x 80, x 81, x 82, x 83, x 84, x 85, x 86, x 87, x 88, x 89, x 90, x 91, x 92, x 93, x 94, x 95, x 96, x 97, x 98, x 99, x 100, x 101, x 102, x 103, x 104, x 105, x 106, x 107, x 108, x 109, x 110, x 111, x 112, x 113, x 114, x 115, x 116, x 117, x 118, x 119, x 120, x 121, x 122, x 123, x 124, x 125, x 126, x 127, x 128, x 129, x 130, x 131, x 132, x 133, x 134, x 135, x 136, x 137, x 138, x 139, x 140, x 141, x 142, x 143, x 144, x 145, x 146], defers := [] } wa := hK _ _ hW (DoMn.pure (by decide) (by decide)) rfl
          rw [p5] at hk
          exact hk
        · -- operation 7
          simp only [List.getElem?_toArray, List.getElem?_cons_succ, List.getElem?_cons_zero, Option.some.injEq] at ho
          subst ho
          clear hdep hgd hbef
          unfold fr147
          rw [E11.out]
          go_simp
          have hk : K { tmps := #[x 0, x 1, x 2, x 3, x 4, x 5, x 6, x 7, x 8, x 9, x 10, x 11, x 12, x 13, x 14, x 15, x 16, x 17, x 18, x 19, x 20, x 21, x 22, x 23, x 24, x 25, x 26, x 27, x 28, x 29, x 30, x 31, x 32, x 33, x 34, x 35, x 36, x 37, x 38, x 39, x 40, x 41, x 42, x 43, x 44, x 45, x 46, x 47, x 48, x 49, .int .i64 ((k : Int) + 1), x 51, x 52, x 53, x 54, x 55, x 56, x 57, x 58, x 59, x 60, x 61, x 62, x 63, x 64, x 65, x 66, x 67, x 68, x 69, x 70, x 71, x 72, x 73, x 74, x 75, x 76, x 77, x 78, x 79, x 80, x 81, x 82, x 83, x 84, x 85, x 86, x 87, x 88, x 89, x 90, x 91, x 92, x 93, x 94, x 95, x 96, x 97, x 98, x 99, x 100, x 101, x 102, x 103, x 104, x 105, x 106, x 107, x 108, x 109, x 110, x 111, x 112, x 113, x 114, x 115, x 116, x 117, x 118, x 119, x 120, x 121, x 122, x 123, x 124, x 125, x 126, x 127, x 128, x 129, x 130, x 131, x 132, x 133, x 134, x 135, x 136, x 137, x 138, x 139, x 140, x 141, x 142, x 143, x 144, x 145, x 146], defers := [] } wa := hK _ _ hW (DoMn.pure (by decide) (by decide)) rfl
          rw [E11.out] at hk
          exact hk
        · -- operation 8
          simp only [List.getElem?_toArray, List.getElem?_cons_succ, List.getElem?_cons_zero, Option.some.injEq] at ho
          subst ho
          have p4 : ∃ vF' : Value, (x 47) = .agg #[(.slice B1 fs.N.length b1), vF', (.slice B3 fs.O.length b3)] ∧ FsO wa B (.slice B1 fs.N.length b1) vF' (.slice B3 fs.O.length b3) ⟨fs.N, (putFile fs.F k ⟨(k : Int) + 1, .slice DA data.length DC, data, false, true, 0⟩), fs.O⟩ := hdep 4 (List.mem_of_elem_eq_true (by kernel_rfl))
          have p6 : (x 49) = .string name := hdep 6 (List.mem_of_elem_eq_true (by kernel_rfl))
          have p7 : (x 50) = .int .i64 ((k : Int) + 1) := hdep 7 (List.mem_of_elem_eq_true (by kernel_rfl))
          clear hdep hgd hbef
          obtain ⟨vF', hv4, hS4⟩ := p4
          unfold fr147
          rw [hv4, p6, p7]
          go_simp
          refine (refLink_any _ _ _ ⟨fs.N, (putFile fs.F k ⟨(k : Int) + 1, .slice DA data.length DC, data, false, true, 0⟩), fs.O⟩ name ((k : Int) + 1) wa hS4.t HMN.out).mono ?_
          rintro e w8 ⟨p, vN', hins, rfl, ho8, hb8⟩
          rw [insN_put (NSrt.rm HI.out.n name) (fun q hq => (mem_rm.1 hq).2) hins] at ho8
          have hk : K { tmps := #[x 0, x 1, x 2, x 3, x 4, x 5, x 6, x 7, x 8, x 9, x 10, x 11, x 12, x 13, x 14, x 15, x 16, x 17, x 18, x 19, x 20, x 21, x 22, x 23, x 24, x 25, x 26, x 27, x 28, x 29, x 30, x 31, x 32, x 33, x 34, x 35, x 36, x 37, x 38, x 39, x 40, x 41, x 42, x 43, x 44, x 45, x 46, x 47, x 48, x 49, x 50, .agg #[vN', vF', (.slice B3 fs.O.length b3)], x 52, x 53, x 54, x 55, x 56, x 57, x 58, x 59, x 60, x 61, x 62, x 63, x 64, x 65, x 66, x 67, x 68, x 69, x 70, x 71, x 72, x 73, x 74, x 75, x 76, x 77, x 78, x 79, x 80, x 81, x 82, x 83, x 84, x 85, x 86, x 87, x 88, x 89, x 90, x 91, x 92, x 93, x 94, x 95, x 96, x 97, x 98, x 99, x 100, x 101, x 102, x 103, x 104, x 105, x 106, x 107, x 108, x 109, x 110, x 111, x 112, x 113, x 114, x 115, x 116, x 117, x 118, x 119, x 120, x 121, x 122, x 123, x 124, x 125, x 126, x 127, x 128, x 129, x 130, x 131, x 132, x 133, x 134, x 135, x 136, x 137, x 138, x 139, x 140, x 141, x 142, x 143, x 144, x 145, x 146], defers := [] } w8 := hK _ _ (hW.up HGB.out.1 hb8) (by unfold DoMn; rw [if_neg (by decide), if_neg (by decide)]; exact hb8) ⟨vN', vF', rfl, own_mono ho8 hW.2.1, own_bel hS4.f hb8, own_bel hS4.o hb8, fun t ht => (hS4.d t ht).up hb8⟩
          rw [hv4, p6, p7] at hk
          exact hk
        · -- operation 9
          simp only [List.getElem?_toArray, List.getElem?_cons_succ, List.getElem?_cons_zero, Option.some.injEq] at ho
          subst ho
          have p8 : ∃ vN' vF' : Value, (x 51) = .agg #[vN', vF', (.slice B3 fs.O.length b3)] ∧ FsO wa B vN' vF' (.slice B3 fs.O.length b3) (⟨(putName (rmName fs.N name) ⟨name, (k : Int) + 1⟩), (putFile fs.F k ⟨(k : Int) + 1, .slice DA data.length DC, data, false, true, 0⟩), fs.O⟩ : FS) := hdep 8 (List.mem_of_elem_eq_true (by kernel_rfl))
          clear hdep hgd hbef
          obtain ⟨vN', vF', hv8, hS8⟩ := p8
          obtain ⟨B4, b4, rfl, _⟩ := own_sl hS8.n
          obtain ⟨B5, b5, rfl, _⟩ := own_sl hS8.f
          obtain ⟨a0, a1, a2, hb0⟩ := hW.2.2.2.2
          obtain ⟨f0, f1, f2⟩ := hb0.cell3
          obtain ⟨q0, q1, q2⟩ := hb0.froz3
          have hk : K { tmps := #[x 0, x 1, x 2, x 3, x 4, x 5, x 6, x 7, x 8, x 9, x 10, x 11, x 12, x 13, x 14, x 15, x 16, x 17, x 18, x 19, x 20, x 21, x 22, x 23, x 24, x 25, x 26, x 27, x 28, x 29, x 30, x 31, x 32, x 33, x 34, x 35, x 36, x 37, x 38, x 39, x 40, x 41, x 42, x 43, x 44, x 45, x 46, x 47, x 48, x 49, x 50, x 51, x 52, x 53, x 54, x 55, x 56, x 57, x 58, x 59, x 60, x 61, x 62, x 63, x 64, x 65, x 66, x 67, x 68, x 69, x 70, x 71, x 72, x 73, x 74, x 75, x 76, x 77, x 78, x 79, x 80, x 81, x 82, x 83, x 84, x 85, x 86, x 87, x 88, x 89, x 90, x 91, x 92, x 93, x 94, x 95, x 96, x 97, x 98, x 99, x 100, x 101, x 102, x 103, x 104, x 105, x 106, x 107, x 108, x 109, x 110, x 111, x 112, x 113, x 114, x 115, x 116, x 117, x 118, x 119, x 120, x 121, x 122, x 123, x 124, x 125, x 126, x 127, x 128, x 129, x 130, x 131, x 132, x 133, x 134, x 135, x 136, x 137, x 138, x 139, x 140, x 141, x 142, x 143, x 144, x 145, x 146], defers := [] } (((wa.setCell ⟨w.heap.size, 0, none⟩ (.slice B4 (putName (rmName fs.N name) ⟨name, (k : Int) + 1⟩).length b4)).setCell ⟨w.heap.size, 1, none⟩ (.slice B5 (putFile fs.F k ⟨(k : Int) + 1, .slice DA data.length DC, data, false, true, 0⟩).length b5)).setCell ⟨w.heap.size, 2, none⟩ (.slice B3 fs.O.length b3)) := hK undef _ (hW.box _ _ _) (by unfold DoMn; rw [if_neg (by decide), if_pos rfl]; exact ⟨grown_three wa w.heap.size _ _ _, _, _, _, hb0⟩) ⟨_, _, hb0.three _ _ _, hS8.box hb0 (grown_three wa w.heap.size _ _ _)⟩
          unfold fr147
          rw [E2.out, hv8]
          rw [E2.out, hv8] at hk
          clear hv8
          go_simp
          exact hk
      case skip =>
        intro i o j b ho hgd
        have hi : i < 10 := (Array.getElem?_eq_some_iff.1 ho).1
        have hcase : i = 0 ∨ i = 1 ∨ i = 2 ∨ i = 3 ∨ i = 4 ∨ i = 5 ∨ i = 6 ∨ i = 7 ∨ i = 8 ∨ i = 9 := by omega
        rcases hcase with rfl | rfl | rfl | rfl | rfl | rfl | rfl | rfl | rfl | rfl <;> (simp only [List.getElem?_toArray, List.getElem?_cons_succ, List.getElem?_cons_zero, Option.some.injEq] at ho; subst ho; cases hgd)
      case done =>
        intro x wd hout hW hall
        have pst := hall 9 (by decide)
        obtain ⟨vN', vF', hbx, hSx⟩ := pst
        refine HK.out _ _ ?_
        unfold fr147
        rw [(hout 0 (by decide)).trans (hx0 0), (hout 1 (by decide)).trans (hx0 1), (hout 2 (by decide)).trans (hx0 2), (hout 3 (by decide)).trans (hx0 3), (hout 4 (by decide)).trans (hx0 4), (hout 5 (by decide)).trans (hx0 5), (hout 6 (by decide)).trans (hx0 6), (hout 7 (by decide)).trans (hx0 7), (hout 8 (by decide)).trans (hx0 8), (hout 9 (by decide)).trans (hx0 9), (hout 10 (by decide)).trans (hx0 10), (hout 11 (by decide)).trans (hx0 11), (hout 12 (by decide)).trans (hx0 12), (hout 13 (by decide)).trans (hx0 13), (hout 14 (by decide)).trans (hx0 14), (hout 15 (by decide)).trans (hx0 15), (hout 16 (by decide)).trans (hx0 16), (hout 17 (by decide)).trans (hx0 17), (hout 18 (by decide)).trans (hx0 18), (hout 19 (by decide)).trans (hx0 19), (hout 20 (by decide)).trans (hx0 20), (hout 21 (by decide)).trans (hx0 21), (hout 22 (by decide)).trans (hx0 22), (hout 23 (by decide)).trans (hx0 23), (hout 24 (by decide)).trans (hx0 24), (hout 25 (by decide)).trans (hx0 25), (hout 26 (by decide)).trans (hx0 26), (hout 27 (by decide)).trans (hx0 27), (hout 28 (by decide)).trans (hx0 28), (hout 29 (by decide)).trans (hx0 29), (hout 30 (by decide)).trans (hx0 30), (hout 31 (by decide)).trans (hx0 31), (hout 32 (by decide)).trans (hx0 32), (hout 33 (by decide)).trans (hx0 33), (hout 34 (by decide)).trans (hx0 34), (hout 35 (by decide)).trans (hx0 35), (hout 36 (by decide)).trans (hx0 36), (hout 37 (by decide)).trans (hx0 37), (hout 38 (by decide)).trans (hx0 38), (hout 39 (by decide)).trans (hx0 39), (hout 40 (by decide)).trans (hx0 40), (hout 41 (by decide)).trans (hx0 41), (hout 42 (by decide)).trans (hx0 42), (hout 52 (by decide)).trans (hx0 52), (hout 53 (by decide)).trans (hx0 53), (hout 54 (by decide)).trans (hx0 54), (hout 55 (by decide)).trans (hx0 55), (hout 56 (by decide)).trans (hx0 56), (hout 57 (by decide)).trans (hx0 57), (hout 58 (by decide)).trans (hx0 58), (hout 59 (by decide)).trans (hx0 59), (hout 60 (by decide)).trans (hx0 60), (hout 61 (by decide)).trans (hx0 61), (hout 62 (by decide)).trans (hx0 62), (hout 63 (by decide)).trans (hx0 63), (hout 64 (by decide)).trans (hx0 64), (hout 65 (by decide)).trans (hx0 65), (hout 66 (by decide)).trans (hx0 66), (hout 67 (by decide)).trans (hx0 67), (hout 68 (by decide)).trans (hx0 68), (hout 69 (by decide)).trans (hx0 69), (hout 70 (by decide)).trans (hx0 70), (hout 71 (by decide)).trans (hx0 71), (hout 72 (by decide)).trans (hx0 72), (hout 73 (by decide)).trans (hx0 73), (hout 74 (by decide)).trans (hx0 74), (hout 75 (by decide)).trans (hx0 75), (hout 76 (by decide)).trans (hx0 76), (hout 77 (by decide)).trans (hx0 77), (hout 78 (by decide)).trans (hx0 78), (hout 79 (by decide)).trans (hx0 79), (hout 80 (by decide)).trans (hx0 80), (hout 81 (by decide)).trans (hx0 81), (hout 82 (by decide)).trans (hx0 82), (hout 83 (by decide)).trans (hx0 83), (hout 84 (by decide)).trans (hx0 84), (hout 85 (by decide)).trans (hx0 85), (hout 86 (by decide)).trans (hx0 86), (hout 87 (by decide)).trans (hx0 87), (hout 88 (by decide)).trans (hx0 88), (hout 89 (by decide)).trans (hx0 89), (hout 90 (by decide)).trans (hx0 90), (hout 91 (by decide)).trans (hx0 91), (hout 92 (by decide)).trans (hx0 92), (hout 93 (by decide)).trans (hx0 93), (hout 94 (by decide)).trans (hx0 94), (hout 95 (by decide)).trans (hx0 95), (hout 96 (by decide)).trans (hx0 96), (hout 97 (by decide)).trans (hx0 97), (hout 98 (by decide)).trans (hx0 98), (hout 99 (by decide)).trans (hx0 99), (hout 100 (by decide)).trans (hx0 100), (hout 101 (by decide)).trans (hx0 101), (hout 102 (by decide)).trans (hx0 102), (hout 103 (by decide)).trans (hx0 103), (hout 104 (by decide)).trans (hx0 104), (hout 105 (by decide)).trans (hx0 105), (hout 106 (by decide)).trans (hx0 106), (hout 107 (by decide)).trans (hx0 107), (hout 108 (by decide)).trans (hx0 108), (hout 109 (by decide)).trans (hx0 109), (hout 110 (by decide)).trans (hx0 110), (hout 111 (by decide)).trans (hx0 111), (hout 112 (by decide)).trans (hx0 112), (hout 113 (by decide)).trans (hx0 113), (hout 114 (by decide)).trans (hx0 114), (hout 115 (by decide)).trans (hx0 115), (hout 116 (by decide)).trans (hx0 116), (hout 117 (by decide)).trans (hx0 117), (hout 118 (by decide)).trans (hx0 118), (hout 119 (by decide)).trans (hx0 119), (hout 120 (by decide)).trans (hx0 120), (hout 121 (by decide)).trans (hx0 121), (hout 122 (by decide)).trans (hx0 122), (hout 123 (by decide)).trans (hx0 123), (hout 124 (by decide)).trans (hx0 124), (hout 125 (by decide)).trans (hx0 125), (hout 126 (by decide)).trans (hx0 126), (hout 127 (by decide)).trans (hx0 127), (hout 128 (by decide)).trans (hx0 128), (hout 129 (by decide)).trans (hx0 129), (hout 130 (by decide)).trans (hx0 130), (hout 131 (by decide)).trans (hx0 131), (hout 132 (by decide)).trans (hx0 132), (hout 133 (by decide)).trans (hx0 133), (hout 134 (by decide)).trans (hx0 134), (hout 135 (by decide)).trans (hx0 135), (hout 136 (by decide)).trans (hx0 136), (hout 137 (by decide)).trans (hx0 137), (hout 138 (by decide)).trans (hx0 138), (hout 139 (by decide)).trans (hx0 139), (hout 140 (by decide)).trans (hx0 140), (hout 141 (by decide)).trans (hx0 141), (hout 142 (by decide)).trans (hx0 142), (hout 143 (by decide)).trans (hx0 143), (hout 144 (by decide)).trans (hx0 144), (hout 145 (by decide)).trans (hx0 145), (hout 146 (by decide)).trans (hx0 146)]
        simp only [Array.getD_eq_getD_getElem?, List.getElem?_toArray, List.getElem?_cons_succ, List.getElem?_cons_zero, Option.getD_some]
        have HFx := keep hbx
        have HSx := keep hSx
        have HZx := keep hW.2.2.2.1
        have HBx := keep hW.1
        have HLN : Hid ((⟨(putName (rmName fs.N name) ⟨name, (k : Int) + 1⟩), (putFile fs.F k ⟨(k : Int) + 1, .slice DA data.length DC, data, false, true, 0⟩), fs.O⟩ : FS).N.length ≤ 1000000) := keep (by show (putName (rmName fs.N name) ⟨name, (k : Int) + 1⟩).length ≤ 1000000; rw [putName_len]; have := rmName_len fs.N name; omega)
        have HLF : Hid ((⟨(putName (rmName fs.N name) ⟨name, (k : Int) + 1⟩), (putFile fs.F k ⟨(k : Int) + 1, .slice DA data.length DC, data, false, true, 0⟩), fs.O⟩ : FS).F.length ≤ 1000000) := keep (by show (putFile fs.F k ⟨(k : Int) + 1, .slice DA data.length DC, data, false, true, 0⟩).length ≤ 1000000; have := putFile_len fs.F k ⟨(k : Int) + 1, .slice DA data.length DC, data, false, true, 0⟩; omega)
        have HLO : Hid ((⟨(putName (rmName fs.N name) ⟨name, (k : Int) + 1⟩), (putFile fs.F k ⟨(k : Int) + 1, .slice DA data.length DC, data, false, true, 0⟩), fs.O⟩ : FS).O.length ≤ 1000000) := keep (by show fs.O.length ≤ 1000000; omega)
        obtain ⟨B4, b4, rfl, _⟩ := own_sl hSx.n
        obtain ⟨B5, b5, rfl, _⟩ := own_sl hSx.f
        clear hall hout hx0 y2 y3 y11 y9 HK hbx hSx hW
        have HMET : Hid (MetSt fs ⟨1, name, dst, .slice A data.length cc, data, n⟩ 0 (⟨(putName (rmName fs.N name) ⟨name, (k : Int) + 1⟩), (putFile fs.F k ⟨(k : Int) + 1, .slice DA data.length DC, data, false, true, 0⟩), fs.O⟩ : FS)) := keep (.inl ⟨rfl, .inr ⟨HNO.out, .inr (.inr ⟨HLT.out, HDL.out, rfl, k, _, HG.out, by rw [rm_none HNO.out]; rfl⟩)⟩⟩)
        have HSW := keep (refSweep_any _ _ _ (⟨(putName (rmName fs.N name) ⟨name, (k : Int) + 1⟩), (putFile fs.F k ⟨(k : Int) + 1, .slice DA data.length DC, data, false, true, 0⟩), fs.O⟩ : FS) wd HSx.out.t HLF.out HLN.out HLO.out)
        obtain ⟨f0, f1, f2⟩ := HFx.out.cell3
        go_wp2_with fail
        refine HSW.out.mono ?_
        rintro e wz ⟨vFz, rfl, hoF, hbz⟩
        obtain ⟨G2, g2, rfl, _⟩ := own_sl hoF
        have hZz := HZx.out.below hbz HZx.out.lt
        have hgz := grown_three wz (w.heap.size + 1 + 1) (.slice B4 (putName (rmName fs.N name) ⟨name, (k : Int) + 1⟩).length b4) (.slice G2 ((⟨(putName (rmName fs.N name) ⟨name, (k : Int) + 1⟩), (putFile fs.F k ⟨(k : Int) + 1, .slice DA data.length DC, data, false, true, 0⟩), fs.O⟩ : FS).F.filter (stays (⟨(putName (rmName fs.N name) ⟨name, (k : Int) + 1⟩), (putFile fs.F k ⟨(k : Int) + 1, .slice DA data.length DC, data, false, true, 0⟩), fs.O⟩ : FS))).length g2) (.slice B3 fs.O.length b3)
        have hSz := HSx.out.up hbz
        have hTz : FsT wz (.slice B4 (putName (rmName fs.N name) ⟨name, (k : Int) + 1⟩).length b4) (.slice G2 ((⟨(putName (rmName fs.N name) ⟨name, (k : Int) + 1⟩), (putFile fs.F k ⟨(k : Int) + 1, .slice DA data.length DC, data, false, true, 0⟩), fs.O⟩ : FS).F.filter (stays (⟨(putName (rmName fs.N name) ⟨name, (k : Int) + 1⟩), (putFile fs.F k ⟨(k : Int) + 1, .slice DA data.length DC, data, false, true, 0⟩), fs.O⟩ : FS))).length g2) (.slice B3 fs.O.length b3) (purged (⟨(putName (rmName fs.N name) ⟨name, (k : Int) + 1⟩), (putFile fs.F k ⟨(k : Int) + 1, .slice DA data.length DC, data, false, true, 0⟩), fs.O⟩ : FS)) := by
          have hp : purged (⟨(putName (rmName fs.N name) ⟨name, (k : Int) + 1⟩), (putFile fs.F k ⟨(k : Int) + 1, .slice DA data.length DC, data, false, true, 0⟩), fs.O⟩ : FS) = ⟨(⟨(putName (rmName fs.N name) ⟨name, (k : Int) + 1⟩), (putFile fs.F k ⟨(k : Int) + 1, .slice DA data.length DC, data, false, true, 0⟩), fs.O⟩ : FS).N, (⟨(putName (rmName fs.N name) ⟨name, (k : Int) + 1⟩), (putFile fs.F k ⟨(k : Int) + 1, .slice DA data.length DC, data, false, true, 0⟩), fs.O⟩ : FS).F.filter (stays (⟨(putName (rmName fs.N name) ⟨name, (k : Int) + 1⟩), (putFile fs.F k ⟨(k : Int) + 1, .slice DA data.length DC, data, false, true, 0⟩), fs.O⟩ : FS)), (⟨(putName (rmName fs.N name) ⟨name, (k : Int) + 1⟩), (putFile fs.F k ⟨(k : Int) + 1, .slice DA data.length DC, data, false, true, 0⟩), fs.O⟩ : FS).O⟩ := by unfold purged; rw [stays_goes]
          rw [hp]
          exact ⟨own_ty hSz.n, own_ty hoF, own_ty hSz.o, fun t ht => hSz.d t (List.mem_filter.1 ht).1⟩
        have HTz := keep (hTz.grown hZz hgz (by decide) (by decide) (by decide) (by decide))
        have HZz := keep (hZz.three (.slice B4 (putName (rmName fs.N name) ⟨name, (k : Int) + 1⟩).length b4) (.slice G2 ((⟨(putName (rmName fs.N name) ⟨name, (k : Int) + 1⟩), (putFile fs.F k ⟨(k : Int) + 1, .slice DA data.length DC, data, false, true, 0⟩), fs.O⟩ : FS).F.filter (stays (⟨(putName (rmName fs.N name) ⟨name, (k : Int) + 1⟩), (putFile fs.F k ⟨(k : Int) + 1, .slice DA data.length DC, data, false, true, 0⟩), fs.O⟩ : FS))).length g2) (.slice B3 fs.O.length b3))
        have HBz := keep (below_three (bchain HBx.out hbz) (show w.heap.size ≤ w.heap.size + 1 + 1 by omega) (.slice B4 (putName (rmName fs.N name) ⟨name, (k : Int) + 1⟩).length b4) (.slice G2 ((⟨(putName (rmName fs.N name) ⟨name, (k : Int) + 1⟩), (putFile fs.F k ⟨(k : Int) + 1, .slice DA data.length DC, data, false, true, 0⟩), fs.O⟩ : FS).F.filter (stays (⟨(putName (rmName fs.N name) ⟨name, (k : Int) + 1⟩), (putFile fs.F k ⟨(k : Int) + 1, .slice DA data.length DC, data, false, true, 0⟩), fs.O⟩ : FS))).length g2) (.slice B3 fs.O.length b3))
        obtain ⟨z0, z1, z2⟩ := hZz.cell3
        obtain ⟨y0, y1, y2⟩ := hZz.froz3
        clear hbz hoF hZz hgz hSz hTz f0 f1 f2
        go_wp2_with fail
        have hdo := doSt_p HI.out (show DoSt fs ⟨1, name, dst, .slice A data.length cc, data, n⟩ 0 (purged (⟨(putName (rmName fs.N name) ⟨name, (k : Int) + 1⟩), (putFile fs.F k ⟨(k : Int) + 1, .slice DA data.length DC, data, false, true, 0⟩), fs.O⟩ : FS)) from .inr ⟨⟨by show (1:Int) ≤ 1; decide, by show (1:Int) ≤ 8; decide⟩, .inr ⟨badNm_no HBAD.out, .inr ⟨rfl, (⟨(putName (rmName fs.N name) ⟨name, (k : Int) + 1⟩), (putFile fs.F k ⟨(k : Int) + 1, .slice DA data.length DC, data, false, true, 0⟩), fs.O⟩ : FS), HMET.out, rfl⟩⟩⟩)
        refine bodyPost_ret (results_cell_row_tmp rfl _ _ (w.heap.size + 1 + 1) _ _ _ _ rfl HZz.out Try.underlying40 rfl (by kernel_rfl)) rfl ?_
        exact ⟨purged (⟨(putName (rmName fs.N name) ⟨name, (k : Int) + 1⟩), (putFile fs.F k ⟨(k : Int) + 1, .slice DA data.length DC, data, false, true, 0⟩), fs.O⟩ : FS), _, _, _, by rw [HE0.out]; rfl, HTz.out, congrArg Prod.snd hdo.1, hdo.2.1, hdo.2.2, HBz.out⟩
    · have hq := step_f ⟨by decide, by decide⟩ HST.out
      obtain ⟨i, kf, hii, hkf, hnm, hino, hlk, hfl⟩ := has_places HI.out hq
      have hi1 : i1 = fs.F[kf].ino := by rw [← HI1.out, hlk]; rfl
      have hr : r = (kf : Int) := at_place HI.out hkf (hi1 ▸ HR.out)
      subst hr
      obtain ⟨gF, rfl⟩ : ∃ gF, B2 = some ⟨gF, 0, none⟩ := by
        rcases HS6.out.f.2 with ⟨_, h0⟩ | ⟨g, cap, cur, h1, _⟩
        · exact absurd hkf (by rw [h0]; omega)
        · exact ⟨g, (Value.slice.inj h1).1⟩
      obtain ⟨c0, c1, c2, c3, c4⟩ := own_fiCells HS6.out.f rfl hkf
      have hgB : B ≤ gF := own_ge HS6.out.f gF rfl
      have hki0 : (0 : Int) ≤ (kf : Int) := by omega
      have hki1 : (kf : Int) < (fs.F.length : Int) := by omega
      have h2 := step_2 hfl HST.out
      have hfd6 := HS6.out.d _ (List.getElem_mem hkf)
      obtain ⟨D, hD⟩ : ∃ D, fs.F[kf].data = D := ⟨_, rfl⟩
      obtain ⟨FA, FC, hfd⟩ := hfd6.form
      have h22 : fs.F[kf].cp = false ∧ D.length + data.length ≤ 60000 := by rw [← hD]; exact h2
      have HST2 := keep h22
      have hDl : D.length ≤ 1000000 := by rw [← hD]; exact hfd6.2
      have hsl6 := hfd6.1
      have n1 := c1
      rw [hfd] at n1 hsl6
      rw [hD] at n1 hsl6
      have HSL := keep (show FiR w6 ⟨0, .slice FA D.length FC, D, false, false, 0⟩ from ⟨hsl6, hDl⟩)
      have HGF : Hid (gF < w6.heap.size) := keep (by have := World.block_lt_of_cell? w6 _ n1; simpa using this)
      have HN1 : Hid (∀ wx, Below w6.heap.size w6 wx → wx.cell? ⟨gF, kf * 5 + 1, none⟩ = some (.slice FA D.length FC)) := keep (fun wx hx => (hx.cell (p := ⟨gF, kf * 5 + 1, none⟩) HGF.out).trans n1)
      have HMT : Hid (∀ dv, MetSt fs ⟨2, name, dst, .slice A data.length cc, data, n⟩ 0 (⟨fs.N, fs.F.set kf ⟨fs.F[kf].ino, dv, D ++ data, false, fs.F[kf].wh, fs.F[kf].left⟩, fs.O⟩ : FS)) := keep (fun dv => .inr (.inl ⟨rfl, .inr ⟨i, kf, hii, hkf, hnm, hino, .inr (.inr ⟨h2.1, h2.2, rfl, dv, by rw [← hD]⟩)⟩⟩))
      have HKF := keep hkf
      clear hq hlk hfl hi1 hnm hino h2 h22 hfd6 hfd hsl6 n1 hD c0 c1 c2 c3 c4 hii
      go_upto_region 14 with fail
      refine reg_start 147 fr147 (fun _ => rfl) _ rfl fun x0 hx0 => ?_
      have y2 : x0 2 = .pointer (some ⟨w.heap.size, 0, none⟩) := hx0 2
      have y9 : x0 9 = .slice DA data.length DC := hx0 9
      have y10 : x0 10 = .int .i64 (kf : Int) := hx0 10
      refine wp_regX (by kernel_rfl) 147 (fun i =>  i) (by kernel_rfl) fr147 (fun _ => rfl) x0 (fun wa => Below B w6 wa) (fun i a b => if i = 14 then a.grownBy b (some gF) else if i = 9 ∨ i = 11 then Below w6.heap.size a b else Below a.heap.size a b) (fun i v u wa => match i with
          | 0 => v = .pointer (some ⟨w.heap.size, 1, none⟩)
          | 1 => v = .slice (some ⟨gF, 0, none⟩) fs.F.length b2
          | 2 => v = .int .i64 (kf : Int)
          | 3 => v = .pointer (some ⟨w.heap.size, 1, none⟩)
          | 4 => v = .slice (some ⟨gF, 0, none⟩) fs.F.length b2
          | 5 => v = .int .i64 (kf : Int)
          | 6 => v = .pointer (some ⟨gF, kf * 5, none⟩)
          | 7 => v = .pointer (some ⟨gF, kf * 5 + 1, none⟩)
          | 8 => v = .slice FA D.length FC
          | 9 => True
          | 10 => v = .slice DA data.length DC
          | 11 => wa.ownsRow w6.heap.size 5 1 (v) (D.length + data.length) (bys D ++ bys data)
          | 12 => v = .pointer (some ⟨gF, kf * 5, none⟩)
          | 13 => v = .pointer (some ⟨gF, kf * 5 + 1, none⟩)
          | 14 => ∃ dv : Value, FsO wa B (.slice B1 fs.N.length b1) (.slice (some ⟨gF, 0, none⟩) fs.F.length b2) (.slice B3 fs.O.length b3) (⟨fs.N, fs.F.set kf ⟨fs.F[kf].ino, dv, D ++ data, false, fs.F[kf].wh, fs.F[kf].left⟩, fs.O⟩ : FS)
          | _ => True) (fun m wa => if m = 14 then Below w6.heap.size w6 wa else True) (fun j => if j = 9 then 11 else j) (fun j v wa => if j = 9 then wa.ownsRow w6.heap.size 5 1 (v) D.length (bys D) else True) (fun i j v wa wb hti hbf hmn hp => by
          by_cases h9 : j = 9
          · rw [if_pos h9] at hp ⊢
            rw [if_pos h9] at hti
            subst h9
            by_cases h14 : i = 14
            · rw [if_pos h14] at hmn
              exact hp.kept hmn (.inr (fun e => by have := own_ge hp _ e; have := HGF.out; omega))
            · rw [if_neg h14] at hmn
              by_cases h9 : i = 9 ∨ i = 11
              · rcases h9 with rfl | rfl
                · exact absurd hbf (fun hbf => by exact Bool.false_ne_true (hbf.symm.trans (by kernel_rfl)))
                · exact absurd rfl hti
              · rw [if_neg h9] at hmn
                exact own_bel hp hmn
          · rw [if_neg h9]; trivial) (fun m => by
          split
          · exact below_drewN (Below.refl _ w6) 1
          · trivial) (fun i m wa wb hne hmn h => by
          by_cases h2 : m = 14
          · rw [if_pos h2] at h ⊢
            rw [if_neg (fun e => hne (e.trans h2.symm))] at hmn
            split at hmn
            · exact h.trans hmn
            · exact h.trans (hmn.mono h.size)
          · rw [if_neg h2]; trivial) (by
            intro i j v u wa wb hbf hmn hp
            match j, hp with
            | 0, hp => exact hp
            | 1, hp => exact hp
            | 2, hp => exact hp
            | 3, hp => exact hp
            | 4, hp => exact hp
            | 5, hp => exact hp
            | 6, hp => exact hp
            | 7, hp => exact hp
            | 8, hp => exact hp
            | 9, hp => exact hp
            | 10, hp => exact hp
            | 11, hp =>
              by_cases h14 : i = 14
              · rw [if_pos h14] at hmn
                exact hp.kept hmn (.inr (fun e => by have := own_ge hp _ e; have := HGF.out; omega))
              · rw [if_neg h14] at hmn
                by_cases h9 : i = 9 ∨ i = 11
                · rcases h9 with rfl | rfl
                  · exact absurd hbf (fun hbf => by exact Bool.false_ne_true (hbf.symm.trans (by kernel_rfl)))
                  · exact absurd hbf (fun hbf => by exact Bool.false_ne_true (hbf.symm.trans (by kernel_rfl)))
                · rw [if_neg h9] at hmn
                  exact own_bel hp hmn
            | 12, hp => exact hp
            | 13, hp => exact hp
            | 14, hp =>
              by_cases h14 : i = 14
              · subst h14
                exact absurd hbf (fun hbf => by exact Bool.false_ne_true (hbf.symm.trans (by kernel_rfl)))
              · rw [if_neg h14] at hmn
                by_cases h9 : i = 9 ∨ i = 11
                · rcases h9 with rfl | rfl
                  · exact absurd hbf (fun hbf => by exact Bool.false_ne_true (hbf.symm.trans (by kernel_rfl)))
                  · exact absurd hbf (fun hbf => by exact Bool.false_ne_true (hbf.symm.trans (by kernel_rfl)))
                · rw [if_neg h9] at hmn
                  obtain ⟨dv, hp⟩ := hp
                  exact ⟨dv, hp.up hmn⟩
            | _ + 15, hp => trivial) (below_drewN (Below.refl B w6) 1) ?step ?skip ?done
      case step =>
        intro i o ho x wa K hW hbef hout hdep htd hgd hK
        have E2 : Hid (x 2 = .pointer (some ⟨w.heap.size, 0, none⟩)) := keep ((hout 2 (by decide)).trans y2)
        have E9 : Hid (x 9 = .slice DA data.length DC) := keep ((hout 9 (by decide)).trans y9)
        have E10 : Hid (x 10 = .int .i64 (kf : Int)) := keep ((hout 10 (by decide)).trans y10)
        clear hout hx0 y2 y9 y10
        have hi : i < 15 := (Array.getElem?_eq_some_iff.1 ho).1
        have hcase : i = 0 ∨ i = 1 ∨ i = 2 ∨ i = 3 ∨ i = 4 ∨ i = 5 ∨ i = 6 ∨ i = 7 ∨ i = 8 ∨ i = 9 ∨ i = 10 ∨ i = 11 ∨ i = 12 ∨ i = 13 ∨ i = 14 := by omega
        clear hi
        rcases hcase with rfl | rfl | rfl | rfl | rfl | rfl | rfl | rfl | rfl | rfl | rfl | rfl | rfl | rfl | rfl
        · -- operation 0
          simp only [List.getElem?_toArray, List.getElem?_cons_zero, Option.some.injEq] at ho
          subst ho
          clear hdep hgd hbef htd
          unfold fr147
          rw [E2.out]
          go_simp
          have hk : K { tmps := #[x 0, x 1, x 2, x 3, x 4, x 5, x 6, x 7, x 8, x 9, x 10, x 11, x 12, x 13, x 14, x 15, x 16, x 17, x 18, x 19, x 20, x 21, x 22, x 23, x 24, x 25, x 26, x 27, x 28, x 29, x 30, x 31, x 32, x 33, x 34, x 35, x 36, x 37, x 38, x 39, x 40, x 41, x 42, x 43, x 44, x 45, x 46, x 47, x 48, x 49, x 50, x 51, x 52, x 53, .pointer (some ⟨w.heap.size, 1, none⟩), x 55, x 56, x 57, x 58, x 59, x 60, x 61, x 62, x 63, x 64, x 65, x 66, x 67, x 68, x 69, x 70, x 71, x 72, x 73, x 74, x 75, x 76, x 77, x 78, x 79, x 80, x 81, x 82, x 83, x 84, x 85, x 86, x 87, x 88, x 89, x 90, x 91, x 92, x 93, x 94, x 95, x 96, x 97, x 98, x 99, x 100, x 101, x 102, x 103, x 104, x 105, x 106, x 107, x 108, x 109, x 110, x 111, x 112, x 113, x 114, x 115, x 116, x 117, x 118, x 119, x 120, x 121, x 122, x 123, x 124, x 125, x 126, x 127, x 128, x 129, x 130, x 131, x 132, x 133, x 134, x 135, x 136, x 137, x 138, x 139, x 140, x 141, x 142, x 143, x 144, x 145, x 146], defers := [] } wa := hK _ _ hW (by rw [if_neg (by decide), if_neg (by decide)]; exact Below.refl _ _) rfl trivial
          rw [E2.out] at hk
          exact hk
        · -- operation 1
          simp only [List.getElem?_toArray, List.getElem?_cons_succ, List.getElem?_cons_zero, Option.some.injEq] at ho
          subst ho
          have p0 : (x 54) = .pointer (some ⟨w.heap.size, 1, none⟩) := hdep 0 (List.mem_of_elem_eq_true (by kernel_rfl))
          clear hdep hgd hbef htd
          obtain ⟨f0, f1, f2⟩ := (HF6.out.below hW (by have := HGB.out; omega)).cell3
          unfold fr147
          rw [p0]
          go_simp
          have hk : K { tmps := #[x 0, x 1, x 2, x 3, x 4, x 5, x 6, x 7, x 8, x 9, x 10, x 11, x 12, x 13, x 14, x 15, x 16, x 17, x 18, x 19, x 20, x 21, x 22, x 23, x 24, x 25, x 26, x 27, x 28, x 29, x 30, x 31, x 32, x 33, x 34, x 35, x 36, x 37, x 38, x 39, x 40, x 41, x 42, x 43, x 44, x 45, x 46, x 47, x 48, x 49, x 50, x 51, x 52, x 53, x 54, .slice (some ⟨gF, 0, none⟩) fs.F.length b2, x 56, x 57, x 58, x 59, x 60, x 61, x 62, x 63, x 64, x 65, x 66, x 67, x 68, x 69, x 70, x 71, x 72, x 73, x 74, x 75, x 76, x 77, x 78, x 79, x 80, x 81, x 82, x 83, x 84, x 85, x 86, x 87, x 88, x 89, x 90, x 91, x 92, x 93, x 94, x 95, x 96, x 97, x 98, x 99, x 100, x 101, x 102, x 103, x 104, x 105, x 106, x 107, x 108, x 109, x 110, x 111, x 112, x 113, x 114, x 115, x 116, x 117, x 118, x 119, x 120, x 121, x 122, x 123, x 124, x 125, x 126, x 127, x 128, x 129, x 130, x 131, x 132, x 133, x 134, x 135, x 136, x 137, x 138, x 139, x 140, x 141, x 142, x 143, x 144, x 145, x 146], defers := [] } wa := hK _ _ hW (by rw [if_neg (by decide), if_neg (by decide)]; exact Below.refl _ _) rfl trivial
          rw [p0] at hk
          exact hk
        · -- operation 2
          simp only [List.getElem?_toArray, List.getElem?_cons_succ, List.getElem?_cons_zero, Option.some.injEq] at ho
          subst ho
          clear hdep hgd hbef htd
          unfold fr147
          rw [E10.out]
          go_simp
          have hk : K { tmps := #[x 0, x 1, x 2, x 3, x 4, x 5, x 6, x 7, x 8, x 9, x 10, x 11, x 12, x 13, x 14, x 15, x 16, x 17, x 18, x 19, x 20, x 21, x 22, x 23, x 24, x 25, x 26, x 27, x 28, x 29, x 30, x 31, x 32, x 33, x 34, x 35, x 36, x 37, x 38, x 39, x 40, x 41, x 42, x 43, x 44, x 45, x 46, x 47, x 48, x 49, x 50, x 51, x 52, x 53, x 54, x 55, .int .i64 (kf : Int), x 57, x 58, x 59, x 60, x 61, x 62, x 63, x 64, x 65, x 66, x 67, x 68, x 69, x 70, x 71, x 72, x 73, x 74, x 75, x 76, x 77, x 78, x 79, x 80, x 81, x 82, x 83, x 84, x 85, x 86, x 87, x 88, x 89, x 90, x 91, x 92, x 93, x 94, x 95, x 96, x 97, x 98, x 99, x 100, x 101, x 102, x 103, x 104, x 105, x 106, x 107, x 108, x 109, x 110, x 111, x 112, x 113, x 114, x 115, x 116, x 117, x 118, x 119, x 120, x 121, x 122, x 123, x 124, x 125, x 126, x 127, x 128, x 129, x 130, x 131, x 132, x 133, x 134, x 135, x 136, x 137, x 138, x 139, x 140, x 141, x 142, x 143, x 144, x 145, x 146], defers := [] } wa := hK _ _ hW (by rw [if_neg (by decide), if_neg (by decide)]; exact Below.refl _ _) rfl trivial
          rw [E10.out] at hk
          exact hk
        · -- operation 3
          simp only [List.getElem?_toArray, List.getElem?_cons_succ, List.getElem?_cons_zero, Option.some.injEq] at ho
          subst ho
          clear hdep hgd hbef htd
          unfold fr147
          rw [E2.out]
          go_simp
          have hk : K { tmps := #[x 0, x 1, x 2, x 3, x 4, x 5, x 6, x 7, x 8, x 9, x 10, x 11, x 12, x 13, x 14, x 15, x 16, x 17, x 18, x 19, x 20, x 21, x 22, x 23, x 24, x 25, x 26, x 27, x 28, x 29, x 30, x 31, x 32, x 33, x 34, x 35, x 36, x 37, x 38, x 39, x 40, x 41, x 42, x 43, x 44, x 45, x 46, x 47, x 48, x 49, x 50, x 51, x 52, x 53, x 54, x 55, x 56, .pointer (some ⟨w.heap.size, 1, none⟩), x 58, x 59, x 60, x 61, x 62, x 63, x 64, x 65, x 66, x 67, x 68, x 69, x 70, x 71, x 72, x 73, x 74, x 75, x 76, x 77, x 78, x 79, x 80, x 81, x 82, x 83, x 84, x 85, x 86, x 87, x 88, x 89, x 90, x 91, x 92, x 93, x 94, x 95, x 96, x 97, x 98, x 99, x 100, x 101, x 102, x 103, x 104, x 105, x 106, x 107, x 108, x 109, x 110, x 111, x 112, x 113, x 114, x 115, x 116, x 117, x 118, x 119, x 120, x 121, x 122, x 123, x 124, x 125, x 126, x 127, x 128, x 129, x 130, x 131, x 132, x 133, x 134, x 135, x 136, x 137, x 138, x 139, x 140, x 141, x 142, x 143, x 144, x 145, x 146], defers := [] } wa := hK _ _ hW (by rw [if_neg (by decide), if_neg (by decide)]; exact Below.refl _ _) rfl trivial
          rw [E2.out] at hk
          exact hk
        · -- operation 4
          simp only [List.getElem?_toArray, List.getElem?_cons_succ, List.getElem?_cons_zero, Option.some.injEq] at ho
          subst ho
          have p3 : (x 57) = .pointer (some ⟨w.heap.size, 1, none⟩) := hdep 3 (List.mem_of_elem_eq_true (by kernel_rfl))
          clear hdep hgd hbef htd
          obtain ⟨f0, f1, f2⟩ := (HF6.out.below hW (by have := HGB.out; omega)).cell3
          unfold fr147
          rw [p3]
          go_simp
          have hk : K { tmps := #[x 0, x 1, x 2, x 3, x 4, x 5, x 6, x 7, x 8, x 9, x 10, x 11, x 12, x 13, x 14, x 15, x 16, x 17, x 18, x 19, x 20, x 21, x 22, x 23, x 24, x 25, x 26, x 27, x 28, x 29, x 30, x 31, x 32, x 33, x 34, x 35, x 36, x 37, x 38, x 39, x 40, x 41, x 42, x 43, x 44, x 45, x 46, x 47, x 48, x 49, x 50, x 51, x 52, x 53, x 54, x 55, x 56, x 57, .slice (some ⟨gF, 0, none⟩) fs.F.length b2, x 59, x 60, x 61, x 62, x 63, x 64, x 65, x 66, x 67, x 68, x 69, x 70, x 71, x 72, x 73, x 74, x 75, x 76, x 77, x 78, x 79, x 80, x 81, x 82, x 83, x 84, x 85, x 86, x 87, x 88, x 89, x 90, x 91, x 92, x 93, x 94, x 95, x 96, x 97, x 98, x 99, x 100, x 101, x 102, x 103, x 104, x 105, x 106, x 107, x 108, x 109, x 110, x 111, x 112, x 113, x 114, x 115, x 116, x 117, x 118, x 119, x 120, x 121, x 122, x 123, x 124, x 125, x 126, x 127, x 128, x 129, x 130, x 131, x 132, x 133, x 134, x 135, x 136, x 137, x 138, x 139, x 140, x 141, x 142, x 143, x 144, x 145, x 146], defers := [] } wa := hK _ _ hW (by rw [if_neg (by decide), if_neg (by decide)]; exact Below.refl _ _) rfl trivial
          rw [p3] at hk
          exact hk
        · -- operation 5
          simp only [List.getElem?_toArray, List.getElem?_cons_succ, List.getElem?_cons_zero, Option.some.injEq] at ho
          subst ho
          clear hdep hgd hbef htd
          unfold fr147
          rw [E10.out]
          go_simp
          have hk : K { tmps := #[x 0, x 1, x 2, x 3, x 4, x 5, x 6, x 7, x 8, x 9, x 10, x 11, x 12, x 13, x 14, x 15, x 16, x 17, x 18, x 19, x 20, x 21, x 22, x 23, x 24, x 25, x 26, x 27, x 28, x 29, x 30, x 31, x 32, x 33, x 34, x 35, x 36, x 37, x 38, x 39, x 40, x 41, x 42, x 43, x 44, x 45, x 46, x 47, x 48, x 49, x 50, x 51, x 52, x 53, x 54, x 55, x 56, x 57, x 58, .int .i64 (kf : Int), x 60, x 61, x 62, x 63, x 64, x 65, x 66, x 67, x 68, x 69, x 70, x 71, x 72, x 73, x 74, x 75, x 76, x 77, x 78, x 79, x 80, x 81, x 82, x 83, x 84, x 85, x 86, x 87, x 88, x 89, x 90, x 91, x 92, x 93, x 94, x 95, x 96, x 97, x 98, x 99, x 100, x 101, x 102, x 103, x 104, x 105, x 106, x 107, x 108, x 109, x 110, x 111, x 112, x 113, x 114, x 115, x 116, x 117, x 118, x 119, x 120, x 121, x 122, x 123, x 124, x 125, x 126, x 127, x 128, x 129, x 130, x 131, x 132, x 133, x 134, x 135, x 136, x 137, x 138, x 139, x 140, x 141, x 142, x 143, x 144, x 145, x 146], defers := [] } wa := hK _ _ hW (by rw [if_neg (by decide), if_neg (by decide)]; exact Below.refl _ _) rfl trivial
          rw [E10.out] at hk
          exact hk
        · -- operation 6
          simp only [List.getElem?_toArray, List.getElem?_cons_succ, List.getElem?_cons_zero, Option.some.injEq] at ho
          subst ho
          have p4 : (x 58) = .slice (some ⟨gF, 0, none⟩) fs.F.length b2 := hdep 4 (List.mem_of_elem_eq_true (by kernel_rfl))
          have p5 : (x 59) = .int .i64 (kf : Int) := hdep 5 (List.mem_of_elem_eq_true (by kernel_rfl))
          clear hdep hgd hbef htd
          unfold fr147
          rw [p4, p5]
          go_simp
          have hk : K { tmps := #[x 0, x 1, x 2, x 3, x 4, x 5, x 6, x 7, x 8, x 9, x 10, x 11, x 12, x 13, x 14, x 15, x 16, x 17, x 18, x 19, x 20, x 21, x 22, x 23, x 24, x 25, x 26, x 27, x 28, x 29, x 30, x 31, x 32, x 33, x 34, x 35, x 36, x 37, x 38, x 39, x 40, x 41, x 42, x 43, x 44, x 45, x 46, x 47, x 48, x 49, x 50, x 51, x 52, x 53, x 54, x 55, x 56, x 57, x 58, x 59, .pointer (some ⟨gF, kf * 5, none⟩), x 61, x 62, x 63, x 64, x 65, x 66, x 67, x 68, x 69, x 70, x 71, x 72, x 73, x 74, x 75, x 76, x 77, x 78, x 79, x 80, x 81, x 82, x 83, x 84, x 85, x 86, x 87, x 88, x 89, x 90, x 91, x 92, x 93, x 94, x 95, x 96, x 97, x 98, x 99, x 100, x 101, x 102, x 103, x 104, x 105, x 106, x 107, x 108, x 109, x 110, x 111, x 112, x 113, x 114, x 115, x 116, x 117, x 118, x 119, x 120, x 121, x 122, x 123, x 124, x 125, x 126, x 127, x 128, x 129, x 130, x 131, x 132, x 133, x 134, x 135, x 136, x 137, x 138, x 139, x 140, x 141, x 142, x 143, x 144, x 145, x 146], defers := [] } wa := hK _ _ hW (by rw [if_neg (by decide), if_neg (by decide)]; exact Below.refl _ _) rfl trivial
          rw [p4, p5] at hk
          exact hk
        · -- operation 7
          simp only [List.getElem?_toArray, List.getElem?_cons_succ, List.getElem?_cons_zero, Option.some.injEq] at ho
          subst ho
          have p6 : (x 60) = .pointer (some ⟨gF, kf * 5, none⟩) := hdep 6 (List.mem_of_elem_eq_true (by kernel_rfl))
          clear hdep hgd hbef htd
          unfold fr147
          rw [p6]
          go_simp
          have hk : K { tmps := #[x 0, x 1, x 2, x 3, x 4, x 5, x 6, x 7, x 8, x 9, x 10, x 11, x 12, x 13, x 14, x 15, x 16, x 17, x 18, x 19, x 20, x 21, x 22, x 23, x 24, x 25, x 26, x 27, x 28, x 29, x 30, x 31, x 32, x 33, x 34, x 35, x 36, x 37, x 38, x 39, x 40, x 41, x 42, x 43, x 44, x 45, x 46, x 47, x 48, x 49, x 50, x 51, x 52, x 53, x 54, x 55, x 56, x 57, x 58, x 59, x 60, .pointer (some ⟨gF, kf * 5 + 1, none⟩), x 62, x 63, x 64, x 65, x 66, x 67, x 68, x 69, x 70, x 71, x 72, x 73, x 74, x 75, x 76, x 77, x 78, x 79, x 80, x 81, x 82, x 83, x 84, x 85, x 86, x 87, x 88, x 89, x 90, x 91, x 92, x 93, x 94, x 95, x 96, x 97, x 98, x 99, x 100, x 101, x 102, x 103, x 104, x 105, x 106, x 107, x 108, x 109, x 110, x 111, x 112, x 113, x 114, x 115, x 116, x 117, x 118, x 119, x 120, x 121, x 122, x 123, x 124, x 125, x 126, x 127, x 128, x 129, x 130, x 131, x 132, x 133, x 134, x 135, x 136, x 137, x 138, x 139, x 140, x 141, x 142, x 143, x 144, x 145, x 146], defers := [] } wa := hK _ _ hW (by rw [if_neg (by decide), if_neg (by decide)]; exact Below.refl _ _) rfl trivial
          rw [p6] at hk
          exact hk
        · -- operation 8
          simp only [List.getElem?_toArray, List.getElem?_cons_succ, List.getElem?_cons_zero, Option.some.injEq] at ho
          subst ho
          have p7 : (x 61) = .pointer (some ⟨gF, kf * 5 + 1, none⟩) := hdep 7 (List.mem_of_elem_eq_true (by kernel_rfl))
          have e14 : Below w6.heap.size w6 wa := hbef 14 (by decide) (by kernel_rfl)
          clear hdep hgd hbef htd
          have n1 := HN1.out _ e14
          unfold fr147
          rw [p7]
          go_simp
          have hk : K { tmps := #[x 0, x 1, x 2, x 3, x 4, x 5, x 6, x 7, x 8, x 9, x 10, x 11, x 12, x 13, x 14, x 15, x 16, x 17, x 18, x 19, x 20, x 21, x 22, x 23, x 24, x 25, x 26, x 27, x 28, x 29, x 30, x 31, x 32, x 33, x 34, x 35, x 36, x 37, x 38, x 39, x 40, x 41, x 42, x 43, x 44, x 45, x 46, x 47, x 48, x 49, x 50, x 51, x 52, x 53, x 54, x 55, x 56, x 57, x 58, x 59, x 60, x 61, .slice FA D.length FC, x 63, x 64, x 65, x 66, x 67, x 68, x 69, x 70, x 71, x 72, x 73, x 74, x 75, x 76, x 77, x 78, x 79, x 80, x 81, x 82, x 83, x 84, x 85, x 86, x 87, x 88, x 89, x 90, x 91, x 92, x 93, x 94, x 95, x 96, x 97, x 98, x 99, x 100, x 101, x 102, x 103, x 104, x 105, x 106, x 107, x 108, x 109, x 110, x 111, x 112, x 113, x 114, x 115, x 116, x 117, x 118, x 119, x 120, x 121, x 122, x 123, x 124, x 125, x 126, x 127, x 128, x 129, x 130, x 131, x 132, x 133, x 134, x 135, x 136, x 137, x 138, x 139, x 140, x 141, x 142, x 143, x 144, x 145, x 146], defers := [] } wa := hK _ _ hW (by rw [if_neg (by decide), if_neg (by decide)]; exact Below.refl _ _) rfl trivial
          rw [p7] at hk
          exact hk
        · -- operation 9
          simp only [List.getElem?_toArray, List.getElem?_cons_succ, List.getElem?_cons_zero, Option.some.injEq] at ho
          subst ho
          have p8 : (x 62) = .slice FA D.length FC := hdep 8 (List.mem_of_elem_eq_true (by kernel_rfl))
          have e14 : Below w6.heap.size w6 wa := hbef 14 (by decide) (by kernel_rfl)
          clear hdep hgd hbef htd
          have hsrc := (HSL.out.up e14).1
          unfold fr147
          rw [p8]
          refine wp_appendS elBy _ _ rfl w6.heap.size (.slice none 0 0) 0 [] rfl (World.ownsRow_nil _ _ _ _) _ (.slice FA D.length FC) D.length (bys D) rfl hsrc (bys_one _) (by unfold maxLen; omega) (by omega) e14.size fun v' w' h2 h3 _ => ?_
          rw [Nat.zero_add, List.nil_append] at h2
          have hk : K { tmps := #[x 0, x 1, x 2, x 3, x 4, x 5, x 6, x 7, x 8, x 9, x 10, x 11, x 12, x 13, x 14, x 15, x 16, x 17, x 18, x 19, x 20, x 21, x 22, x 23, x 24, x 25, x 26, x 27, x 28, x 29, x 30, x 31, x 32, x 33, x 34, x 35, x 36, x 37, x 38, x 39, x 40, x 41, x 42, x 43, x 44, x 45, x 46, x 47, x 48, x 49, x 50, x 51, x 52, x 53, x 54, x 55, x 56, x 57, x 58, x 59, x 60, x 61, x 62, v', x 64, x 65, x 66, x 67, x 68, x 69, x 70, x 71, x 72, x 73, x 74, x 75, x 76, x 77, x 78, x 79, x 80, x 81, x 82, x 83, x 84, x 85, x 86, x 87, x 88, x 89, x 90, x 91, x 92, x 93, x 94, x 95, x 96, x 97, x 98, x 99, x 100, x 101, x 102, x 103, x 104, x 105, x 106, x 107, x 108, x 109, x 110, x 111, x 112, x 113, x 114, x 115, x 116, x 117, x 118, x 119, x 120, x 121, x 122, x 123, x 124, x 125, x 126, x 127, x 128, x 129, x 130, x 131, x 132, x 133, x 134, x 135, x 136, x 137, x 138, x 139, x 140, x 141, x 142, x 143, x 144, x 145, x 146], defers := [] } w' := hK v' w' (hW.trans (h3.mono HGB.out.2)) (by rw [if_neg (by decide), if_pos (by decide)]; exact h3) trivial h2
          rw [p8] at hk
          exact hk
        · -- operation 10
          simp only [List.getElem?_toArray, List.getElem?_cons_succ, List.getElem?_cons_zero, Option.some.injEq] at ho
          subst ho
          clear hdep hgd hbef htd
          unfold fr147
          rw [E9.out]
          go_simp
          have hk : K { tmps := #[x 0, x 1, x 2, x 3, x 4, x 5, x 6, x 7, x 8, x 9, x 10, x 11, x 12, x 13, x 14, x 15, x 16, x 17, x 18, x 19, x 20, x 21, x 22, x 23, x 24, x 25, x 26, x 27, x 28, x 29, x 30, x 31, x 32, x 33, x 34, x 35, x 36, x 37, x 38, x 39, x 40, x 41, x 42, x 43, x 44, x 45, x 46, x 47, x 48, x 49, x 50, x 51, x 52, x 53, x 54, x 55, x 56, x 57, x 58, x 59, x 60, x 61, x 62, x 63, .slice DA data.length DC, x 65, x 66, x 67, x 68, x 69, x 70, x 71, x 72, x 73, x 74, x 75, x 76, x 77, x 78, x 79, x 80, x 81, x 82, x 83, x 84, x 85, x 86, x 87, x 88, x 89, x 90, x 91, x 92, x 93, x 94, x 95, x 96, x 97, x 98, x 99, x 100, x 101, x 102, x 103, x 104, x 105, x 106, x 107, x 108, x 109, x 110, x 111, x 112, x 113, x 114, x 115, x 116, x 117, x 118, x 119, x 120, x 121, x 122, x 123, x 124, x 125, x 126, x 127, x 128, x 129, x 130, x 131, x 132, x 133, x 134, x 135, x 136, x 137, x 138, x 139, x 140, x 141, x 142, x 143, x 144, x 145, x 146], defers := [] } wa := hK _ _ hW (by rw [if_neg (by decide), if_neg (by decide)]; exact Below.refl _ _) rfl trivial
          rw [E9.out] at hk
          exact hk
        · -- operation 11
          simp only [List.getElem?_toArray, List.getElem?_cons_succ, List.getElem?_cons_zero, Option.some.injEq] at ho
          subst ho
          have p10 : (x 64) = .slice DA data.length DC := hdep 10 (List.mem_of_elem_eq_true (by kernel_rfl))
          have e14 : Below w6.heap.size w6 wa := hbef 14 (by decide) (by kernel_rfl)
          have q9 : wa.ownsRow w6.heap.size 5 1 (x 63) D.length (bys D) := htd 9 (List.mem_of_elem_eq_true (by kernel_rfl)) rfl
          clear hdep hgd hbef htd
          have hsrc := ((show FiR w6 ⟨0, .slice DA data.length DC, data, false, false, 0⟩ from ⟨HD6.out, hdl⟩).up e14).1
          unfold fr147
          rw [p10]
          refine wp_appendS elBy _ _ rfl w6.heap.size (x 63) D.length (bys D) rfl q9 _ (.slice DA data.length DC) data.length (bys data) rfl hsrc (bys_one _) (by unfold maxLen; omega) (by omega) e14.size fun v' w' h2 h3 _ => ?_
          have hk : K { tmps := #[x 0, x 1, x 2, x 3, x 4, x 5, x 6, x 7, x 8, x 9, x 10, x 11, x 12, x 13, x 14, x 15, x 16, x 17, x 18, x 19, x 20, x 21, x 22, x 23, x 24, x 25, x 26, x 27, x 28, x 29, x 30, x 31, x 32, x 33, x 34, x 35, x 36, x 37, x 38, x 39, x 40, x 41, x 42, x 43, x 44, x 45, x 46, x 47, x 48, x 49, x 50, x 51, x 52, x 53, x 54, x 55, x 56, x 57, x 58, x 59, x 60, x 61, x 62, x 63, x 64, v', x 66, x 67, x 68, x 69, x 70, x 71, x 72, x 73, x 74, x 75, x 76, x 77, x 78, x 79, x 80, x 81, x 82, x 83, x 84, x 85, x 86, x 87, x 88, x 89, x 90, x 91, x 92, x 93, x 94, x 95, x 96, x 97, x 98, x 99, x 100, x 101, x 102, x 103, x 104, x 105, x 106, x 107, x 108, x 109, x 110, x 111, x 112, x 113, x 114, x 115, x 116, x 117, x 118, x 119, x 120, x 121, x 122, x 123, x 124, x 125, x 126, x 127, x 128, x 129, x 130, x 131, x 132, x 133, x 134, x 135, x 136, x 137, x 138, x 139, x 140, x 141, x 142, x 143, x 144, x 145, x 146], defers := [] } w' := hK v' w' (hW.trans (h3.mono HGB.out.2)) (by rw [if_neg (by decide), if_pos (by decide)]; exact h3) h2 trivial
          rw [p10] at hk
          exact hk
        · -- operation 12
          simp only [List.getElem?_toArray, List.getElem?_cons_succ, List.getElem?_cons_zero, Option.some.injEq] at ho
          subst ho
          have p1 : (x 55) = .slice (some ⟨gF, 0, none⟩) fs.F.length b2 := hdep 1 (List.mem_of_elem_eq_true (by kernel_rfl))
          have p2 : (x 56) = .int .i64 (kf : Int) := hdep 2 (List.mem_of_elem_eq_true (by kernel_rfl))
          clear hdep hgd hbef htd
          unfold fr147
          rw [p1, p2]
          go_simp
          have hk : K { tmps := #[x 0, x 1, x 2, x 3, x 4, x 5, x 6, x 7, x 8, x 9, x 10, x 11, x 12, x 13, x 14, x 15, x 16, x 17, x 18, x 19, x 20, x 21, x 22, x 23, x 24, x 25, x 26, x 27, x 28, x 29, x 30, x 31, x 32, x 33, x 34, x 35, x 36, x 37, x 38, x 39, x 40, x 41, x 42, x 43, x 44, x 45, x 46, x 47, x 48, x 49, x 50, x 51, x 52, x 53, x 54, x 55, x 56, x 57, x 58, x 59, x 60, x 61, x 62, x 63, x 64, x 65, .pointer (some ⟨gF, kf * 5, none⟩), x 67, x 68, x 69, x 70, x 71, x 72, x 73, x 74, x 75, x 76, x 77, x 78, x 79, x 80, x 81, x 82, x 83, x 84, x 85, x 86, x 87, x 88, x 89, x 90, x 91, x 92, x 93, x 94, x 95, x 96, x 97, x 98, x 99, x 100, x 101, x 102, x 103, x 104, x 105, x 106, x 107, x 108, x 109, x 110, x 111, x 112, x 113, x 114, x 115, x 116, x 117, x 118, x 119, x 120, x 121, x 122, x 123, x 124, x 125, x 126, x 127, x 128, x 129, x 130, x 131, x 132, x 133, x 134, x 135, x 136, x 137, x 138, x 139, x 140, x 141, x 142, x 143, x 144, x 145, x 146], defers := [] } wa := hK _ _ hW (by rw [if_neg (by decide), if_neg (by decide)]; exact Below.refl _ _) rfl trivial
          rw [p1, p2] at hk
          exact hk
        · -- operation 13
          simp only [List.getElem?_toArray, List.getElem?_cons_succ, List.getElem?_cons_zero, Option.some.injEq] at ho
          subst ho
          have p12 : (x 66) = .pointer (some ⟨gF, kf * 5, none⟩) := hdep 12 (List.mem_of_elem_eq_true (by kernel_rfl))
          clear hdep hgd hbef htd
          unfold fr147
          rw [p12]
          go_simp
          have hk : K { tmps := #[x 0, x 1, x 2, x 3, x 4, x 5, x 6, x 7, x 8, x 9, x 10, x 11, x 12, x 13, x 14, x 15, x 16, x 17, x 18, x 19, x 20, x 21, x 22, x 23, x 24, x 25, x 26, x 27, x 28, x 29, x 30, x 31, x 32, x 33, x 34, x 35, x 36, x 37, x 38, x 39, x 40, x 41, x 42, x 43, x 44, x 45, x 46, x 47, x 48, x 49, x 50, x 51, x 52, x 53, x 54, x 55, x 56, x 57, x 58, x 59, x 60, x 61, x 62, x 63, x 64, x 65, x 66, .pointer (some ⟨gF, kf * 5 + 1, none⟩), x 68, x 69, x 70, x 71, x 72, x 73, x 74, x 75, x 76, x 77, x 78, x 79, x 80, x 81, x 82, x 83, x 84, x 85, x 86, x 87, x 88, x 89, x 90, x 91, x 92, x 93, x 94, x 95, x 96, x 97, x 98, x 99, x 100, x 101, x 102, x 103, x 104, x 105, x 106, x 107, x 108, x 109, x 110, x 111, x 112, x 113, x 114, x 115, x 116, x 117, x 118, x 119, x 120, x 121, x 122, x 123, x 124, x 125, x 126, x 127, x 128, x 129, x 130, x 131, x 132, x 133, x 134, x 135, x 136, x 137, x 138, x 139, x 140, x 141, x 142, x 143, x 144, x 145, x 146], defers := [] } wa := hK _ _ hW (by rw [if_neg (by decide), if_neg (by decide)]; exact Below.refl _ _) rfl trivial
          rw [p12] at hk
          exact hk
        · -- operation 14
          simp only [List.getElem?_toArray, List.getElem?_cons_succ, List.getElem?_cons_zero, Option.some.injEq] at ho
          subst ho
          have p11 : wa.ownsRow w6.heap.size 5 1 ((x 65)) (D.length + data.length) (bys D ++ bys data) := hdep 11 (List.mem_of_elem_eq_true (by kernel_rfl))
          have p13 : (x 67) = .pointer (some ⟨gF, kf * 5 + 1, none⟩) := hdep 13 (List.mem_of_elem_eq_true (by kernel_rfl))
          have e14 : Below w6.heap.size w6 wa := hbef 14 (by decide) (by kernel_rfl)
          clear hdep hgd hbef htd
          have hS := HS6.out.up e14
          obtain ⟨c0, c1, c2, c3, c4⟩ := own_fiCells hS.f rfl HKF.out
          have hfz : wa.frozen? ⟨gF, kf * 5 + 1, none⟩ = false := own_frozen hS.f rfl _
          have hfr : FiR wa ⟨fs.F[kf].ino, (x 65), D ++ data, false, fs.F[kf].wh, fs.F[kf].left⟩ := ⟨by have := own_u8 p11; rw [← bys_app] at this; rw [List.length_append]; exact this, by rw [List.length_append]; have := HST2.out.2; omega⟩
          have hS8 := fset (j := 1) (u := x 65) (a := ⟨fs.F[kf].ino, (x 65), D ++ data, false, fs.F[kf].wh, fs.F[kf].left⟩) hS rfl HKF.out (by omega) (by rw [← HST2.out.1]; rfl) hfr
          obtain ⟨y, c1⟩ : ∃ y, wa.cell? ⟨gF, kf * 5 + 1, none⟩ = some y := ⟨_, c1⟩
          have hk : K { tmps := #[x 0, x 1, x 2, x 3, x 4, x 5, x 6, x 7, x 8, x 9, x 10, x 11, x 12, x 13, x 14, x 15, x 16, x 17, x 18, x 19, x 20, x 21, x 22, x 23, x 24, x 25, x 26, x 27, x 28, x 29, x 30, x 31, x 32, x 33, x 34, x 35, x 36, x 37, x 38, x 39, x 40, x 41, x 42, x 43, x 44, x 45, x 46, x 47, x 48, x 49, x 50, x 51, x 52, x 53, x 54, x 55, x 56, x 57, x 58, x 59, x 60, x 61, x 62, x 63, x 64, x 65, x 66, x 67, x 68, x 69, x 70, x 71, x 72, x 73, x 74, x 75, x 76, x 77, x 78, x 79, x 80, x 81, x 82, x 83, x 84, x 85, x 86, x 87, x 88, x 89, x 90, x 91, x 92, x 93, x 94, x 95, x 96, x 97, x 98, x 99, x 100, x 101, x 102, x 103, x 104, x 105, x 106, x 107, x 108, x 109, x 110, x 111, x 112, x 113, x 114, x 115, x 116, x 117, x 118, x 119, x 120, x 121, x 122, x 123, x 124, x 125, x 126, x 127, x 128, x 129, x 130, x 131, x 132, x 133, x 134, x 135, x 136, x 137, x 138, x 139, x 140, x 141, x 142, x 143, x 144, x 145, x 146], defers := [] } (wa.setCell ⟨gF, kf * 5 + 1, none⟩ (x 65)) := hK undef _ (hW.setCell (p := ⟨gF, kf * 5 + 1, none⟩) hgB _) (by rw [if_pos rfl]; exact grownBy_set (World.grownBy.refl _ _) _ _) ⟨_, hS8⟩ trivial
          obtain ⟨E1, E3, hy1, _⟩ := own_sl p11
          unfold fr147
          rw [p13, hy1]
          rw [p13, hy1] at hk
          clear hy1 hS8 hfr p11 p13 hS c0 c2 c3 c4
          go_simp
          exact hk
      case skip =>
        intro i o j b ho hgd
        have hi : i < 15 := (Array.getElem?_eq_some_iff.1 ho).1
        have hcase : i = 0 ∨ i = 1 ∨ i = 2 ∨ i = 3 ∨ i = 4 ∨ i = 5 ∨ i = 6 ∨ i = 7 ∨ i = 8 ∨ i = 9 ∨ i = 10 ∨ i = 11 ∨ i = 12 ∨ i = 13 ∨ i = 14 := by omega
        rcases hcase with rfl | rfl | rfl | rfl | rfl | rfl | rfl | rfl | rfl | rfl | rfl | rfl | rfl | rfl | rfl <;> (simp only [List.getElem?_toArray, List.getElem?_cons_succ, List.getElem?_cons_zero, Option.some.injEq] at ho; subst ho; cases hgd)
      case done =>
        intro x wd hout hW hall
        have pst := hall 14 (by decide)
        obtain ⟨dv, hSx⟩ := pst
        unfold fr147
        rw [(hout 0 (by decide)).trans (hx0 0), (hout 1 (by decide)).trans (hx0 1), (hout 2 (by decide)).trans (hx0 2), (hout 3 (by decide)).trans (hx0 3), (hout 4 (by decide)).trans (hx0 4), (hout 5 (by decide)).trans (hx0 5), (hout 6 (by decide)).trans (hx0 6), (hout 7 (by decide)).trans (hx0 7), (hout 8 (by decide)).trans (hx0 8), (hout 9 (by decide)).trans (hx0 9), (hout 10 (by decide)).trans (hx0 10), (hout 11 (by decide)).trans (hx0 11), (hout 12 (by decide)).trans (hx0 12), (hout 13 (by decide)).trans (hx0 13), (hout 14 (by decide)).trans (hx0 14), (hout 15 (by decide)).trans (hx0 15), (hout 16 (by decide)).trans (hx0 16), (hout 17 (by decide)).trans (hx0 17), (hout 18 (by decide)).trans (hx0 18), (hout 19 (by decide)).trans (hx0 19), (hout 20 (by decide)).trans (hx0 20), (hout 21 (by decide)).trans (hx0 21), (hout 22 (by decide)).trans (hx0 22), (hout 23 (by decide)).trans (hx0 23), (hout 24 (by decide)).trans (hx0 24), (hout 25 (by decide)).trans (hx0 25), (hout 26 (by decide)).trans (hx0 26), (hout 27 (by decide)).trans (hx0 27), (hout 28 (by decide)).trans (hx0 28), (hout 29 (by decide)).trans (hx0 29), (hout 30 (by decide)).trans (hx0 30), (hout 31 (by decide)).trans (hx0 31), (hout 32 (by decide)).trans (hx0 32), (hout 33 (by decide)).trans (hx0 33), (hout 34 (by decide)).trans (hx0 34), (hout 35 (by decide)).trans (hx0 35), (hout 36 (by decide)).trans (hx0 36), (hout 37 (by decide)).trans (hx0 37), (hout 38 (by decide)).trans (hx0 38), (hout 39 (by decide)).trans (hx0 39), (hout 40 (by decide)).trans (hx0 40), (hout 41 (by decide)).trans (hx0 41), (hout 42 (by decide)).trans (hx0 42), (hout 43 (by decide)).trans (hx0 43), (hout 44 (by decide)).trans (hx0 44), (hout 45 (by decide)).trans (hx0 45), (hout 46 (by decide)).trans (hx0 46), (hout 47 (by decide)).trans (hx0 47), (hout 48 (by decide)).trans (hx0 48), (hout 49 (by decide)).trans (hx0 49), (hout 50 (by decide)).trans (hx0 50), (hout 51 (by decide)).trans (hx0 51), (hout 52 (by decide)).trans (hx0 52), (hout 53 (by decide)).trans (hx0 53), (hout 68 (by decide)).trans (hx0 68), (hout 69 (by decide)).trans (hx0 69), (hout 70 (by decide)).trans (hx0 70), (hout 71 (by decide)).trans (hx0 71), (hout 72 (by decide)).trans (hx0 72), (hout 73 (by decide)).trans (hx0 73), (hout 74 (by decide)).trans (hx0 74), (hout 75 (by decide)).trans (hx0 75), (hout 76 (by decide)).trans (hx0 76), (hout 77 (by decide)).trans (hx0 77), (hout 78 (by decide)).trans (hx0 78), (hout 79 (by decide)).trans (hx0 79), (hout 80 (by decide)).trans (hx0 80), (hout 81 (by decide)).trans (hx0 81), (hout 82 (by decide)).trans (hx0 82), (hout 83 (by decide)).trans (hx0 83), (hout 84 (by decide)).trans (hx0 84), (hout 85 (by decide)).trans (hx0 85), (hout 86 (by decide)).trans (hx0 86), (hout 87 (by decide)).trans (hx0 87), (hout 88 (by decide)).trans (hx0 88), (hout 89 (by decide)).trans (hx0 89), (hout 90 (by decide)).trans (hx0 90), (hout 91 (by decide)).trans (hx0 91), (hout 92 (by decide)).trans (hx0 92), (hout 93 (by decide)).trans (hx0 93), (hout 94 (by decide)).trans (hx0 94), (hout 95 (by decide)).trans (hx0 95), (hout 96 (by decide)).trans (hx0 96), (hout 97 (by decide)).trans (hx0 97), (hout 98 (by decide)).trans (hx0 98), (hout 99 (by decide)).trans (hx0 99), (hout 100 (by decide)).trans (hx0 100), (hout 101 (by decide)).trans (hx0 101), (hout 102 (by decide)).trans (hx0 102), (hout 103 (by decide)).trans (hx0 103), (hout 104 (by decide)).trans (hx0 104), (hout 105 (by decide)).trans (hx0 105), (hout 106 (by decide)).trans (hx0 106), (hout 107 (by decide)).trans (hx0 107), (hout 108 (by decide)).trans (hx0 108), (hout 109 (by decide)).trans (hx0 109), (hout 110 (by decide)).trans (hx0 110), (hout 111 (by decide)).trans (hx0 111), (hout 112 (by decide)).trans (hx0 112), (hout 113 (by decide)).trans (hx0 113), (hout 114 (by decide)).trans (hx0 114), (hout 115 (by decide)).trans (hx0 115), (hout 116 (by decide)).trans (hx0 116), (hout 117 (by decide)).trans (hx0 117), (hout 118 (by decide)).trans (hx0 118), (hout 119 (by decide)).trans (hx0 119), (hout 120 (by decide)).trans (hx0 120), (hout 121 (by decide)).trans (hx0 121), (hout 122 (by decide)).trans (hx0 122), (hout 123 (by decide)).trans (hx0 123), (hout 124 (by decide)).trans (hx0 124), (hout 125 (by decide)).trans (hx0 125), (hout 126 (by decide)).trans (hx0 126), (hout 127 (by decide)).trans (hx0 127), (hout 128 (by decide)).trans (hx0 128), (hout 129 (by decide)).trans (hx0 129), (hout 130 (by decide)).trans (hx0 130), (hout 131 (by decide)).trans (hx0 131), (hout 132 (by decide)).trans (hx0 132), (hout 133 (by decide)).trans (hx0 133), (hout 134 (by decide)).trans (hx0 134), (hout 135 (by decide)).trans (hx0 135), (hout 136 (by decide)).trans (hx0 136), (hout 137 (by decide)).trans (hx0 137), (hout 138 (by decide)).trans (hx0 138), (hout 139 (by decide)).trans (hx0 139), (hout 140 (by decide)).trans (hx0 140), (hout 141 (by decide)).trans (hx0 141), (hout 142 (by decide)).trans (hx0 142), (hout 143 (by decide)).trans (hx0 143), (hout 144 (by decide)).trans (hx0 144), (hout 145 (by decide)).trans (hx0 145), (hout 146 (by decide)).trans (hx0 146)]
        simp only [Array.getD_eq_getD_getElem?, List.getElem?_toArray, List.getElem?_cons_succ, List.getElem?_cons_zero, Option.getD_some]
        have HFx := keep (HF6.out.below hW (by have := HGB.out; omega))
        have HZx := keep (HZ6.out.below hW (by have := HGB.out; omega))
        have HBx := keep (HB6.out.trans (hW.mono (by have := HGB.out; omega)))
        obtain ⟨FL, HMET, HSx, HLN, HLF, HLO⟩ : ∃ FL : FS, Hid (MetSt fs ⟨2, name, dst, .slice A data.length cc, data, n⟩ 0 FL) ∧ Hid (FsO wd B (.slice B1 fs.N.length b1) (.slice (some ⟨gF, 0, none⟩) fs.F.length b2) (.slice B3 fs.O.length b3) FL) ∧ Hid (FL.N.length ≤ 1000000) ∧ Hid (FL.F.length ≤ 1000000) ∧ Hid (FL.O.length ≤ 1000000) := ⟨(⟨fs.N, fs.F.set kf ⟨fs.F[kf].ino, dv, D ++ data, false, fs.F[kf].wh, fs.F[kf].left⟩, fs.O⟩ : FS), keep (HMT.out dv), keep hSx, keep (by show fs.N.length ≤ 1000000; omega), keep (by show (fs.F.set kf ⟨fs.F[kf].ino, dv, D ++ data, false, fs.F[kf].wh, fs.F[kf].left⟩).length ≤ 1000000; rw [List.length_set]; omega), keep (by show fs.O.length ≤ 1000000; omega)⟩
        clear hall hout hx0 y2 y9 y10 hSx hW
        have HSW := keep (refSweep_any _ _ _ FL wd HSx.out.t HLF.out HLN.out HLO.out)
        obtain ⟨f0, f1, f2⟩ := HFx.out.cell3
        go_wp2_with fail
        refine HSW.out.mono ?_
        rintro e wz ⟨vFz, rfl, hoF, hbz⟩
        obtain ⟨G2, g2, rfl, _⟩ := own_sl hoF
        have hZz := HZx.out.below hbz HZx.out.lt
        have hgz := grown_three wz (w.heap.size + 1 + 1) (.slice B1 fs.N.length b1) (.slice G2 (FL.F.filter (stays FL)).length g2) (.slice B3 fs.O.length b3)
        have hSz := HSx.out.up hbz
        have hTz : FsT wz (.slice B1 fs.N.length b1) (.slice G2 (FL.F.filter (stays FL)).length g2) (.slice B3 fs.O.length b3) (purged FL) := by
          have hp : purged FL = ⟨FL.N, FL.F.filter (stays FL), FL.O⟩ := by unfold purged; rw [stays_goes]
          rw [hp]
          exact ⟨own_ty hSz.n, own_ty hoF, own_ty hSz.o, fun t ht => hSz.d t (List.mem_filter.1 ht).1⟩
        have HTz := keep (hTz.grown hZz hgz (by decide) (by decide) (by decide) (by decide))
        have HZz := keep (hZz.three (.slice B1 fs.N.length b1) (.slice G2 (FL.F.filter (stays FL)).length g2) (.slice B3 fs.O.length b3))
        have HBz := keep (below_three (bchain HBx.out hbz) (show w.heap.size ≤ w.heap.size + 1 + 1 by omega) (.slice B1 fs.N.length b1) (.slice G2 (FL.F.filter (stays FL)).length g2) (.slice B3 fs.O.length b3))
        obtain ⟨z0, z1, z2⟩ := hZz.cell3
        obtain ⟨y0, y1, y2⟩ := hZz.froz3
        clear hbz hoF hZz hgz hSz hTz f0 f1 f2
        go_wp2_with fail
        have hdo := doSt_p HI.out (show DoSt fs ⟨2, name, dst, .slice A data.length cc, data, n⟩ 0 (purged FL) from .inr ⟨⟨by show (1:Int) ≤ 2; decide, by show (2:Int) ≤ 8; decide⟩, .inr ⟨badNm_no HBAD.out, .inr ⟨rfl, FL, HMET.out, rfl⟩⟩⟩)
        refine bodyPost_ret (results_cell_row_tmp rfl _ _ (w.heap.size + 1 + 1) _ _ _ _ rfl HZz.out Try.underlying40 rfl (by kernel_rfl)) rfl ?_
        exact ⟨purged FL, _, _, _, by rw [HE0.out]; rfl, HTz.out, congrArg Prod.snd hdo.1, hdo.2.1, hdo.2.2, HBz.out⟩
    · have hq := step_f ⟨by decide, by decide⟩ HST.out
      obtain ⟨i, kf, hii, hkf, hnm, hino, hlk, hfl⟩ := has_places HI.out hq
      have hi1 : i1 = fs.F[kf].ino := by rw [← HI1.out, hlk]; rfl
      have hr : r = (kf : Int) := at_place HI.out hkf (hi1 ▸ HR.out)
      subst hr
      obtain ⟨gF, rfl⟩ : ∃ gF, B2 = some ⟨gF, 0, none⟩ := by
        rcases HS6.out.f.2 with ⟨_, h0⟩ | ⟨g, cap, cur, h1, _⟩
        · exact absurd hkf (by rw [h0]; omega)
        · exact ⟨g, (Value.slice.inj h1).1⟩
      obtain ⟨c0, c1, c2, c3, c4⟩ := own_fiCells HS6.out.f rfl hkf
      have hgB : B ≤ gF := own_ge HS6.out.f gF rfl
      have hki0 : (0 : Int) ≤ (kf : Int) := by omega
      have hki1 : (kf : Int) < (fs.F.length : Int) := by omega
      have h3 : fs.F[kf].cp = false := step_3 hfl HST.out
      have HMET : Hid (MetSt fs ⟨3, name, dst, .slice A data.length cc, data, n⟩ 0 (⟨fs.N, fs.F.set kf ⟨fs.F[kf].ino, .slice none 0 0, [], false, fs.F[kf].wh, fs.F[kf].left⟩, fs.O⟩ : FS)) := keep (.inr (.inr (.inl ⟨rfl, .inr ⟨i, kf, hii, hkf, hnm, hino, .inr ⟨h3, rfl, rfl⟩⟩⟩)))
      have hWr : Below B w6 (w6.setCell ⟨gF, kf * 5 + 1, none⟩ (.slice none 0 0)) := (Below.refl B w6).setCell (p := ⟨gF, kf * 5 + 1, none⟩) hgB _
      have HS8 := keep (show FsO (w6.setCell ⟨gF, kf * 5 + 1, none⟩ (.slice none 0 0)) B (.slice B1 fs.N.length b1) (.slice (some ⟨gF, 0, none⟩) fs.F.length b2) (.slice B3 fs.O.length b3) (⟨fs.N, fs.F.set kf ⟨fs.F[kf].ino, .slice none 0 0, [], false, fs.F[kf].wh, fs.F[kf].left⟩, fs.O⟩ : FS) from fset (j := 1) (u := .slice none 0 0) (a := ⟨fs.F[kf].ino, .slice none 0 0, [], false, fs.F[kf].wh, fs.F[kf].left⟩) HS6.out rfl hkf (by omega) (by rw [← h3]; rfl) ⟨Sl.nil _ _ _ _ _, by simp⟩)
      have HF8 := keep (HF6.out.below hWr (by have := HGB.out; omega))
      have HZ8 := keep (HZ6.out.below hWr (by have := HGB.out; omega))
      have HB8 := keep (HB6.out.trans (hWr.mono (by have := HGB.out; omega)))
      have HLN : Hid ((⟨fs.N, fs.F.set kf ⟨fs.F[kf].ino, .slice none 0 0, [], false, fs.F[kf].wh, fs.F[kf].left⟩, fs.O⟩ : FS).N.length ≤ 1000000) := keep (by show fs.N.length ≤ 1000000; omega)
      have HLF : Hid ((⟨fs.N, fs.F.set kf ⟨fs.F[kf].ino, .slice none 0 0, [], false, fs.F[kf].wh, fs.F[kf].left⟩, fs.O⟩ : FS).F.length ≤ 1000000) := keep (by show (fs.F.set kf ⟨fs.F[kf].ino, .slice none 0 0, [], false, fs.F[kf].wh, fs.F[kf].left⟩).length ≤ 1000000; rw [List.length_set]; omega)
      have HLO : Hid ((⟨fs.N, fs.F.set kf ⟨fs.F[kf].ino, .slice none 0 0, [], false, fs.F[kf].wh, fs.F[kf].left⟩, fs.O⟩ : FS).O.length ≤ 1000000) := keep (by show fs.O.length ≤ 1000000; omega)
      have hfz : w6.frozen? ⟨gF, kf * 5 + 1, none⟩ = false := own_frozen HS6.out.f rfl _
      obtain ⟨y, hy⟩ : ∃ y, fs.F[kf].dv = y := ⟨_, rfl⟩
      rw [hy] at c1
      clear hq hlk hfl hi1 hnm hino h3 hWr c0 c2 c3 c4 hy
      obtain ⟨FL, hFL⟩ : ∃ FL, FL = (⟨fs.N, fs.F.set kf ⟨fs.F[kf].ino, .slice none 0 0, [], false, fs.F[kf].wh, fs.F[kf].left⟩, fs.O⟩ : FS) := ⟨_, rfl⟩
      rw [← hFL] at HMET HS8 HLN HLF HLO
      clear hFL hkf hii
      go_upto_region 28 with fail
      generalize w6.setCell ⟨gF, kf * 5 + 1, none⟩ (.slice none 0 0) = w8 at *
      clear c1 hfz f0 f1 f2 x0 x1 x2 x3 x4
      have HSW := keep (refSweep_any _ _ _ FL w8 HS8.out.t HLF.out HLN.out HLO.out)
      obtain ⟨f0, f1, f2⟩ := HF8.out.cell3
      go_wp2_with fail
      refine HSW.out.mono ?_
      rintro e wz ⟨vFz, rfl, hoF, hbz⟩
      obtain ⟨G2, g2, rfl, _⟩ := own_sl hoF
      have hZz := HZ8.out.below hbz HZ8.out.lt
      have hgz := grown_three wz (w.heap.size + 1 + 1) (.slice B1 fs.N.length b1) (.slice G2 (FL.F.filter (stays FL)).length g2) (.slice B3 fs.O.length b3)
      have hSz := HS8.out.up hbz
      have hTz : FsT wz (.slice B1 fs.N.length b1) (.slice G2 (FL.F.filter (stays FL)).length g2) (.slice B3 fs.O.length b3) (purged FL) := by
        have hp : purged FL = ⟨FL.N, FL.F.filter (stays FL), FL.O⟩ := by unfold purged; rw [stays_goes]
        rw [hp]
        exact ⟨own_ty hSz.n, own_ty hoF, own_ty hSz.o, fun t ht => hSz.d t (List.mem_filter.1 ht).1⟩
      have HTz := keep (hTz.grown hZz hgz (by decide) (by decide) (by decide) (by decide))
      have HZz := keep (hZz.three (.slice B1 fs.N.length b1) (.slice G2 (FL.F.filter (stays FL)).length g2) (.slice B3 fs.O.length b3))
      have HBz := keep (below_three (bchain HB8.out hbz) (show w.heap.size ≤ w.heap.size + 1 + 1 by omega) (.slice B1 fs.N.length b1) (.slice G2 (FL.F.filter (stays FL)).length g2) (.slice B3 fs.O.length b3))
      obtain ⟨z0, z1, z2⟩ := hZz.cell3
      obtain ⟨y0, y1, y2⟩ := hZz.froz3
      clear hbz hoF hZz hgz hSz hTz f0 f1 f2
      go_wp2_with fail
      have hdo := doSt_p HI.out (show DoSt fs ⟨3, name, dst, .slice A data.length cc, data, n⟩ 0 (purged FL) from .inr ⟨⟨by show (1:Int) ≤ 3; decide, by show (3:Int) ≤ 8; decide⟩, .inr ⟨badNm_no HBAD.out, .inr ⟨rfl, FL, HMET.out, rfl⟩⟩⟩)
      refine bodyPost_ret (results_cell_row_tmp rfl _ _ (w.heap.size + 1 + 1) _ _ _ _ rfl HZz.out Try.underlying40 rfl (by kernel_rfl)) rfl ?_
      exact ⟨purged FL, _, _, _, by rw [HE0.out]; rfl, HTz.out, congrArg Prod.snd hdo.1, hdo.2.1, hdo.2.2, HBz.out⟩
    · have hq := step_f ⟨by decide, by decide⟩ HST.out
      obtain ⟨i, kf, hii, hkf, hnm, hino, hlk, hfl⟩ := has_places HI.out hq
      have hi1 : i1 = fs.F[kf].ino := by rw [← HI1.out, hlk]; rfl
      have h4 := step_4 hfl HST.out
      have HMET : Hid (MetSt fs ⟨4, name, dst, .slice A data.length cc, data, n⟩ 0 (⟨(putName (rmName (rmName fs.N name) dst) ⟨dst, i1⟩), fs.F, fs.O⟩ : FS)) := keep (.inr (.inr (.inr (.inl ⟨rfl, .inr ⟨i, kf, hii, hkf, hnm, hino, .inr ⟨h4, rfl, by rw [hi1]⟩⟩⟩))))
      have HMN := keep (show fs.N.length ≤ 1000000 by omega)
      have HMN1 := keep (show (rmName fs.N name).length ≤ 1000000 by have := rmName_len fs.N name; omega)
      clear hq hlk hfl h4 hnm hino hi1 hii hkf
      go_wp2_with fail
      rename_i K' hK'
      have HK := keep hK'
      clear hK' f0 f1 f2 x0 x1 x2 x3 x4
      refine reg_start 147 fr147 (fun _ => rfl) _ rfl fun x0 hx0 => ?_
      have y2 : x0 2 = .pointer (some ⟨w.heap.size, 0, none⟩) := hx0 2
      have y3 : x0 3 = .pointer (some ⟨w.heap.size + 1, 0, none⟩) := hx0 3
      have y7 : x0 7 = .int .i64 i1 := hx0 7
      refine wp_regV (by kernel_rfl) 147 (fun i =>  i) (by kernel_rfl) fr147 (fun _ => rfl) x0 (DoWk w B #[.int .i64 4, .string name, .string dst, .slice A data.length cc, .int .i64 n]) (DoMn w B none 8) (fun i v u wa => match i with
          | 0 => v = .agg #[(.slice B1 fs.N.length b1), (.slice B2 fs.F.length b2), (.slice B3 fs.O.length b3)]
          | 1 => v = .pointer (some ⟨w.heap.size + 1, 1, none⟩)
          | 2 => v = .string name
          | 3 => ∃ vN' : Value, v = .agg #[vN', (.slice B2 fs.F.length b2), (.slice B3 fs.O.length b3)] ∧ FsO wa B vN' (.slice B2 fs.F.length b2) (.slice B3 fs.O.length b3) ⟨(rmName fs.N name), fs.F, fs.O⟩
          | 4 => v = .pointer (some ⟨w.heap.size + 1, 2, none⟩)
          | 5 => v = .string dst
          | 6 => v = .int .i64 i1
          | 7 => ∃ vN' : Value, v = .agg #[vN', (.slice B2 fs.F.length b2), (.slice B3 fs.O.length b3)] ∧ FsO wa B vN' (.slice B2 fs.F.length b2) (.slice B3 fs.O.length b3) (⟨(putName (rmName (rmName fs.N name) dst) ⟨dst, i1⟩), fs.F, fs.O⟩ : FS)
          | 8 => ∃ vN' : Value, Blk wa w.heap.size 40 #[vN', (.slice B2 fs.F.length b2), (.slice B3 fs.O.length b3)] ∧ FsO wa B vN' (.slice B2 fs.F.length b2) (.slice B3 fs.O.length b3) (⟨(putName (rmName (rmName fs.N name) dst) ⟨dst, i1⟩), fs.F, fs.O⟩ : FS)
          | _ => True) (fun m wa => if m = 8 then Blk wa w.heap.size 40 #[(.slice B1 fs.N.length b1), (.slice B2 fs.F.length b2), (.slice B3 fs.O.length b3)] ∧ FsO wa B (.slice B1 fs.N.length b1) (.slice B2 fs.F.length b2) (.slice B3 fs.O.length b3) fs else True) (fun m => by
          split
          · exact ⟨HF6.out, HS6.out.up (below_drewN (Below.refl _ w6) 1)⟩
          · trivial) (fun i m wa wb hne hmn h => by
          by_cases h2 : m = 8
          · rw [if_pos h2] at h ⊢
            exact ⟨DoMn.blk hmn (fun e => hne (e.trans h2.symm)) (by have := HGB.out; omega) h.1, DoMn.fso hmn (by simp) h.2⟩
          · rw [if_neg h2]; trivial) (by
            intro i j v u wa wb hbf hmn hp
            match j, hp with
            | 0, hp => exact hp
            | 1, hp => exact hp
            | 2, hp => exact hp
            | 3, hp => obtain ⟨vN', h1, h2⟩ := hp; exact ⟨vN', h1, DoMn.fso hmn (by simp) h2⟩
            | 4, hp => exact hp
            | 5, hp => exact hp
            | 6, hp => exact hp
            | 7, hp => obtain ⟨vN', h1, h2⟩ := hp; exact ⟨vN', h1, DoMn.fso hmn (by simp) h2⟩
            | 8, hp => obtain ⟨vN', h1, h2⟩ := hp; exact ⟨vN', DoMn.blk hmn (fun e => by subst e; exact Bool.false_ne_true (hbf.symm.trans (by kernel_rfl))) (by have := HGB.out; omega) h1, DoMn.fso hmn (by simp) h2⟩
            | _ + 9, hp => trivial) (⟨HB6.out.drew, HGB.out.2, HX6.out, HZ6.out, _, _, _, HF6.out⟩) ?step ?skip ?done
      case step =>
        intro i o ho x wa K hW hbef hout hdep hgd hK
        have E2 : Hid (x 2 = .pointer (some ⟨w.heap.size, 0, none⟩)) := keep ((hout 2 (by decide)).trans y2)
        have E3 : Hid (x 3 = .pointer (some ⟨w.heap.size + 1, 0, none⟩)) := keep ((hout 3 (by decide)).trans y3)
        have E7 : Hid (x 7 = .int .i64 i1) := keep ((hout 7 (by decide)).trans y7)
        clear hout hx0 y2 y3 y7
        have hi : i < 9 := (Array.getElem?_eq_some_iff.1 ho).1
        have hcase : i = 0 ∨ i = 1 ∨ i = 2 ∨ i = 3 ∨ i = 4 ∨ i = 5 ∨ i = 6 ∨ i = 7 ∨ i = 8 := by omega
        clear hi
        rcases hcase with rfl | rfl | rfl | rfl | rfl | rfl | rfl | rfl | rfl
        · -- operation 0
          simp only [List.getElem?_toArray, List.getElem?_cons_zero, Option.some.injEq] at ho
          subst ho
          have e8 : Blk wa w.heap.size 40 #[(.slice B1 fs.N.length b1), (.slice B2 fs.F.length b2), (.slice B3 fs.O.length b3)] ∧ FsO wa B (.slice B1 fs.N.length b1) (.slice B2 fs.F.length b2) (.slice B3 fs.O.length b3) fs := hbef 8 (by decide) (by kernel_rfl)
          clear hdep hgd hbef
          obtain ⟨f0, f1, f2⟩ := e8.1.cell3
          unfold fr147
          rw [E2.out]
          go_simp
          have hk : K { tmps := #[x 0, x 1, x 2, x 3, x 4, x 5, x 6, x 7, x 8, x 9, x 10, x 11, x 12, x 13, x 14, x 15, x 16, x 17, x 18, x 19, x 20, x 21, x 22, x 23, x 24, x 25, x 26, x 27, x 28, x 29, x 30, x 31, x 32, x 33, x 34, x 35, x 36, x 37, x 38, x 39, x 40, x 41, x 42, x 43, x 44, x 45, x 46, x 47, x 48, x 49, x 50, x 51, x 52, x 53, x 54, x 55, x 56, x 57, x 58, x 59, x 60, x 61, x 62, x 63, x 64, x 65, x 66, x 67, x 68, x 69, x 70, x 71, x 72, x 73, x 74, x 75, x 76, .agg #[(.slice B1 fs.N.length b1), (.slice B2 fs.F.length b2), (.slice B3 fs.O.length b3)], x 78, x 79, x 80, x 81, x 82, x 83, x 84, x 85, x 86, x 87, x 88, x 89, x 90, x 91, x 92, x 93, x 94, x 95, x 96, x 97, x 98, x 99, x 100, x 101, x 102, x 103, x 104, x 105, x 106, x 107, x 108, x 109, x 110, x 111, x 112, x 113, x 114, x 115, x 116, x 117, x 118, x 119, x 120, x 121, x 122, x 123, x 124, x 125, x 126, x 127, x 128, x 129, x 130, x 131, x 132, x 133, x 134, x 135, x 136, x 137, x 138, x 139, x 140, x 141, x 142, x 143, x 144, x 145, x 146], defers := [] } wa := hK _ _ hW (DoMn.pure (by decide) (by decide)) rfl
          rw [E2.out] at hk
          exact hk
        · -- operation 1
          simp only [List.getElem?_toArray, List.getElem?_cons_succ, List.getElem?_cons_zero, Option.some.injEq] at ho
          subst ho
          clear hdep hgd hbef
          unfold fr147
          rw [E3.out]
          go_simp
          have hk : K { tmps := #[x 0, x 1, x 2, x 3, x 4, x 5, x 6, x 7, x 8, x 9, x 10, x 11, x 12, x 13, x 14, x 15, x 16, x 17, x 18, x 19, x 20, x 21, x 22, x 23, x 24, x 25, x 26, x 27, x 28, x 29, x 30, x 31, x 32, x 33, x 34, x 35, x 36, x 37, x 38, x 39, x 40, x 41, x 42, x 43, x 44, x 45, x 46, x 47, x 48, x 49, x 50, x 51, x 52, x 53, x 54, x 55, x 56, x 57, x 58, x 59, x 60, x 61, x 62, x 63, x 64, x 65, x 66, x 67, x 68, x 69, x 70, x 71, x 72, x 73, x 74, x 75, x 76, x 77, .pointer (some ⟨w.heap.size + 1, 1, none⟩), x 79, x 80, x 81, x 82, x 83, x 84, x 85, x 86, x 87, x 88, x 89, x 90, x 91, x 92, x 93, x 94, x 95, x 96, x 97, x 98, x 99, x 100, x 101, x 102, x 103, x 104, x 105, x 106, x 107, x 108, x 109, x 110, x 111, x 112, x 113, x 114, x 115, x 116, x 117, x 118, x 119, x 120, x 121, x 122, x 123, x 124, x 125, x 126, x 127, x 128, x 129, x 130, x 131, x 132, x 133, x 134, x 135, x 136, x 137, x 138, x 139, x 140, x 141, x 142, x 143, x 144, x 145, x 146], defers := [] } wa := hK _ _ hW (DoMn.pure (by decide) (by decide)) rfl
          rw [E3.out] at hk
          exact hk
        · -- operation 2
          simp only [List.getElem?_toArray, List.getElem?_cons_succ, List.getElem?_cons_zero, Option.some.injEq] at ho
          subst ho
          have p1 : (x 78) = .pointer (some ⟨w.heap.size + 1, 1, none⟩) := hdep 1 (List.mem_of_elem_eq_true (by kernel_rfl))
          clear hdep hgd hbef
          obtain ⟨x0, x1, x2, x3, x4⟩ := hW.2.2.1.cell5
          unfold fr147
          rw [p1]
          go_simp
          have hk : K { tmps := #[x 0, x 1, x 2, x 3, x 4, x 5, x 6, x 7, x 8, x 9, x 10, x 11, x 12, x 13, x 14, x 15, x 16, x 17, x 18, x 19, x 20, x 21, x 22, x 23, x 24, x 25, x 26, x 27, x 28, x 29, x 30, x 31, x 32, x 33, x 34, x 35, x 36, x 37, x 38, x 39, x 40, x 41, x 42, x 43, x 44, x 45, x 46, x 47, x 48, x 49, x 50, x 51, x 52, x 53, x 54, x 55, x 56, x 57, x 58, x 59, x 60, x 61, x 62, x 63, x 64, x 65, x 66, x 67, x 68, x 69, x 70, x 71, x 72, x 73, x 74, x 75, x 76, x 77, x 78, .string name, x 80, x 81, x 82, x 83, x 84, x 85, x 86, x 87, x 88, x 89, x 90, x 91, x 92, x 93, x 94, x 95, x 96, x 97, x 98, x 99, x 100, x 101, x 102, x 103, x 104, x 105, x 106, x 107, x 108, x 109, x 110, x 111, x 112, x 113, x 114, x 115, x 116, x 117, x 118, x 119, x 120, x 121, x 122, x 123, x 124, x 125, x 126, x 127, x 128, x 129, x 130, x 131, x 132, x 133, x 134, x 135, x 136, x 137, x 138, x 139, x 140, x 141, x 142, x 143, x 144, x 145, x 146], defers := [] } wa := hK _ _ hW (DoMn.pure (by decide) (by decide)) rfl
          rw [p1] at hk
          exact hk
        · -- operation 3
          simp only [List.getElem?_toArray, List.getElem?_cons_succ, List.getElem?_cons_zero, Option.some.injEq] at ho
          subst ho
          have p0 : (x 77) = .agg #[(.slice B1 fs.N.length b1), (.slice B2 fs.F.length b2), (.slice B3 fs.O.length b3)] := hdep 0 (List.mem_of_elem_eq_true (by kernel_rfl))
          have p2 : (x 79) = .string name := hdep 2 (List.mem_of_elem_eq_true (by kernel_rfl))
          have e8 : Blk wa w.heap.size 40 #[(.slice B1 fs.N.length b1), (.slice B2 fs.F.length b2), (.slice B3 fs.O.length b3)] ∧ FsO wa B (.slice B1 fs.N.length b1) (.slice B2 fs.F.length b2) (.slice B3 fs.O.length b3) fs := hbef 8 (by decide) (by kernel_rfl)
          clear hdep hgd hbef
          unfold fr147
          rw [p0, p2]
          go_simp
          refine (refUnlink_any _ _ _ fs name wa e8.2.t HMN.out).mono ?_
          rintro e w8 ⟨vN', rfl, ho8, hb8⟩
          have hk : K { tmps := #[x 0, x 1, x 2, x 3, x 4, x 5, x 6, x 7, x 8, x 9, x 10, x 11, x 12, x 13, x 14, x 15, x 16, x 17, x 18, x 19, x 20, x 21, x 22, x 23, x 24, x 25, x 26, x 27, x 28, x 29, x 30, x 31, x 32, x 33, x 34, x 35, x 36, x 37, x 38, x 39, x 40, x 41, x 42, x 43, x 44, x 45, x 46, x 47, x 48, x 49, x 50, x 51, x 52, x 53, x 54, x 55, x 56, x 57, x 58, x 59, x 60, x 61, x 62, x 63, x 64, x 65, x 66, x 67, x 68, x 69, x 70, x 71, x 72, x 73, x 74, x 75, x 76, x 77, x 78, x 79, .agg #[vN', (.slice B2 fs.F.length b2), (.slice B3 fs.O.length b3)], x 81, x 82, x 83, x 84, x 85, x 86, x 87, x 88, x 89, x 90, x 91, x 92, x 93, x 94, x 95, x 96, x 97, x 98, x 99, x 100, x 101, x 102, x 103, x 104, x 105, x 106, x 107, x 108, x 109, x 110, x 111, x 112, x 113, x 114, x 115, x 116, x 117, x 118, x 119, x 120, x 121, x 122, x 123, x 124, x 125, x 126, x 127, x 128, x 129, x 130, x 131, x 132, x 133, x 134, x 135, x 136, x 137, x 138, x 139, x 140, x 141, x 142, x 143, x 144, x 145, x 146], defers := [] } w8 := hK _ _ (hW.up HGB.out.1 hb8) (by unfold DoMn; rw [if_neg (by decide), if_neg (by decide)]; exact hb8) ⟨vN', rfl, own_mono ho8 hW.2.1, own_bel e8.2.f hb8, own_bel e8.2.o hb8, fun t ht => (e8.2.d t ht).up hb8⟩
          rw [p0, p2] at hk
          exact hk
        · -- operation 4
          simp only [List.getElem?_toArray, List.getElem?_cons_succ, List.getElem?_cons_zero, Option.some.injEq] at ho
          subst ho
          clear hdep hgd hbef
          unfold fr147
          rw [E3.out]
          go_simp
          have hk : K { tmps := #[x 0, x 1, x 2, x 3, x 4, x 5, x 6, x 7, x 8, x 9, x 10, x 11, x 12, x 13, x 14, x 15, x 16, x 17, x 18, x 19, x 20, x 21, x 22, x 23, x 24, x 25, x 26, x 27, x 28, x 29, x 30, x 31, x 32, x 33, x 34, x 35, x 36, x 37, x 38, x 39, x 40, x 41, x 42, x 43, x 44, x 45, x 46, x 47, x 48, x 49, x 50, x 51, x 52, x 53, x 54, x 55, x 56, x 57, x 58, x 59, x 60, x 61, x 62, x 63, x 64, x 65, x 66, x 67, x 68, x 69, x 70, x 71, x 72, x 73, x 74, x 75, x 76, x 77, x 78, x 79, x 80, .pointer (some ⟨w.heap.size + 1, 2, none⟩), x 82, x 83, x 84, x 85, x 86, x 87, x 88, x 89, x 90, x 91, x 92, x 93, x 94, x 95, x 96, x 97, x 98, x 99, x 100, x 101, x 102, x 103, x 104, x 105, x 106, x 107, x 108, x 109, x 110, x 111, x 112, x 113, x 114, x 115, x 116, x 117, x 118, x 119, x 120, x 121, x 122, x 123, x 124, x 125, x 126, x 127, x 128, x 129, x 130, x 131, x 132, x 133, x 134, x 135, x 136, x 137, x 138, x 139, x 140, x 141, x 142, x 143, x 144, x 145, x 146], defers := [] } wa := hK _ _ hW (DoMn.pure (by decide) (by decide)) rfl
          rw [E3.out] at hk
          exact hk
        · -- operation 5
          simp only [List.getElem?_toArray, List.getElem?_cons_succ, List.getElem?_cons_zero, Option.some.injEq] at ho
          subst ho
          have p4 : (x 81) = .pointer (some ⟨w.heap.size + 1, 2, none⟩) := hdep 4 (List.mem_of_elem_eq_true (by kernel_rfl))
          clear hdep hgd hbef
          obtain ⟨x0, x1, x2, x3, x4⟩ := hW.2.2.1.cell5
          unfold fr147
          rw [p4]
          go_simp
          have hk : K { tmps := #[x 0, x 1, x 2, x 3, x 4, x 5, x 6, x 7, x 8, x 9, x 10, x 11, x 12, x 13, x 14, x 15, x 16, x 17, x 18, x 19, x 20, x 21, x 22, x 23, x 24, x 25, x 26, x 27, x 28, x 29, x 30, x 31, x 32, x 33, x 34, x 35, x 36, x 37, x 38, x 39, x 40, x 41, x 42, x 43, x 44, x 45, x 46, x 47, x 48, x 49, x 50, x 51, x 52, x 53, x 54, x 55, x 56, x 57, x 58, x 59, x 60, x 61, x 62, x 63, x 64, x 65, x 66, x 67, x 68, x 69, x 70, x 71, x 72, x 73, x 74, x 75, x 76, x 77, x 78, x 79, x 80, x 81, .string dst, x 83, x 84, x 85, x 86, x 87, x 88, x 89, x 90, x 91, x 92, x 93, x 94, x 95, x 96, x 97, x 98, x 99, x 100, x 101, x 102, x 103, x 104, x 105, x 106, x 107, x 108, x 109, x 110, x 111, x 112, x 113, x 114, x 115, x 116, x 117, x 118, x 119, x 120, x 121, x 122, x 123, x 124, x 125, x 126, x 127, x 128, x 129, x 130, x 131, x 132, x 133, x 134, x 135, x 136, x 137, x 138, x 139, x 140, x 141, x 142, x 143, x 144, x 145, x 146], defers := [] } wa := hK _ _ hW (DoMn.pure (by decide) (by decide)) rfl
          rw [p4] at hk
          exact hk
        · -- operation 6
          simp only [List.getElem?_toArray, List.getElem?_cons_succ, List.getElem?_cons_zero, Option.some.injEq] at ho
          subst ho
          clear hdep hgd hbef
          unfold fr147
          rw [E7.out]
          go_simp
          have hk : K { tmps := #[x 0, x 1, x 2, x 3, x 4, x 5, x 6, x 7, x 8, x 9, x 10, x 11, x 12, x 13, x 14, x 15, x 16, x 17, x 18, x 19, x 20, x 21, x 22, x 23, x 24, x 25, x 26, x 27, x 28, x 29, x 30, x 31, x 32, x 33, x 34, x 35, x 36, x 37, x 38, x 39, x 40, x 41, x 42, x 43, x 44, x 45, x 46, x 47, x 48, x 49, x 50, x 51, x 52, x 53, x 54, x 55, x 56, x 57, x 58, x 59, x 60, x 61, x 62, x 63, x 64, x 65, x 66, x 67, x 68, x 69, x 70, x 71, x 72, x 73, x 74, x 75, x 76, x 77, x 78, x 79, x 80, x 81, x 82, .int .i64 i1, x 84, x 85, x 86, x 87, x 88, x 89, x 90, x 91, x 92, x 93, x 94, x 95, x 96, x 97, x 98, x 99, x 100, x 101, x 102, x 103, x 104, x 105, x 106, x 107, x 108, x 109, x 110, x 111, x 112, x 113, x 114, x 115, x 116, x 117, x 118, x 119, x 120, x 121, x 122, x 123, x 124, x 125, x 126, x 127, x 128, x 129, x 130, x 131, x 132, x 133, x 134, x 135, x 136, x 137, x 138, x 139, x 140, x 141, x 142, x 143, x 144, x 145, x 146], defers := [] } wa := hK _ _ hW (DoMn.pure (by decide) (by decide)) rfl
          rw [E7.out] at hk
          exact hk
        · -- operation 7
          simp only [List.getElem?_toArray, List.getElem?_cons_succ, List.getElem?_cons_zero, Option.some.injEq] at ho
          subst ho
          have p3 : ∃ vN' : Value, (x 80) = .agg #[vN', (.slice B2 fs.F.length b2), (.slice B3 fs.O.length b3)] ∧ FsO wa B vN' (.slice B2 fs.F.length b2) (.slice B3 fs.O.length b3) ⟨(rmName fs.N name), fs.F, fs.O⟩ := hdep 3 (List.mem_of_elem_eq_true (by kernel_rfl))
          have p5 : (x 82) = .string dst := hdep 5 (List.mem_of_elem_eq_true (by kernel_rfl))
          have p6 : (x 83) = .int .i64 i1 := hdep 6 (List.mem_of_elem_eq_true (by kernel_rfl))
          clear hdep hgd hbef
          obtain ⟨vN, hv4, hS4⟩ := p3
          unfold fr147
          rw [hv4, p5, p6]
          go_simp
          refine (refLink_any _ _ _ ⟨(rmName fs.N name), fs.F, fs.O⟩ dst i1 wa hS4.t HMN1.out).mono ?_
          rintro e w8 ⟨p, vN', hins, rfl, ho8, hb8⟩
          rw [insN_put (NSrt.rm (NSrt.rm HI.out.n name) dst) (fun q hq => (mem_rm.1 hq).2) hins] at ho8
          have hk : K { tmps := #[x 0, x 1, x 2, x 3, x 4, x 5, x 6, x 7, x 8, x 9, x 10, x 11, x 12, x 13, x 14, x 15, x 16, x 17, x 18, x 19, x 20, x 21, x 22, x 23, x 24, x 25, x 26, x 27, x 28, x 29, x 30, x 31, x 32, x 33, x 34, x 35, x 36, x 37, x 38, x 39, x 40, x 41, x 42, x 43, x 44, x 45, x 46, x 47, x 48, x 49, x 50, x 51, x 52, x 53, x 54, x 55, x 56, x 57, x 58, x 59, x 60, x 61, x 62, x 63, x 64, x 65, x 66, x 67, x 68, x 69, x 70, x 71, x 72, x 73, x 74, x 75, x 76, x 77, x 78, x 79, x 80, x 81, x 82, x 83, .agg #[vN', (.slice B2 fs.F.length b2), (.slice B3 fs.O.length b3)], x 85, x 86, x 87, x 88, x 89, x 90, x 91, x 92, x 93, x 94, x 95, x 96, x 97, x 98, x 99, x 100, x 101, x 102, x 103, x 104, x 105, x 106, x 107, x 108, x 109, x 110, x 111, x 112, x 113, x 114, x 115, x 116, x 117, x 118, x 119, x 120, x 121, x 122, x 123, x 124, x 125, x 126, x 127, x 128, x 129, x 130, x 131, x 132, x 133, x 134, x 135, x 136, x 137, x 138, x 139, x 140, x 141, x 142, x 143, x 144, x 145, x 146], defers := [] } w8 := hK _ _ (hW.up HGB.out.1 hb8) (by unfold DoMn; rw [if_neg (by decide), if_neg (by decide)]; exact hb8) ⟨vN', rfl, own_mono ho8 hW.2.1, own_bel hS4.f hb8, own_bel hS4.o hb8, fun t ht => (hS4.d t ht).up hb8⟩
          rw [hv4, p5, p6] at hk
          exact hk
        · -- operation 8
          simp only [List.getElem?_toArray, List.getElem?_cons_succ, List.getElem?_cons_zero, Option.some.injEq] at ho
          subst ho
          have p7 : ∃ vN' : Value, (x 84) = .agg #[vN', (.slice B2 fs.F.length b2), (.slice B3 fs.O.length b3)] ∧ FsO wa B vN' (.slice B2 fs.F.length b2) (.slice B3 fs.O.length b3) (⟨(putName (rmName (rmName fs.N name) dst) ⟨dst, i1⟩), fs.F, fs.O⟩ : FS) := hdep 7 (List.mem_of_elem_eq_true (by kernel_rfl))
          clear hdep hgd hbef
          obtain ⟨vN', hv8, hS8⟩ := p7
          obtain ⟨B4, b4, rfl, _⟩ := own_sl hS8.n
          obtain ⟨a0, a1, a2, hb0⟩ := hW.2.2.2.2
          obtain ⟨f0, f1, f2⟩ := hb0.cell3
          obtain ⟨q0, q1, q2⟩ := hb0.froz3
          have hk : K { tmps := #[x 0, x 1, x 2, x 3, x 4, x 5, x 6, x 7, x 8, x 9, x 10, x 11, x 12, x 13, x 14, x 15, x 16, x 17, x 18, x 19, x 20, x 21, x 22, x 23, x 24, x 25, x 26, x 27, x 28, x 29, x 30, x 31, x 32, x 33, x 34, x 35, x 36, x 37, x 38, x 39, x 40, x 41, x 42, x 43, x 44, x 45, x 46, x 47, x 48, x 49, x 50, x 51, x 52, x 53, x 54, x 55, x 56, x 57, x 58, x 59, x 60, x 61, x 62, x 63, x 64, x 65, x 66, x 67, x 68, x 69, x 70, x 71, x 72, x 73, x 74, x 75, x 76, x 77, x 78, x 79, x 80, x 81, x 82, x 83, x 84, x 85, x 86, x 87, x 88, x 89, x 90, x 91, x 92, x 93, x 94, x 95, x 96, x 97, x 98, x 99, x 100, x 101, x 102, x 103, x 104, x 105, x 106, x 107, x 108, x 109, x 110, x 111, x 112, x 113, x 114, x 115, x 116, x 117, x 118, x 119, x 120, x 121, x 122, x 123, x 124, x 125, x 126, x 127, x 128, x 129, x 130, x 131, x 132, x 133, x 134, x 135, x 136, x 137, x 138, x 139, x 140, x 141, x 142, x 143, x 144, x 145, x 146], defers := [] } (((wa.setCell ⟨w.heap.size, 0, none⟩ (.slice B4 (putName (rmName (rmName fs.N name) dst) ⟨dst, i1⟩).length b4)).setCell ⟨w.heap.size, 1, none⟩ (.slice B2 fs.F.length b2)).setCell ⟨w.heap.size, 2, none⟩ (.slice B3 fs.O.length b3)) := hK undef _ (hW.box _ _ _) (by unfold DoMn; rw [if_neg (by decide), if_pos rfl]; exact ⟨grown_three wa w.heap.size _ _ _, _, _, _, hb0⟩) ⟨_, hb0.three _ _ _, hS8.box hb0 (grown_three wa w.heap.size _ _ _)⟩
          unfold fr147
          rw [E2.out, hv8]
          rw [E2.out, hv8] at hk
          clear hv8
          go_simp
          exact hk
      case skip =>
        intro i o j b ho hgd
        have hi : i < 9 := (Array.getElem?_eq_some_iff.1 ho).1
        have hcase : i = 0 ∨ i = 1 ∨ i = 2 ∨ i = 3 ∨ i = 4 ∨ i = 5 ∨ i = 6 ∨ i = 7 ∨ i = 8 := by omega
        rcases hcase with rfl | rfl | rfl | rfl | rfl | rfl | rfl | rfl | rfl <;> (simp only [List.getElem?_toArray, List.getElem?_cons_succ, List.getElem?_cons_zero, Option.some.injEq] at ho; subst ho; cases hgd)
      case done =>
        intro x wd hout hW hall
        have pst := hall 8 (by decide)
        obtain ⟨vN', hbx, hSx⟩ := pst
        refine HK.out _ _ ?_
        unfold fr147
        rw [(hout 0 (by decide)).trans (hx0 0), (hout 1 (by decide)).trans (hx0 1), (hout 2 (by decide)).trans (hx0 2), (hout 3 (by decide)).trans (hx0 3), (hout 4 (by decide)).trans (hx0 4), (hout 5 (by decide)).trans (hx0 5), (hout 6 (by decide)).trans (hx0 6), (hout 7 (by decide)).trans (hx0 7), (hout 8 (by decide)).trans (hx0 8), (hout 9 (by decide)).trans (hx0 9), (hout 10 (by decide)).trans (hx0 10), (hout 11 (by decide)).trans (hx0 11), (hout 12 (by decide)).trans (hx0 12), (hout 13 (by decide)).trans (hx0 13), (hout 14 (by decide)).trans (hx0 14), (hout 15 (by decide)).trans (hx0 15), (hout 16 (by decide)).trans (hx0 16), (hout 17 (by decide)).trans (hx0 17), (hout 18 (by decide)).trans (hx0 18), (hout 19 (by decide)).trans (hx0 19), (hout 20 (by decide)).trans (hx0 20), (hout 21 (by decide)).trans (hx0 21), (hout 22 (by decide)).trans (hx0 22), (hout 23 (by decide)).trans (hx0 23), (hout 24 (by decide)).trans (hx0 24), (hout 25 (by decide)).trans (hx0 25), (hout 26 (by decide)).trans (hx0 26), (hout 27 (by decide)).trans (hx0 27), (hout 28 (by decide)).trans (hx0 28), (hout 29 (by decide)).trans (hx0 29), (hout 30 (by decide)).trans (hx0 30), (hout 31 (by decide)).trans (hx0 31), (hout 32 (by decide)).trans (hx0 32), (hout 33 (by decide)).trans (hx0 33), (hout 34 (by decide)).trans (hx0 34), (hout 35 (by decide)).trans (hx0 35), (hout 36 (by decide)).trans (hx0 36), (hout 37 (by decide)).trans (hx0 37), (hout 38 (by decide)).trans (hx0 38), (hout 39 (by decide)).trans (hx0 39), (hout 40 (by decide)).trans (hx0 40), (hout 41 (by decide)).trans (hx0 41), (hout 42 (by decide)).trans (hx0 42), (hout 43 (by decide)).trans (hx0 43), (hout 44 (by decide)).trans (hx0 44), (hout 45 (by decide)).trans (hx0 45), (hout 46 (by decide)).trans (hx0 46), (hout 47 (by decide)).trans (hx0 47), (hout 48 (by decide)).trans (hx0 48), (hout 49 (by decide)).trans (hx0 49), (hout 50 (by decide)).trans (hx0 50), (hout 51 (by decide)).trans (hx0 51), (hout 52 (by decide)).trans (hx0 52), (hout 53 (by decide)).trans (hx0 53), (hout 54 (by decide)).trans (hx0 54), (hout 55 (by decide)).trans (hx0 55), (hout 56 (by decide)).trans (hx0 56), (hout 57 (by decide)).trans (hx0 57), (hout 58 (by decide)).trans (hx0 58), (hout 59 (by decide)).trans (hx0 59), (hout 60 (by decide)).trans (hx0 60), (hout 61 (by decide)).trans (hx0 61), (hout 62 (by decide)).trans (hx0 62), (hout 63 (by decide)).trans (hx0 63), (hout 64 (by decide)).trans (hx0 64), (hout 65 (by decide)).trans (hx0 65), (hout 66 (by decide)).trans (hx0 66), (hout 67 (by decide)).trans (hx0 67), (hout 68 (by decide)).trans (hx0 68), (hout 69 (by decide)).trans (hx0 69), (hout 70 (by decide)).trans (hx0 70), (hout 71 (by decide)).trans (hx0 71), (hout 72 (by decide)).trans (hx0 72), (hout 73 (by decide)).trans (hx0 73), (hout 74 (by decide)).trans (hx0 74), (hout 75 (by decide)).trans (hx0 75), (hout 76 (by decide)).trans (hx0 76), (hout 85 (by decide)).trans (hx0 85), (hout 86 (by decide)).trans (hx0 86), (hout 87 (by decide)).trans (hx0 87), (hout 88 (by decide)).trans (hx0 88), (hout 89 (by decide)).trans (hx0 89), (hout 90 (by decide)).trans (hx0 90), (hout 91 (by decide)).trans (hx0 91), (hout 92 (by decide)).trans (hx0 92), (hout 93 (by decide)).trans (hx0 93), (hout 94 (by decide)).trans (hx0 94), (hout 95 (by decide)).trans (hx0 95), (hout 96 (by decide)).trans (hx0 96), (hout 97 (by decide)).trans (hx0 97), (hout 98 (by decide)).trans (hx0 98), (hout 99 (by decide)).trans (hx0 99), (hout 100 (by decide)).trans (hx0 100), (hout 101 (by decide)).trans (hx0 101), (hout 102 (by decide)).trans (hx0 102), (hout 103 (by decide)).trans (hx0 103), (hout 104 (by decide)).trans (hx0 104), (hout 105 (by decide)).trans (hx0 105), (hout 106 (by decide)).trans (hx0 106), (hout 107 (by decide)).trans (hx0 107), (hout 108 (by decide)).trans (hx0 108), (hout 109 (by decide)).trans (hx0 109), (hout 110 (by decide)).trans (hx0 110), (hout 111 (by decide)).trans (hx0 111), (hout 112 (by decide)).trans (hx0 112), (hout 113 (by decide)).trans (hx0 113), (hout 114 (by decide)).trans (hx0 114), (hout 115 (by decide)).trans (hx0 115), (hout 116 (by decide)).trans (hx0 116), (hout 117 (by decide)).trans (hx0 117), (hout 118 (by decide)).trans (hx0 118), (hout 119 (by decide)).trans (hx0 119), (hout 120 (by decide)).trans (hx0 120), (hout 121 (by decide)).trans (hx0 121), (hout 122 (by decide)).trans (hx0 122), (hout 123 (by decide)).trans (hx0 123), (hout 124 (by decide)).trans (hx0 124), (hout 125 (by decide)).trans (hx0 125), (hout 126 (by decide)).trans (hx0 126), (hout 127 (by decide)).trans (hx0 127), (hout 128 (by decide)).trans (hx0 128), (hout 129 (by decide)).trans (hx0 129), (hout 130 (by decide)).trans (hx0 130), (hout 131 (by decide)).trans (hx0 131), (hout 132 (by decide)).trans (hx0 132), (hout 133 (by decide)).trans (hx0 133), (hout 134 (by decide)).trans (hx0 134), (hout 135 (by decide)).trans (hx0 135), (hout 136 (by decide)).trans (hx0 136), (hout 137 (by decide)).trans (hx0 137), (hout 138 (by decide)).trans (hx0 138), (hout 139 (by decide)).trans (hx0 139), (hout 140 (by decide)).trans (hx0 140), (hout 141 (by decide)).trans (hx0 141), (hout 142 (by decide)).trans (hx0 142), (hout 143 (by decide)).trans (hx0 143), (hout 144 (by decide)).trans (hx0 144), (hout 145 (by decide)).trans (hx0 145), (hout 146 (by decide)).trans (hx0 146)]
        simp only [Array.getD_eq_getD_getElem?, List.getElem?_toArray, List.getElem?_cons_succ, List.getElem?_cons_zero, Option.getD_some]
        have HFx := keep hbx
        have HSx := keep hSx
        have HZx := keep hW.2.2.2.1
        have HBx := keep hW.1
        have HLN : Hid ((⟨(putName (rmName (rmName fs.N name) dst) ⟨dst, i1⟩), fs.F, fs.O⟩ : FS).N.length ≤ 1000000) := keep (by show (putName (rmName (rmName fs.N name) dst) ⟨dst, i1⟩).length ≤ 1000000; rw [putName_len]; have := rmName_len fs.N name; have := rmName_len (rmName fs.N name) dst; omega)
        have HLF : Hid ((⟨(putName (rmName (rmName fs.N name) dst) ⟨dst, i1⟩), fs.F, fs.O⟩ : FS).F.length ≤ 1000000) := keep (by show fs.F.length ≤ 1000000; omega)
        have HLO : Hid ((⟨(putName (rmName (rmName fs.N name) dst) ⟨dst, i1⟩), fs.F, fs.O⟩ : FS).O.length ≤ 1000000) := keep (by show fs.O.length ≤ 1000000; omega)
        obtain ⟨B4, b4, rfl, _⟩ := own_sl hSx.n
        clear hall hout hx0 y2 y3 y7 HK hbx hSx hW
        have HSW := keep (refSweep_any _ _ _ (⟨(putName (rmName (rmName fs.N name) dst) ⟨dst, i1⟩), fs.F, fs.O⟩ : FS) wd HSx.out.t HLF.out HLN.out HLO.out)
        obtain ⟨f0, f1, f2⟩ := HFx.out.cell3
        go_wp2_with fail
        refine HSW.out.mono ?_
        rintro e wz ⟨vFz, rfl, hoF, hbz⟩
        obtain ⟨G2, g2, rfl, _⟩ := own_sl hoF
        have hZz := HZx.out.below hbz HZx.out.lt
        have hgz := grown_three wz (w.heap.size + 1 + 1) (.slice B4 (putName (rmName (rmName fs.N name) dst) ⟨dst, i1⟩).length b4) (.slice G2 ((⟨(putName (rmName (rmName fs.N name) dst) ⟨dst, i1⟩), fs.F, fs.O⟩ : FS).F.filter (stays (⟨(putName (rmName (rmName fs.N name) dst) ⟨dst, i1⟩), fs.F, fs.O⟩ : FS))).length g2) (.slice B3 fs.O.length b3)
        have hSz := HSx.out.up hbz
        have hTz : FsT wz (.slice B4 (putName (rmName (rmName fs.N name) dst) ⟨dst, i1⟩).length b4) (.slice G2 ((⟨(putName (rmName (rmName fs.N name) dst) ⟨dst, i1⟩), fs.F, fs.O⟩ : FS).F.filter (stays (⟨(putName (rmName (rmName fs.N name) dst) ⟨dst, i1⟩), fs.F, fs.O⟩ : FS))).length g2) (.slice B3 fs.O.length b3) (purged (⟨(putName (rmName (rmName fs.N name) dst) ⟨dst, i1⟩), fs.F, fs.O⟩ : FS)) := by
          have hp : purged (⟨(putName (rmName (rmName fs.N name) dst) ⟨dst, i1⟩), fs.F, fs.O⟩ : FS) = ⟨(⟨(putName (rmName (rmName fs.N name) dst) ⟨dst, i1⟩), fs.F, fs.O⟩ : FS).N, (⟨(putName (rmName (rmName fs.N name) dst) ⟨dst, i1⟩), fs.F, fs.O⟩ : FS).F.filter (stays (⟨(putName (rmName (rmName fs.N name) dst) ⟨dst, i1⟩), fs.F, fs.O⟩ : FS)), (⟨(putName (rmName (rmName fs.N name) dst) ⟨dst, i1⟩), fs.F, fs.O⟩ : FS).O⟩ := by unfold purged; rw [stays_goes]
          rw [hp]
          exact ⟨own_ty hSz.n, own_ty hoF, own_ty hSz.o, fun t ht => hSz.d t (List.mem_filter.1 ht).1⟩
        have HTz := keep (hTz.grown hZz hgz (by decide) (by decide) (by decide) (by decide))
        have HZz := keep (hZz.three (.slice B4 (putName (rmName (rmName fs.N name) dst) ⟨dst, i1⟩).length b4) (.slice G2 ((⟨(putName (rmName (rmName fs.N name) dst) ⟨dst, i1⟩), fs.F, fs.O⟩ : FS).F.filter (stays (⟨(putName (rmName (rmName fs.N name) dst) ⟨dst, i1⟩), fs.F, fs.O⟩ : FS))).length g2) (.slice B3 fs.O.length b3))
        have HBz := keep (below_three (bchain HBx.out hbz) (show w.heap.size ≤ w.heap.size + 1 + 1 by omega) (.slice B4 (putName (rmName (rmName fs.N name) dst) ⟨dst, i1⟩).length b4) (.slice G2 ((⟨(putName (rmName (rmName fs.N name) dst) ⟨dst, i1⟩), fs.F, fs.O⟩ : FS).F.filter (stays (⟨(putName (rmName (rmName fs.N name) dst) ⟨dst, i1⟩), fs.F, fs.O⟩ : FS))).length g2) (.slice B3 fs.O.length b3))
        obtain ⟨z0, z1, z2⟩ := hZz.cell3
        obtain ⟨y0, y1, y2⟩ := hZz.froz3
        clear hbz hoF hZz hgz hSz hTz f0 f1 f2
        go_wp2_with fail
        have hdo := doSt_p HI.out (show DoSt fs ⟨4, name, dst, .slice A data.length cc, data, n⟩ 0 (purged (⟨(putName (rmName (rmName fs.N name) dst) ⟨dst, i1⟩), fs.F, fs.O⟩ : FS)) from .inr ⟨⟨by show (1:Int) ≤ 4; decide, by show (4:Int) ≤ 8; decide⟩, .inr ⟨badNm_no HBAD.out, .inr ⟨rfl, (⟨(putName (rmName (rmName fs.N name) dst) ⟨dst, i1⟩), fs.F, fs.O⟩ : FS), HMET.out, rfl⟩⟩⟩)
        refine bodyPost_ret (results_cell_row_tmp rfl _ _ (w.heap.size + 1 + 1) _ _ _ _ rfl HZz.out Try.underlying40 rfl (by kernel_rfl)) rfl ?_
        exact ⟨purged (⟨(putName (rmName (rmName fs.N name) dst) ⟨dst, i1⟩), fs.F, fs.O⟩ : FS), _, _, _, by rw [HE0.out]; rfl, HTz.out, congrArg Prod.snd hdo.1, hdo.2.1, hdo.2.2, HBz.out⟩
    · have hq := step_f ⟨by decide, by decide⟩ HST.out
      obtain ⟨i, kf, hii, hkf, hnm, hino, hlk, hfl⟩ := has_places HI.out hq
      have hi1 : i1 = fs.F[kf].ino := by rw [← HI1.out, hlk]; rfl
      have h5 := step_5 hfl HST.out
      have hr : r = (kf : Int) := at_place HI.out hkf (hi1 ▸ HR.out)
      subst hr
      obtain ⟨b, o, rfl, _, n0, n1, n2, n3, n4⟩ := fi_cells HS6.out.t.f hkf
      have hfd6 := HS6.out.d _ (List.getElem_mem hkf)
      obtain ⟨D, hD⟩ : ∃ D, fs.F[kf].data = D := ⟨_, rfl⟩
      obtain ⟨FA, FC, hfd⟩ := hfd6.form
      have hDl : D.length ≤ 1000000 := by rw [← hD]; exact hfd6.2
      have hsl6 := hfd6.1
      rw [hfd] at n1 hsl6
      rw [hD] at n1 hsl6
      have HSL := keep (show FiR w6 ⟨0, .slice FA D.length FC, D, false, false, 0⟩ from ⟨hsl6, hDl⟩)
      have HN1 : Hid (∀ wx, Below w6.heap.size w6 wx → wx.cell? ⟨b, o + kf * 5 + 1, none⟩ = some (.slice FA D.length FC)) := keep (fun wx hx => (hx.cell (p := ⟨b, o + kf * 5 + 1, none⟩) (by have := World.block_lt_of_cell? w6 _ n1; simpa using this)).trans n1)
      have HNO := keep (hasN_no h5.2.1)
      have HPL : Hid (∃ (i kf : Nat) (hii : i < fs.N.length) (hkf : kf < fs.F.length), fs.N[i].nm = name ∧ fs.F[kf].ino = fs.N[i].ino ∧ fs.F[kf].data = D ∧ (fs.F[kf].cp = false ∨ fs.F[kf].wh = true)) := keep ⟨i, kf, hii, hkf, hnm, hino, hD, h5.1⟩
      have HLT := keep h5.2.2
      have hki0 : (0 : Int) ≤ (kf : Int) := by omega
      have hki1 : (kf : Int) < (fs.F.length : Int) := by omega
      have hh := trivial
      clear hq hlk hfl h5 n0 n1 n2 n3 n4 hfd6 hfd hsl6 hD hnm hino
      obtain ⟨k, hg, hfr, hkl⟩ := gap_of HI.out
      have hfree := refFree_any _ _ _ fs w6 HS6.out.t HI.out (by omega)
      rw [hfr] at hfree
      have HFR := keep hfree
      have HG := keep hg
      have HKL := keep hkl
      have HMN := keep (show fs.N.length ≤ 1000000 by omega)
      have HBL6 : Hid (B ≤ w6.heap.size) := keep HGB.out.2
      have hmF : fs.F.length ≤ 1000000 := by omega
      clear hh hfr hfree hg hkl
      go_wp2_with fail
      refine HFR.out.mono ?_
      rintro e w7 ⟨rfl, hb7⟩
      have HS7 := keep (HS6.out.up hb7)
      have HF7 := keep (HF6.out.below hb7 HF6.out.lt)
      have HX7 := keep (HX6.out.below hb7 HX6.out.lt)
      have HZ7 := keep (HZ6.out.below hb7 HZ6.out.lt)
      have HB7 := keep (bchain HB6.out hb7)
      have HBL7 : Hid (B ≤ w7.heap.size) := keep (Nat.le_trans HBL6.out hb7.size)
      have hsrc := (HSL.out.up hb7).1
      have n1 := HN1.out _ hb7
      clear hb7 f0 f1 f2 x0 x1 x2 x3 x4 HFR HS6 HF6 HX6 HZ6 HB6 HD6
      obtain ⟨f0, f1, f2⟩ := HF7.out.cell3
      go_upto_region 22 with (refine wpList_appendS elBy rfl _ _ rfl w7.heap.size (.slice none 0 0) 0 [] rfl (World.ownsRow_nil _ _ _ _) _ _ D.length (bys D) rfl hsrc (bys_one _) (by unfold maxLen; omega) (by omega) (Nat.le_refl _) ?_; intro vd w8 hd8 hb8 hg8)
      rw [Nat.zero_add, List.nil_append] at hd8
      have hd9 := own_u8 hd8
      obtain ⟨CA, CC, rfl, _⟩ := own_sl hd8
      have HD8 : Hid (FiR w8 ⟨(k : Int) + 1, .slice CA D.length CC, D, true, false, (D.length : Int)⟩) := keep ⟨hd9, hDl⟩
      have HS8 := keep (HS7.out.up hb8)
      have HF8 := keep (HF7.out.below hb8 HF7.out.lt)
      have HX8 := keep (HX7.out.below hb8 HX7.out.lt)
      have HZ8 := keep (HZ7.out.below hb8 HZ7.out.lt)
      have HB8 := keep (bchain HB7.out hb8)
      have HBL8 : Hid (B ≤ w8.heap.size) := keep (Nat.le_trans HBL7.out hb8.size)
      have HADD : Hid (∀ wa, B ≤ wa.heap.size → FsO wa B (.slice B1 fs.N.length b1) (.slice (some ⟨b, o, none⟩) fs.F.length b2) (.slice B3 fs.O.length b3) fs → FiR wa ⟨(k : Int) + 1, .slice CA D.length CC, D, true, false, (D.length : Int)⟩ → Calls Try.prog 36 #[.agg #[(.slice B1 fs.N.length b1), (.slice (some ⟨b, o, none⟩) fs.F.length b2), (.slice B3 fs.O.length b3)], .agg #[.int .i64 ((k : Int) + 1), .slice CA D.length CC, .bool true, .bool false, .int .i64 (D.length : Int)]] wa (RefAdd fs ⟨(k : Int) + 1, .slice CA D.length CC, D, true, false, (D.length : Int)⟩ B (.slice B1 fs.N.length b1) (.slice B3 fs.O.length b3) wa)) := keep (fun wa h1 h2 h3 => refAdd_any _ _ _ fs ⟨(k : Int) + 1, .slice CA D.length CC, D, true, false, (D.length : Int)⟩ B wa h1 h2 h3 hmF)
      clear hd8 hd9 hb8 hg8 hsrc n1 f0 f1 f2 HS7 HF7 HX7 HZ7 HB7 hmF
      refine reg_start 147 fr147 (fun _ => rfl) _ rfl fun x0 hx0 => ?_
      have y2 : x0 2 = .pointer (some ⟨w.heap.size, 0, none⟩) := hx0 2
      have y3 : x0 3 = .pointer (some ⟨w.heap.size + 1, 0, none⟩) := hx0 3
      have y12 : x0 12 = .int .i64 ((k : Int) + 1) := hx0 12
      have y13 : x0 13 = .slice CA D.length CC := hx0 13
      refine wp_regV (by kernel_rfl) 147 (fun i =>  i) (by kernel_rfl) fr147 (fun _ => rfl) x0 (DoWk w B #[.int .i64 5, .string name, .string dst, .slice A data.length cc, .int .i64 n]) (DoMn w B (some 6) 11) (fun i v u wa => match i with
          | 0 => v = .agg #[(.slice B1 fs.N.length b1), (.slice (some ⟨b, o, none⟩) fs.F.length b2), (.slice B3 fs.O.length b3)]
          | 1 => v = .int .i64 ((k : Int) + 1)
          | 2 => v = .slice CA D.length CC
          | 3 => v = .slice CA D.length CC
          | 4 => v = .int .i64 (D.length : Int)
          | 5 => v = .agg #[.int .i64 ((k : Int) + 1), .slice CA D.length CC, .bool true, .bool false, .int .i64 (D.length : Int)]
          | 6 => ∃ vF' : Value, v = .agg #[(.slice B1 fs.N.length b1), vF', (.slice B3 fs.O.length b3)] ∧ FsO wa B (.slice B1 fs.N.length b1) vF' (.slice B3 fs.O.length b3) ⟨fs.N, (putFile fs.F k ⟨(k : Int) + 1, .slice CA D.length CC, D, true, false, (D.length : Int)⟩), fs.O⟩
          | 7 => v = .pointer (some ⟨w.heap.size + 1, 2, none⟩)
          | 8 => v = .string dst
          | 9 => v = .int .i64 ((k : Int) + 1)
          | 10 => ∃ vN' vF' : Value, v = .agg #[vN', vF', (.slice B3 fs.O.length b3)] ∧ FsO wa B vN' vF' (.slice B3 fs.O.length b3) (⟨(putName (rmName fs.N dst) ⟨dst, (k : Int) + 1⟩), (putFile fs.F k ⟨(k : Int) + 1, .slice CA D.length CC, D, true, false, (D.length : Int)⟩), fs.O⟩ : FS)
          | 11 => ∃ vN' vF' : Value, Blk wa w.heap.size 40 #[vN', vF', (.slice B3 fs.O.length b3)] ∧ FsO wa B vN' vF' (.slice B3 fs.O.length b3) (⟨(putName (rmName fs.N dst) ⟨dst, (k : Int) + 1⟩), (putFile fs.F k ⟨(k : Int) + 1, .slice CA D.length CC, D, true, false, (D.length : Int)⟩), fs.O⟩ : FS)
          | _ => True) (fun m wa => if m = 6 then FsO wa B (.slice B1 fs.N.length b1) (.slice (some ⟨b, o, none⟩) fs.F.length b2) (.slice B3 fs.O.length b3) fs ∧ FiR wa ⟨(k : Int) + 1, .slice CA D.length CC, D, true, false, (D.length : Int)⟩ else if m = 11 then Blk wa w.heap.size 40 #[(.slice B1 fs.N.length b1), (.slice (some ⟨b, o, none⟩) fs.F.length b2), (.slice B3 fs.O.length b3)] else True) (fun m => by
          by_cases h1 : m = 6
          · rw [if_pos h1]; exact ⟨HS8.out.up (below_drewN (Below.refl _ w8) 1), HD8.out.up (below_drewN (Below.refl _ w8) 1)⟩
          · rw [if_neg h1]
            split
            · exact HF8.out
            · trivial) (fun i m wa wb hne hmn h => by
          by_cases h1 : m = 6
          · rw [if_pos h1] at h ⊢
            exact ⟨DoMn.fso hmn (fun e => by injection e with e; exact hne (e.trans h1.symm)) h.1, DoMn.fir hmn (fun e => by injection e with e; exact hne (e.trans h1.symm)) h.2⟩
          · rw [if_neg h1] at h ⊢
            by_cases h2 : m = 11
            · rw [if_pos h2] at h ⊢
              exact DoMn.blk hmn (fun e => hne (e.trans h2.symm)) (by have := HGB.out; omega) h
            · rw [if_neg h2]; trivial) (by
            intro i j v u wa wb hbf hmn hp
            match j, hp with
            | 0, hp => exact hp
            | 1, hp => exact hp
            | 2, hp => exact hp
            | 3, hp => exact hp
            | 4, hp => exact hp
            | 5, hp => exact hp
            | 6, hp => obtain ⟨vF', h1, h2⟩ := hp; exact ⟨vF', h1, DoMn.fso hmn (fun e => by injection e with e; subst e; exact Bool.false_ne_true (hbf.symm.trans (by kernel_rfl))) h2⟩
            | 7, hp => exact hp
            | 8, hp => exact hp
            | 9, hp => exact hp
            | 10, hp => obtain ⟨vN', vF', h1, h2⟩ := hp; exact ⟨vN', vF', h1, DoMn.fso hmn (fun e => by injection e with e; subst e; exact Bool.false_ne_true (hbf.symm.trans (by kernel_rfl))) h2⟩
            | 11, hp => obtain ⟨vN', vF', h1, h2⟩ := hp; exact ⟨vN', vF', DoMn.blk hmn (fun e => by subst e; exact Bool.false_ne_true (hbf.symm.trans (by kernel_rfl))) (by have := HGB.out; omega) h1, DoMn.fso hmn (fun e => by injection e with e; subst e; exact Bool.false_ne_true (hbf.symm.trans (by kernel_rfl))) h2⟩
            | _ + 12, hp => trivial) (⟨HB8.out.drew, HBL8.out, HX8.out, HZ8.out, _, _, _, HF8.out⟩) ?step ?skip ?done
      case step =>
        intro i o ho x wa K hW hbef hout hdep hgd hK
        have E2 : Hid (x 2 = .pointer (some ⟨w.heap.size, 0, none⟩)) := keep ((hout 2 (by decide)).trans y2)
        have E3 : Hid (x 3 = .pointer (some ⟨w.heap.size + 1, 0, none⟩)) := keep ((hout 3 (by decide)).trans y3)
        have E12 : Hid (x 12 = .int .i64 ((k : Int) + 1)) := keep ((hout 12 (by decide)).trans y12)
        have E13 : Hid (x 13 = .slice CA D.length CC) := keep ((hout 13 (by decide)).trans y13)
        clear hout hx0 y2 y3 y12 y13
        have hi : i < 12 := (Array.getElem?_eq_some_iff.1 ho).1
        have hcase : i = 0 ∨ i = 1 ∨ i = 2 ∨ i = 3 ∨ i = 4 ∨ i = 5 ∨ i = 6 ∨ i = 7 ∨ i = 8 ∨ i = 9 ∨ i = 10 ∨ i = 11 := by omega
        clear hi
        rcases hcase with rfl | rfl | rfl | rfl | rfl | rfl | rfl | rfl | rfl | rfl | rfl | rfl
        · -- operation 0
          simp only [List.getElem?_toArray, List.getElem?_cons_zero, Option.some.injEq] at ho
          subst ho
          have e11 : Blk wa w.heap.size 40 #[(.slice B1 fs.N.length b1), (.slice (some ⟨b, o, none⟩) fs.F.length b2), (.slice B3 fs.O.length b3)] := hbef 11 (by decide) (by kernel_rfl)
          clear hdep hgd hbef
          obtain ⟨f0, f1, f2⟩ := e11.cell3
          unfold fr147
          rw [E2.out]
          go_simp
          have hk : K { tmps := #[x 0, x 1, x 2, x 3, x 4, x 5, x 6, x 7, x 8, x 9, x 10, x 11, x 12, x 13, x 14, x 15, x 16, x 17, x 18, x 19, x 20, x 21, x 22, x 23, x 24, x 25, x 26, x 27, x 28, x 29, x 30, x 31, x 32, x 33, x 34, x 35, x 36, x 37, x 38, x 39, x 40, x 41, x 42, x 43, x 44, x 45, x 46, x 47, x 48, x 49, x 50, x 51, x 52, x 53, x 54, x 55, x 56, x 57, x 58, x 59, x 60, x 61, x 62, x 63, x 64, x 65, x 66, x 67, x 68, x 69, x 70, x 71, x 72, x 73, x 74, x 75, x 76, x 77, x 78, x 79, x 80, x 81, x 82, x 83, x 84, x 85, x 86, x 87, x 88, x 89, x 90, x 91, x 92, x 93, x 94, x 95, .agg #[(.slice B1 fs.N.length b1), (.slice (some ⟨b, o, none⟩) fs.F.length b2), (.slice B3 fs.O.length b3)], x 97, x 98, x 99, x 100, x 101, x 102, x 103, x 104, x 105, x 106, x 107, x 108, x 109, x 110, x 111, x 112, x 113, x 114, x 115, x 116, x 117, x 118, x 119, x 120, x 121, x 122, x 123, x 124, x 125, x 126, x 127, x 128, x 129, x 130, x 131, x 132, x 133, x 134, x 135, x 136, x 137, x 138, x 139, x 140, x 141, x 142, x 143, x 144, x 145, x 146], defers := [] } wa := hK _ _ hW (DoMn.pure (by decide) (by decide)) rfl
          rw [E2.out] at hk
          exact hk
        · -- operation 1
          simp only [List.getElem?_toArray, List.getElem?_cons_succ, List.getElem?_cons_zero, Option.some.injEq] at ho
          subst ho
          clear hdep hgd hbef
          unfold fr147
          rw [E12.out]
          go_simp
          have hk : K { tmps := #[x 0, x 1, x 2, x 3, x 4, x 5, x 6, x 7, x 8, x 9, x 10, x 11, x 12, x 13, x 14, x 15, x 16, x 17, x 18, x 19, x 20, x 21, x 22, x 23, x 24, x 25, x 26, x 27, x 28, x 29, x 30, x 31, x 32, x 33, x 34, x 35, x 36, x 37, x 38, x 39, x 40, x 41, x 42, x 43, x 44, x 45, x 46, x 47, x 48, x 49, x 50, x 51, x 52, x 53, x 54, x 55, x 56, x 57, x 58, x 59, x 60, x 61, x 62, x 63, x 64, x 65, x 66, x 67, x 68, x 69, x 70, x 71, x 72, x 73, x 74, x 75, x 76, x 77, x 78, x 79, x 80, x 81, x 82, x 83, x 84, x 85, x 86, x 87, x 88, x 89, x 90, x 91, x 92, x 93, x 94, x 95, x 96, .int .i64 ((k : Int) + 1), x 98, x 99, x 100, x 101, x 102, x 103, x 104, x 105, x 106, x 107, x 108, x 109, x 110, x 111, x 112, x 113, x 114, x 115, x 116, x 117, x 118, x 119, x 120, x 121, x 122, x 123, x 124, x 125, x 126, x 127, x 128, x 129, x 130, x 131, x 132, x 133, x 134, x 135, x 136, x 137, x 138, x 139, x 140, x 141, x 142, x 143, x 144, x 145, x 146], defers := [] } wa := hK _ _ hW (DoMn.pure (by decide) (by decide)) rfl
          rw [E12.out] at hk
          exact hk
        · -- operation 2
          simp only [List.getElem?_toArray, List.getElem?_cons_succ, List.getElem?_cons_zero, Option.some.injEq] at ho
          subst ho
          clear hdep hgd hbef
          unfold fr147
          rw [E13.out]
          go_simp
          have hk : K { tmps := #[x 0, x 1, x 2, x 3, x 4, x 5, x 6, x 7, x 8, x 9, x 10, x 11, x 12, x 13, x 14, x 15, x 16, x 17, x 18, x 19, x 20, x 21, x 22, x 23, x 24, x 25, x 26, x 27, x 28, x 29, x 30, x 31, x 32, x 33, x 34, x 35, x 36, x 37, x 38, x 39, x 40, x 41, x 42, x 43, x 44, x 45, x 46, x 47, x 48, x 49, x 50, x 51, x 52, x 53, x 54, x 55, x 56, x 57, x 58, x 59, x 60, x 61, x 62, x 63, x 64, x 65, x 66, x 67, x 68, x 69, x 70, x 71, x 72, x 73, x 74, x 75, x 76, x 77, x 78, x 79, x 80, x 81, x 82, x 83, x 84, x 85, x 86, x 87, x 88, x 89, x 90, x 91, x 92, x 93, x 94, x 95, x 96, x 97, .slice CA D.length CC, x 99, x 100, x 101, x 102, x 103, x 104, x 105, x 106, x 107, x 108, x 109, x 110, x 111, x 112, x 113, x 114, x 115, x 116, x 117, x 118, x 119, x 120, x 121, x 122, x 123, x 124, x 125, x 126, x 127, x 128, x 129, x 130, x 131, x 132, x 133, x 134, x 135, x 136, x 137, x 138, x 139, x 140, x 141, x 142, x 143, x 144, x 145, x 146], defers := [] } wa := hK _ _ hW (DoMn.pure (by decide) (by decide)) rfl
          rw [E13.out] at hk
          exact hk
        · -- operation 3
          simp only [List.getElem?_toArray, List.getElem?_cons_succ, List.getElem?_cons_zero, Option.some.injEq] at ho
          subst ho
          clear hdep hgd hbef
          unfold fr147
          rw [E13.out]
          go_simp
          have hk : K { tmps := #[x 0, x 1, x 2, x 3, x 4, x 5, x 6, x 7, x 8, x 9, x 10, x 11, x 12, x 13, x 14, x 15, x 16, x 17, x 18, x 19, x 20, x 21, x 22, x 23, x 24, x 25, x 26, x 27, x 28, x 29, x 30, x 31, x 32, x 33, x 34, x 35, x 36, x 37, x 38, x 39, x 40, x 41, x 42, x 43, x 44, x 45, x 46, x 47, x 48, x 49, x 50, x 51, x 52, x 53, x 54, x 55, x 56, x 57, x 58, x 59, x 60, x 61, x 62, x 63, x 64, x 65, x 66, x 67, x 68, x 69, x 70, x 71, x 72, x 73, x 74, x 75, x 76, x 77, x 78, x 79, x 80, x 81, x 82, x 83, x 84, x 85, x 86, x 87, x 88, x 89, x 90, x 91, x 92, x 93, x 94, x 95, x 96, x 97, x 98, .slice CA D.length CC, x 100, x 101, x 102, x 103, x 104, x 105, x 106, x 107, x 108, x 109, x 110, x 111, x 112, x 113, x 114, x 115, x 116, x 117, x 118, x 119, x 120, x 121, x 122, x 123, x 124, x 125, x 126, x 127, x 128, x 129, x 130, x 131, x 132, x 133, x 134, x 135, x 136, x 137, x 138, x 139, x 140, x 141, x 142, x 143, x 144, x 145, x 146], defers := [] } wa := hK _ _ hW (DoMn.pure (by decide) (by decide)) rfl
          rw [E13.out] at hk
          exact hk
        · -- operation 4
          simp only [List.getElem?_toArray, List.getElem?_cons_succ, List.getElem?_cons_zero, Option.some.injEq] at ho
          subst ho
          have p3 : (x 99) = .slice CA D.length CC := hdep 3 (List.mem_of_elem_eq_true (by kernel_rfl))
          clear hdep hgd hbef
          unfold fr147
          rw [p3]
          go_simp
          have hk : K { tmps := #[x 0, x 1, x 2, x 3, x 4, x 5, x 6, x 7, x 8, x 9, x 10, x 11, x 12, x 13, x 14, x 15, x 16, x 17, x 18, x 19, x 20, x 21, x 22, x 23, x 24, x 25, x 26, x 27, x 28, x 29, x 30, x 31, x 32, x 33, x 34, x 35, x 36, x 37, x 38, x 39, x 40, x 41, x 42, x 43, x 44, x 45, x 46, x 47, x 48, x 49, x 50, x 51, x 52, x 53, x 54, x 55, x 56, x 57, x 58, x 59, x 60, x 61, x 62, x 63, x 64, x 65, x 66, x 67, x 68, x 69, x 70, x 71, x 72, x 73, x 74, x 75, x 76, x 77, x 78, x 79, x 80, x 81, x 82, x 83, x 84, x 85, x 86, x 87, x 88, x 89, x 90, x 91, x 92, x 93, x 94, x 95, x 96, x 97, x 98, x 99, .int .i64 (D.length : Int), x 101, x 102, x 103, x 104, x 105, x 106, x 107, x 108, x 109, x 110, x 111, x 112, x 113, x 114, x 115, x 116, x 117, x 118, x 119, x 120, x 121, x 122, x 123, x 124, x 125, x 126, x 127, x 128, x 129, x 130, x 131, x 132, x 133, x 134, x 135, x 136, x 137, x 138, x 139, x 140, x 141, x 142, x 143, x 144, x 145, x 146], defers := [] } wa := hK _ _ hW (DoMn.pure (by decide) (by decide)) rfl
          rw [p3] at hk
          exact hk
        · -- operation 5
          simp only [List.getElem?_toArray, List.getElem?_cons_succ, List.getElem?_cons_zero, Option.some.injEq] at ho
          subst ho
          have p1 : (x 97) = .int .i64 ((k : Int) + 1) := hdep 1 (List.mem_of_elem_eq_true (by kernel_rfl))
          have p2 : (x 98) = .slice CA D.length CC := hdep 2 (List.mem_of_elem_eq_true (by kernel_rfl))
          have p4 : (x 100) = .int .i64 (D.length : Int) := hdep 4 (List.mem_of_elem_eq_true (by kernel_rfl))
          clear hdep hgd hbef
          unfold fr147
          rw [p1, p2, p4]
          go_simp
          have hk : K { tmps := #[x 0, x 1, x 2, x 3, x 4, x 5, x 6, x 7, x 8, x 9, x 10, x 11, x 12, x 13, x 14, x 15, x 16, x 17, x 18, x 19, x 20, x 21, x 22, x 23, x 24, x 25, x 26, x 27, x 28, x 29, x 30, x 31, x 32, x 33, x 34, x 35, x 36, x 37, x 38, x 39, x 40, x 41, x 42, x 43, x 44, x 45, x 46, x 47, x 48, x 49, x 50, x 51, x 52, x 53, x 54, x 55, x 56, x 57, x 58, x 59, x 60, x 61, x 62, x 63, x 64, x 65, x 66, x 67, x 68, x 69, x 70, x 71, x 72, x 73, x 74, x 75, x 76, x 77, x 78, x 79, x 80, x 81, x 82, x 83, x 84, x 85, x 86, x 87, x 88, x 89, x 90, x 91, x 92, x 93, x 94, x 95, x 96, x 97, x 98, x 99, x 100, .agg #[.int .i64 ((k : Int) + 1), .slice CA D.length CC, .bool true, .bool false, .int .i64 (D.length : Int)], x 102, x 103, x 104, x 105, x 106, x 107, x 108, x 109, x 110, x 111, x 112, x 113, x 114, x 115, x 116, x 117, x 118, x 119, x 120, x 121, x 122, x 123, x 124, x 125, x 126, x 127, x 128, x 129, x 130, x 131, x 132, x 133, x 134, x 135, x 136, x 137, x 138, x 139, x 140, x 141, x 142, x 143, x 144, x 145, x 146], defers := [] } wa := hK _ _ hW (DoMn.pure (by decide) (by decide)) rfl
          rw [p1, p2, p4] at hk
          exact hk
        · -- operation 6
          simp only [List.getElem?_toArray, List.getElem?_cons_succ, List.getElem?_cons_zero, Option.some.injEq] at ho
          subst ho
          have p0 : (x 96) = .agg #[(.slice B1 fs.N.length b1), (.slice (some ⟨b, o, none⟩) fs.F.length b2), (.slice B3 fs.O.length b3)] := hdep 0 (List.mem_of_elem_eq_true (by kernel_rfl))
          have p5 : (x 101) = .agg #[.int .i64 ((k : Int) + 1), .slice CA D.length CC, .bool true, .bool false, .int .i64 (D.length : Int)] := hdep 5 (List.mem_of_elem_eq_true (by kernel_rfl))
          have e6 : FsO wa B (.slice B1 fs.N.length b1) (.slice (some ⟨b, o, none⟩) fs.F.length b2) (.slice B3 fs.O.length b3) fs ∧ FiR wa ⟨(k : Int) + 1, .slice CA D.length CC, D, true, false, (D.length : Int)⟩ := hbef 6 (by decide) (by kernel_rfl)
          clear hdep hgd hbef
          unfold fr147
          rw [p0, p5]
          go_simp
          refine (HADD.out wa hW.2.1 e6.1 e6.2).mono ?_
          rintro e w8 ⟨p, vF', hins, rfl, ho8, hb8⟩
          rw [insAt_gap HI.out HG.out HKL.out rfl hins] at ho8
          have hk : K { tmps := #[x 0, x 1, x 2, x 3, x 4, x 5, x 6, x 7, x 8, x 9, x 10, x 11, x 12, x 13, x 14, x 15, x 16, x 17, x 18, x 19, x 20, x 21, x 22, x 23, x 24, x 25, x 26, x 27, x 28, x 29, x 30, x 31, x 32, x 33, x 34, x 35, x 36, x 37, x 38, x 39, x 40, x 41, x 42, x 43, x 44, x 45, x 46, x 47, x 48, x 49, x 50, x 51, x 52, x 53, x 54, x 55, x 56, x 57, x 58, x 59, x 60, x 61, x 62, x 63, x 64, x 65, x 66, x 67, x 68, x 69, x 70, x 71, x 72, x 73, x 74, x 75, x 76, x 77, x 78, x 79, x 80, x 81, x 82, x 83, x 84, x 85, x 86, x 87, x 88, x 89, x 90, x 91, x 92, x 93, x 94, x 95, x 96, x 97, x 98, x 99, x 100, x 101, .agg #[(.slice B1 fs.N.length b1), vF', (.slice B3 fs.O.length b3)], x 103, x 104, x 105, x 106, x 107, x 108, x 109, x 110, x 111, x 112, x 113, x 114, x 115, x 116, x 117, x 118, x 119, x 120, x 121, x 122, x 123, x 124, x 125, x 126, x 127, x 128, x 129, x 130, x 131, x 132, x 133, x 134, x 135, x 136, x 137, x 138, x 139, x 140, x 141, x 142, x 143, x 144, x 145, x 146], defers := [] } w8 := hK _ _ (hW.low HGB.out.1 hb8) (by unfold DoMn; rw [if_pos rfl]; exact hb8) ⟨vF', rfl, ho8⟩
          rw [p0, p5] at hk
          exact hk
        · -- operation 7
          simp only [List.getElem?_toArray, List.getElem?_cons_succ, List.getElem?_cons_zero, Option.some.injEq] at ho
          subst ho
          clear hdep hgd hbef
          unfold fr147
          rw [E3.out]
          go_simp
          have hk : K { tmps := #[x 0, x 1, x 2, x 3, x 4, x 5, x 6, x 7, x 8, x 9, x 10, x 11, x 12, x 13, x 14, x 15, x 16, x 17, x 18, x 19, x 20, x 21, x 22, x 23, x 24, x 25, x 26, x 27, x 28, x 29, x 30, x 31, x 32, x 33, x 34, x 35, x 36, x 37, x 38, x 39, x 40, x 41, x 42, x 43, x 44, x 45, x 46, x 47, x 48, x 49, x 50, x 51, x 52, x 53, x 54, x 55, x 56, x 57, x 58, x 59, x 60, x 61, x 62, x 63, x 64, x 65, x 66, x 67, x 68, x 69, x 70, x 71, x 72, x 73, x 74, x 75, x 76, x 77, x 78, x 79, x 80, x 81, x 82, x 83, x 84, x 85, x 86, x 87, x 88, x 89, x 90, x 91, x 92, x 93, x 94, x 95, x 96, x 97, x 98, x 99, x 100, x 101, x 102, .pointer (some ⟨w.heap.size + 1, 2, none⟩), x 104, x 105, x 106, x 107, x 108, x 109, x 110, x 111, x 112, x 113, x 114, x 115, x 116, x 117, x 118, x 119, x 120, x 121, x 122, x 123, x 124, x 125, x 126, x 127, x 128, x 129, x 130, x 131, x 132, x 133, x 134, x 135, x 136, x 137, x 138, x 139, x 140, x 141, x 142, x 143, x 144, x 145, x 146], defers := [] } wa := hK _ _ hW (DoMn.pure (by decide) (by decide)) rfl
          rw [E3.out] at hk
          exact hk
        · -- operation 8
          simp only [List.getElem?_toArray, List.getElem?_cons_succ, List.getElem?_cons_zero, Option.some.injEq] at ho
          subst ho
          have p7 : (x 103) = .pointer (some ⟨w.heap.size + 1, 2, none⟩) := hdep 7 (List.mem_of_elem_eq_true (by kernel_rfl))
          clear hdep hgd hbef
          obtain ⟨x0, x1, x2, x3, x4⟩ := hW.2.2.1.cell5
          unfold fr147
          rw [p7]
          go_simp
          have hk : K { tmps := #[x 0, x 1, x 2, x 3, x 4, x 5, x 6, x 7, x 8, x 9, x 10, x 11, x 12, x 13, x 14, x 15, x 16, x 17, x 18, x 19, x 20, x 21, x 22, x 23, x 24, x 25, x 26, x 27, x 28, x 29, x 30, x 31, x 32, x 33, x 34, x 35, x 36, x 37, x 38, x 39, x 40, x 41, x 42, x 43, x 44, x 45, x 46, x 47, x 48, x 49, x 50, x 51, x 52, x 53, x 54, x 55, x 56, x 57, x 58, x 59, x 60, x 61, x 62, x 63, x 64, x 65, x 66, x 67, x 68, x 69, x 70, x 71, x 72, x 73, x 74, x 75, x 76, x 77, x 78, x 79, x 80, x 81, x 82, x 83, x 84, x 85, x 86, x 87, x 88, x 89, x 90, x 91, x 92, x 93, x 94, x 95, x 96, x 97, x 98, x 99, x 100, x 101, x 102, x 103, .string dst, x 105, x 106, x 107, x 108, x 109, x 110, x 111, x 112, x 113, x 114, x 115, x 116, x 117, x 118, x 119, x 120, x 121, x 122, x 123, x 124, x 125, x 126, x 127, x 128, x 129, x 130, x 131, x 132, x 133, x 134, x 135, x 136, x 137, x 138, x 139, x 140, x 141, x 142, x 143, x 144, x 145, x 146], defers := [] } wa := hK _ _ hW (DoMn.pure (by decide) (by decide)) rfl
          rw [p7] at hk
          exact hk
        · -- operation 9
          simp only [List.getElem?_toArray, List.getElem?_cons_succ, List.getElem?_cons_zero, Option.some.injEq] at ho
          subst ho
          clear hdep hgd hbef
          unfold fr147
          rw [E12.out]
          go_simp
          have hk : K { tmps := #[x 0, x 1, x 2, x 3, x 4, x 5, x 6, x 7, x 8, x 9, x 10, x 11, x 12, x 13, x 14, x 15, x 16, x 17, x 18, x 19, x 20, x 21, x 22, x 23, x 24, x 25, x 26, x 27, x 28, x 29, x 30, x 31, x 32, x 33, x 34, x 35, x 36, x 37, x 38, x 39, x 40, x 41, x 42, x 43, x 44, x 45, x 46, x 47, x 48, x 49, x 50, x 51, x 52, x 53, x 54, x 55, x 56, x 57, x 58, x 59, x 60, x 61, x 62, x 63, x 64, x 65, x 66, x 67, x 68, x 69, x 70, x 71, x 72, x 73, x 74, x 75, x 76, x 77, x 78, x 79, x 80, x 81, x 82, x 83, x 84, x 85, x 86, x 87, x 88, x 89, x 90, x 91, x 92, x 93, x 94, x 95, x 96, x 97, x 98, x 99, x 100, x 101, x 102, x 103, x 104, .int .i64 ((k : Int) + 1), x 106, x 107, x 108, x 109, x 110, x 111, x 112, x 113, x 114, x 115, x 116, x 117, x 118, x 119, x 120, x 121, x 122, x 123, x 124, x 125, x 126, x 127, x 128, x 129, x 130, x 131, x 132, x 133, x 134, x 135, x 136, x 137, x 138, x 139, x 140, x 141, x 142, x 143, x 144, x 145, x 146], defers := [] } wa := hK _ _ hW (DoMn.pure (by decide) (by decide)) rfl
          rw [E12.out] at hk
          exact hk
        · -- operation 10
          simp only [List.getElem?_toArray, List.getElem?_cons_succ, List.getElem?_cons_zero, Option.some.injEq] at ho
          subst ho
          have p6 : ∃ vF' : Value, (x 102) = .agg #[(.slice B1 fs.N.length b1), vF', (.slice B3 fs.O.length b3)] ∧ FsO wa B (.slice B1 fs.N.length b1) vF' (.slice B3 fs.O.length b3) ⟨fs.N, (putFile fs.F k ⟨(k : Int) + 1, .slice CA D.length CC, D, true, false, (D.length : Int)⟩), fs.O⟩ := hdep 6 (List.mem_of_elem_eq_true (by kernel_rfl))
          have p8 : (x 104) = .string dst := hdep 8 (List.mem_of_elem_eq_true (by kernel_rfl))
          have p9 : (x 105) = .int .i64 ((k : Int) + 1) := hdep 9 (List.mem_of_elem_eq_true (by kernel_rfl))
          clear hdep hgd hbef
          obtain ⟨vF', hv4, hS4⟩ := p6
          unfold fr147
          rw [hv4, p8, p9]
          go_simp
          refine (refLink_any _ _ _ ⟨fs.N, (putFile fs.F k ⟨(k : Int) + 1, .slice CA D.length CC, D, true, false, (D.length : Int)⟩), fs.O⟩ dst ((k : Int) + 1) wa hS4.t HMN.out).mono ?_
          rintro e w8 ⟨p, vN', hins, rfl, ho8, hb8⟩
          rw [insN_put (NSrt.rm HI.out.n dst) (fun q hq => (mem_rm.1 hq).2) hins] at ho8
          have hk : K { tmps := #[x 0, x 1, x 2, x 3, x 4, x 5, x 6, x 7, x 8, x 9, x 10, x 11, x 12, x 13, x 14, x 15, x 16, x 17, x 18, x 19, x 20, x 21, x 22, x 23, x 24, x 25, x 26, x 27, x 28, x 29, x 30, x 31, x 32, x 33, x 34, x 35, x 36, x 37, x 38, x 39, x 40, x 41, x 42, x 43, x 44, x 45, x 46, x 47, x 48, x 49, x 50, x 51, x 52, x 53, x 54, x 55, x 56, x 57, x 58, x 59, x 60, x 61, x 62, x 63, x 64, x 65, x 66, x 67, x 68, x 69, x 70, x 71, x 72, x 73, x 74, x 75, x 76, x 77, x 78, x 79, x 80, x 81, x 82, x 83, x 84, x 85, x 86, x 87, x 88, x 89, x 90, x 91, x 92, x 93, x 94, x 95, x 96, x 97, x 98, x 99, x 100, x 101, x 102, x 103, x 104, x 105, .agg #[vN', vF', (.slice B3 fs.O.length b3)], x 107, x 108, x 109, x 110, x 111, x 112, x 113, x 114, x 115, x 116, x 117, x 118, x 119, x 120, x 121, x 122, x 123, x 124, x 125, x 126, x 127, x 128, x 129, x 130, x 131, x 132, x 133, x 134, x 135, x 136, x 137, x 138, x 139, x 140, x 141, x 142, x 143, x 144, x 145, x 146], defers := [] } w8 := hK _ _ (hW.up HGB.out.1 hb8) (by unfold DoMn; rw [if_neg (by decide), if_neg (by decide)]; exact hb8) ⟨vN', vF', rfl, own_mono ho8 hW.2.1, own_bel hS4.f hb8, own_bel hS4.o hb8, fun t ht => (hS4.d t ht).up hb8⟩
          rw [hv4, p8, p9] at hk
          exact hk
        · -- operation 11
          simp only [List.getElem?_toArray, List.getElem?_cons_succ, List.getElem?_cons_zero, Option.some.injEq] at ho
          subst ho
          have p10 : ∃ vN' vF' : Value, (x 106) = .agg #[vN', vF', (.slice B3 fs.O.length b3)] ∧ FsO wa B vN' vF' (.slice B3 fs.O.length b3) (⟨(putName (rmName fs.N dst) ⟨dst, (k : Int) + 1⟩), (putFile fs.F k ⟨(k : Int) + 1, .slice CA D.length CC, D, true, false, (D.length : Int)⟩), fs.O⟩ : FS) := hdep 10 (List.mem_of_elem_eq_true (by kernel_rfl))
          clear hdep hgd hbef
          obtain ⟨vN', vF', hv8, hS8⟩ := p10
          obtain ⟨B4, b4, rfl, _⟩ := own_sl hS8.n
          obtain ⟨B5, b5, rfl, _⟩ := own_sl hS8.f
          obtain ⟨a0, a1, a2, hb0⟩ := hW.2.2.2.2
          obtain ⟨f0, f1, f2⟩ := hb0.cell3
          obtain ⟨q0, q1, q2⟩ := hb0.froz3
          have hk : K { tmps := #[x 0, x 1, x 2, x 3, x 4, x 5, x 6, x 7, x 8, x 9, x 10, x 11, x 12, x 13, x 14, x 15, x 16, x 17, x 18, x 19, x 20, x 21, x 22, x 23, x 24, x 25, x 26, x 27, x 28, x 29, x 30, x 31, x 32, x 33, x 34, x 35, x 36, x 37, x 38, x 39, x 40, x 41, x 42, x 43, x 44, x 45, x 46, x 47, x 48, x 49, x 50, x 51, x 52, x 53, x 54, x 55, x 56, x 57, x 58, x 59, x 60, x 61, x 62, x 63, x 64, x 65, x 66, x 67, x 68, x 69, x 70, x 71, x 72, x 73, x 74, x 75, x 76, x 77, x 78, x 79, x 80, x 81, x 82, x 83, x 84, x 85, x 86, x 87, x 88, x 89, x 90, x 91, x 92, x 93, x 94, x 95, x 96, x 97, x 98, x 99, x 100, x 101, x 102, x 103, x 104, x 105, x 106, x 107, x 108, x 109, x 110, x 111, x 112, x 113, x 114, x 115, x 116, x 117, x 118, x 119, x 120, x 121, x 122, x 123, x 124, x 125, x 126, x 127, x 128, x 129, x 130, x 131, x 132, x 133, x 134, x 135, x 136, x 137, x 138, x 139, x 140, x 141, x 142, x 143, x 144, x 145, x 146], defers := [] } (((wa.setCell ⟨w.heap.size, 0, none⟩ (.slice B4 (putName (rmName fs.N dst) ⟨dst, (k : Int) + 1⟩).length b4)).setCell ⟨w.heap.size, 1, none⟩ (.slice B5 (putFile fs.F k ⟨(k : Int) + 1, .slice CA D.length CC, D, true, false, (D.length : Int)⟩).length b5)).setCell ⟨w.heap.size, 2, none⟩ (.slice B3 fs.O.length b3)) := hK undef _ (hW.box _ _ _) (by unfold DoMn; rw [if_neg (by decide), if_pos rfl]; exact ⟨grown_three wa w.heap.size _ _ _, _, _, _, hb0⟩) ⟨_, _, hb0.three _ _ _, hS8.box hb0 (grown_three wa w.heap.size _ _ _)⟩
          unfold fr147
          rw [E2.out, hv8]
          rw [E2.out, hv8] at hk
          clear hv8
          go_simp
          exact hk
      case skip =>
        intro i o j b ho hgd
        have hi : i < 12 := (Array.getElem?_eq_some_iff.1 ho).1
        have hcase : i = 0 ∨ i = 1 ∨ i = 2 ∨ i = 3 ∨ i = 4 ∨ i = 5 ∨ i = 6 ∨ i = 7 ∨ i = 8 ∨ i = 9 ∨ i = 10 ∨ i = 11 := by omega
        rcases hcase with rfl | rfl | rfl | rfl | rfl | rfl | rfl | rfl | rfl | rfl | rfl | rfl <;> (simp only [List.getElem?_toArray, List.getElem?_cons_succ, List.getElem?_cons_zero, Option.some.injEq] at ho; subst ho; cases hgd)
      case done =>
        intro x wd hout hW hall
        have pst := hall 11 (by decide)
        obtain ⟨vN', vF', hbx, hSx⟩ := pst
        unfold fr147
        rw [(hout 0 (by decide)).trans (hx0 0), (hout 1 (by decide)).trans (hx0 1), (hout 2 (by decide)).trans (hx0 2), (hout 3 (by decide)).trans (hx0 3), (hout 4 (by decide)).trans (hx0 4), (hout 5 (by decide)).trans (hx0 5), (hout 6 (by decide)).trans (hx0 6), (hout 7 (by decide)).trans (hx0 7), (hout 8 (by decide)).trans (hx0 8), (hout 9 (by decide)).trans (hx0 9), (hout 10 (by decide)).trans (hx0 10), (hout 11 (by decide)).trans (hx0 11), (hout 12 (by decide)).trans (hx0 12), (hout 13 (by decide)).trans (hx0 13), (hout 14 (by decide)).trans (hx0 14), (hout 15 (by decide)).trans (hx0 15), (hout 16 (by decide)).trans (hx0 16), (hout 17 (by decide)).trans (hx0 17), (hout 18 (by decide)).trans (hx0 18), (hout 19 (by decide)).trans (hx0 19), (hout 20 (by decide)).trans (hx0 20), (hout 21 (by decide)).trans (hx0 21), (hout 22 (by decide)).trans (hx0 22), (hout 23 (by decide)).trans (hx0 23), (hout 24 (by decide)).trans (hx0 24), (hout 25 (by decide)).trans (hx0 25), (hout 26 (by decide)).trans (hx0 26), (hout 27 (by decide)).trans (hx0 27), (hout 28 (by decide)).trans (hx0 28), (hout 29 (by decide)).trans (hx0 29), (hout 30 (by decide)).trans (hx0 30), (hout 31 (by decide)).trans (hx0 31), (hout 32 (by decide)).trans (hx0 32), (hout 33 (by decide)).trans (hx0 33), (hout 34 (by decide)).trans (hx0 34), (hout 35 (by decide)).trans (hx0 35), (hout 36 (by decide)).trans (hx0 36), (hout 37 (by decide)).trans (hx0 37), (hout 38 (by decide)).trans (hx0 38), (hout 39 (by decide)).trans (hx0 39), (hout 40 (by decide)).trans (hx0 40), (hout 41 (by decide)).trans (hx0 41), (hout 42 (by decide)).trans (hx0 42), (hout 43 (by decide)).trans (hx0 43), (hout 44 (by decide)).trans (hx0 44), (hout 45 (by decide)).trans (hx0 45), (hout 46 (by decide)).trans (hx0 46), (hout 47 (by decide)).trans (hx0 47), (hout 48 (by decide)).trans (hx0 48), (hout 49 (by decide)).trans (hx0 49), (hout 50 (by decide)).trans (hx0 50), (hout 51 (by decide)).trans (hx0 51), (hout 52 (by decide)).trans (hx0 52), (hout 53 (by decide)).trans (hx0 53), (hout 54 (by decide)).trans (hx0 54), (hout 55 (by decide)).trans (hx0 55), (hout 56 (by decide)).trans (hx0 56), (hout 57 (by decide)).trans (hx0 57), (hout 58 (by decide)).trans (hx0 58), (hout 59 (by decide)).trans (hx0 59), (hout 60 (by decide)).trans (hx0 60), (hout 61 (by decide)).trans (hx0 61), (hout 62 (by decide)).trans (hx0 62), (hout 63 (by decide)).trans (hx0 63), (hout 64 (by decide)).trans (hx0 64), (hout 65 (by decide)).trans (hx0 65), (hout 66 (by decide)).trans (hx0 66), (hout 67 (by decide)).trans (hx0 67), (hout 68 (by decide)).trans (hx0 68), (hout 69 (by decide)).trans (hx0 69), (hout 70 (by decide)).trans (hx0 70), (hout 71 (by decide)).trans (hx0 71), (hout 72 (by decide)).trans (hx0 72), (hout 73 (by decide)).trans (hx0 73), (hout 74 (by decide)).trans (hx0 74), (hout 75 (by decide)).trans (hx0 75), (hout 76 (by decide)).trans (hx0 76), (hout 77 (by decide)).trans (hx0 77), (hout 78 (by decide)).trans (hx0 78), (hout 79 (by decide)).trans (hx0 79), (hout 80 (by decide)).trans (hx0 80), (hout 81 (by decide)).trans (hx0 81), (hout 82 (by decide)).trans (hx0 82), (hout 83 (by decide)).trans (hx0 83), (hout 84 (by decide)).trans (hx0 84), (hout 85 (by decide)).trans (hx0 85), (hout 86 (by decide)).trans (hx0 86), (hout 87 (by decide)).trans (hx0 87), (hout 88 (by decide)).trans (hx0 88), (hout 89 (by decide)).trans (hx0 89), (hout 90 (by decide)).trans (hx0 90), (hout 91 (by decide)).trans (hx0 91), (hout 92 (by decide)).trans (hx0 92), (hout 93 (by decide)).trans (hx0 93), (hout 94 (by decide)).trans (hx0 94), (hout 95 (by decide)).trans (hx0 95), (hout 107 (by decide)).trans (hx0 107), (hout 108 (by decide)).trans (hx0 108), (hout 109 (by decide)).trans (hx0 109), (hout 110 (by decide)).trans (hx0 110), (hout 111 (by decide)).trans (hx0 111), (hout 112 (by decide)).trans (hx0 112), (hout 113 (by decide)).trans (hx0 113), (hout 114 (by decide)).trans (hx0 114), (hout 115 (by decide)).trans (hx0 115), (hout 116 (by decide)).trans (hx0 116), (hout 117 (by decide)).trans (hx0 117), (hout 118 (by decide)).trans (hx0 118), (hout 119 (by decide)).trans (hx0 119), (hout 120 (by decide)).trans (hx0 120), (hout 121 (by decide)).trans (hx0 121), (hout 122 (by decide)).trans (hx0 122), (hout 123 (by decide)).trans (hx0 123), (hout 124 (by decide)).trans (hx0 124), (hout 125 (by decide)).trans (hx0 125), (hout 126 (by decide)).trans (hx0 126), (hout 127 (by decide)).trans (hx0 127), (hout 128 (by decide)).trans (hx0 128), (hout 129 (by decide)).trans (hx0 129), (hout 130 (by decide)).trans (hx0 130), (hout 131 (by decide)).trans (hx0 131), (hout 132 (by decide)).trans (hx0 132), (hout 133 (by decide)).trans (hx0 133), (hout 134 (by decide)).trans (hx0 134), (hout 135 (by decide)).trans (hx0 135), (hout 136 (by decide)).trans (hx0 136), (hout 137 (by decide)).trans (hx0 137), (hout 138 (by decide)).trans (hx0 138), (hout 139 (by decide)).trans (hx0 139), (hout 140 (by decide)).trans (hx0 140), (hout 141 (by decide)).trans (hx0 141), (hout 142 (by decide)).trans (hx0 142), (hout 143 (by decide)).trans (hx0 143), (hout 144 (by decide)).trans (hx0 144), (hout 145 (by decide)).trans (hx0 145), (hout 146 (by decide)).trans (hx0 146)]
        simp only [Array.getD_eq_getD_getElem?, List.getElem?_toArray, List.getElem?_cons_succ, List.getElem?_cons_zero, Option.getD_some]
        have HFx := keep hbx
        have HSx := keep hSx
        have HZx := keep hW.2.2.2.1
        have HBx := keep hW.1
        have HLN : Hid ((⟨(putName (rmName fs.N dst) ⟨dst, (k : Int) + 1⟩), (putFile fs.F k ⟨(k : Int) + 1, .slice CA D.length CC, D, true, false, (D.length : Int)⟩), fs.O⟩ : FS).N.length ≤ 1000000) := keep (by show (putName (rmName fs.N dst) ⟨dst, (k : Int) + 1⟩).length ≤ 1000000; rw [putName_len]; have := rmName_len fs.N dst; omega)
        have HLF : Hid ((⟨(putName (rmName fs.N dst) ⟨dst, (k : Int) + 1⟩), (putFile fs.F k ⟨(k : Int) + 1, .slice CA D.length CC, D, true, false, (D.length : Int)⟩), fs.O⟩ : FS).F.length ≤ 1000000) := keep (by show (putFile fs.F k ⟨(k : Int) + 1, .slice CA D.length CC, D, true, false, (D.length : Int)⟩).length ≤ 1000000; have := putFile_len fs.F k ⟨(k : Int) + 1, .slice CA D.length CC, D, true, false, (D.length : Int)⟩; omega)
        have HLO : Hid ((⟨(putName (rmName fs.N dst) ⟨dst, (k : Int) + 1⟩), (putFile fs.F k ⟨(k : Int) + 1, .slice CA D.length CC, D, true, false, (D.length : Int)⟩), fs.O⟩ : FS).O.length ≤ 1000000) := keep (by show fs.O.length ≤ 1000000; omega)
        obtain ⟨B4, b4, rfl, _⟩ := own_sl hSx.n
        obtain ⟨B5, b5, rfl, _⟩ := own_sl hSx.f
        clear hall hout hx0 y2 y3 y12 y13 hbx hSx hW
        have HMET : Hid (MetSt fs ⟨5, name, dst, .slice A data.length cc, data, n⟩ 0 (⟨(putName (rmName fs.N dst) ⟨dst, (k : Int) + 1⟩), (putFile fs.F k ⟨(k : Int) + 1, .slice CA D.length CC, D, true, false, (D.length : Int)⟩), fs.O⟩ : FS)) := keep (.inr (.inr (.inr (.inr (.inl ⟨rfl, by
          obtain ⟨i, kf, hii, hkf, e1, e2, e3, e4⟩ := HPL.out
          refine .inr ⟨i, kf, hii, hkf, e1, e2, .inr ⟨e4, .inr ⟨HNO.out, .inr ⟨HLT.out, rfl, k, .slice CA D.length CC, HG.out, ?_⟩⟩⟩⟩
          show FS.mk _ _ _ = FS.mk (putName fs.N ⟨dst, (k : Int) + 1⟩) _ _
          rw [rm_none HNO.out, e3]; rfl⟩)))))
        have HSW := keep (refSweep_any _ _ _ (⟨(putName (rmName fs.N dst) ⟨dst, (k : Int) + 1⟩), (putFile fs.F k ⟨(k : Int) + 1, .slice CA D.length CC, D, true, false, (D.length : Int)⟩), fs.O⟩ : FS) wd HSx.out.t HLF.out HLN.out HLO.out)
        obtain ⟨f0, f1, f2⟩ := HFx.out.cell3
        go_wp2_with fail
        refine HSW.out.mono ?_
        rintro e wz ⟨vFz, rfl, hoF, hbz⟩
        obtain ⟨G2, g2, rfl, _⟩ := own_sl hoF
        have hZz := HZx.out.below hbz HZx.out.lt
        have hgz := grown_three wz (w.heap.size + 1 + 1) (.slice B4 (putName (rmName fs.N dst) ⟨dst, (k : Int) + 1⟩).length b4) (.slice G2 ((⟨(putName (rmName fs.N dst) ⟨dst, (k : Int) + 1⟩), (putFile fs.F k ⟨(k : Int) + 1, .slice CA D.length CC, D, true, false, (D.length : Int)⟩), fs.O⟩ : FS).F.filter (stays (⟨(putName (rmName fs.N dst) ⟨dst, (k : Int) + 1⟩), (putFile fs.F k ⟨(k : Int) + 1, .slice CA D.length CC, D, true, false, (D.length : Int)⟩), fs.O⟩ : FS))).length g2) (.slice B3 fs.O.length b3)
        have hSz := HSx.out.up hbz
        have hTz : FsT wz (.slice B4 (putName (rmName fs.N dst) ⟨dst, (k : Int) + 1⟩).length b4) (.slice G2 ((⟨(putName (rmName fs.N dst) ⟨dst, (k : Int) + 1⟩), (putFile fs.F k ⟨(k : Int) + 1, .slice CA D.length CC, D, true, false, (D.length : Int)⟩), fs.O⟩ : FS).F.filter (stays (⟨(putName (rmName fs.N dst) ⟨dst, (k : Int) + 1⟩), (putFile fs.F k ⟨(k : Int) + 1, .slice CA D.length CC, D, true, false, (D.length : Int)⟩), fs.O⟩ : FS))).length g2) (.slice B3 fs.O.length b3) (purged (⟨(putName (rmName fs.N dst) ⟨dst, (k : Int) + 1⟩), (putFile fs.F k ⟨(k : Int) + 1, .slice CA D.length CC, D, true, false, (D.length : Int)⟩), fs.O⟩ : FS)) := by
          have hp : purged (⟨(putName (rmName fs.N dst) ⟨dst, (k : Int) + 1⟩), (putFile fs.F k ⟨(k : Int) + 1, .slice CA D.length CC, D, true, false, (D.length : Int)⟩), fs.O⟩ : FS) = ⟨(⟨(putName (rmName fs.N dst) ⟨dst, (k : Int) + 1⟩), (putFile fs.F k ⟨(k : Int) + 1, .slice CA D.length CC, D, true, false, (D.length : Int)⟩), fs.O⟩ : FS).N, (⟨(putName (rmName fs.N dst) ⟨dst, (k : Int) + 1⟩), (putFile fs.F k ⟨(k : Int) + 1, .slice CA D.length CC, D, true, false, (D.length : Int)⟩), fs.O⟩ : FS).F.filter (stays (⟨(putName (rmName fs.N dst) ⟨dst, (k : Int) + 1⟩), (putFile fs.F k ⟨(k : Int) + 1, .slice CA D.length CC, D, true, false, (D.length : Int)⟩), fs.O⟩ : FS)), (⟨(putName (rmName fs.N dst) ⟨dst, (k : Int) + 1⟩), (putFile fs.F k ⟨(k : Int) + 1, .slice CA D.length CC, D, true, false, (D.length : Int)⟩), fs.O⟩ : FS).O⟩ := by unfold purged; rw [stays_goes]
          rw [hp]
          exact ⟨own_ty hSz.n, own_ty hoF, own_ty hSz.o, fun t ht => hSz.d t (List.mem_filter.1 ht).1⟩
        have HTz := keep (hTz.grown hZz hgz (by decide) (by decide) (by decide) (by decide))
        have HZz := keep (hZz.three (.slice B4 (putName (rmName fs.N dst) ⟨dst, (k : Int) + 1⟩).length b4) (.slice G2 ((⟨(putName (rmName fs.N dst) ⟨dst, (k : Int) + 1⟩), (putFile fs.F k ⟨(k : Int) + 1, .slice CA D.length CC, D, true, false, (D.length : Int)⟩), fs.O⟩ : FS).F.filter (stays (⟨(putName (rmName fs.N dst) ⟨dst, (k : Int) + 1⟩), (putFile fs.F k ⟨(k : Int) + 1, .slice CA D.length CC, D, true, false, (D.length : Int)⟩), fs.O⟩ : FS))).length g2) (.slice B3 fs.O.length b3))
        have HBz := keep (below_three (bchain HBx.out hbz) (show w.heap.size ≤ w.heap.size + 1 + 1 by omega) (.slice B4 (putName (rmName fs.N dst) ⟨dst, (k : Int) + 1⟩).length b4) (.slice G2 ((⟨(putName (rmName fs.N dst) ⟨dst, (k : Int) + 1⟩), (putFile fs.F k ⟨(k : Int) + 1, .slice CA D.length CC, D, true, false, (D.length : Int)⟩), fs.O⟩ : FS).F.filter (stays (⟨(putName (rmName fs.N dst) ⟨dst, (k : Int) + 1⟩), (putFile fs.F k ⟨(k : Int) + 1, .slice CA D.length CC, D, true, false, (D.length : Int)⟩), fs.O⟩ : FS))).length g2) (.slice B3 fs.O.length b3))
        obtain ⟨z0, z1, z2⟩ := hZz.cell3
        obtain ⟨y0, y1, y2⟩ := hZz.froz3
        clear hbz hoF hZz hgz hSz hTz f0 f1 f2
        go_wp2_with fail
        have hdo := doSt_p HI.out (show DoSt fs ⟨5, name, dst, .slice A data.length cc, data, n⟩ 0 (purged (⟨(putName (rmName fs.N dst) ⟨dst, (k : Int) + 1⟩), (putFile fs.F k ⟨(k : Int) + 1, .slice CA D.length CC, D, true, false, (D.length : Int)⟩), fs.O⟩ : FS)) from .inr ⟨⟨by show (1:Int) ≤ 5; decide, by show (5:Int) ≤ 8; decide⟩, .inr ⟨badNm_no HBAD.out, .inr ⟨rfl, (⟨(putName (rmName fs.N dst) ⟨dst, (k : Int) + 1⟩), (putFile fs.F k ⟨(k : Int) + 1, .slice CA D.length CC, D, true, false, (D.length : Int)⟩), fs.O⟩ : FS), HMET.out, rfl⟩⟩⟩)
        refine bodyPost_ret (results_cell_row_tmp rfl _ _ (w.heap.size + 1 + 1) _ _ _ _ rfl HZz.out Try.underlying40 rfl (by kernel_rfl)) rfl ?_
        exact ⟨purged (⟨(putName (rmName fs.N dst) ⟨dst, (k : Int) + 1⟩), (putFile fs.F k ⟨(k : Int) + 1, .slice CA D.length CC, D, true, false, (D.length : Int)⟩), fs.O⟩ : FS), _, _, _, by rw [HE0.out]; rfl, HTz.out, congrArg Prod.snd hdo.1, hdo.2.1, hdo.2.2, HBz.out⟩
    · have hq := step_f ⟨by decide, by decide⟩ HST.out
      obtain ⟨i, kf, hii, hkf, hnm, hino, hlk, hfl⟩ := has_places HI.out hq
      have hi1 : i1 = fs.F[kf].ino := by rw [← HI1.out, hlk]; rfl
      have hr : r = (kf : Int) := at_place HI.out hkf (hi1 ▸ HR.out)
      subst hr
      obtain ⟨gF, rfl⟩ : ∃ gF, B2 = some ⟨gF, 0, none⟩ := by
        rcases HS6.out.f.2 with ⟨_, h0⟩ | ⟨g, cap, cur, h1, _⟩
        · exact absurd hkf (by rw [h0]; omega)
        · exact ⟨g, (Value.slice.inj h1).1⟩
      obtain ⟨c0, c1, c2, c3, c4⟩ := own_fiCells HS6.out.f rfl hkf
      have hgB : B ≤ gF := own_ge HS6.out.f gF rfl
      have hki0 : (0 : Int) ≤ (kf : Int) := by omega
      have hki1 : (kf : Int) < (fs.F.length : Int) := by omega
      have h6 := step_6 hfl HST.out
      have hcp : fs.F[kf].cp = true := h6.1.1
      have hwh : fs.F[kf].wh = false := h6.1.2
      have hlk6 := HI.out.l _ (List.getElem_mem hkf)
      have hld6 := HI.out.d _ (List.getElem_mem hkf)
      obtain ⟨y, hy⟩ : ∃ y, fs.F[kf].left = y := ⟨_, rfl⟩
      rw [hy] at c4 hlk6
      have hly : 0 ≤ y ∧ y ≤ 1000000 := by omega
      have h61 : 1 ≤ n := h6.2
      have hmn : min n y ≤ y := by omega
      have hmn0 : 0 ≤ min n y := by omega
      have HMET : Hid (MetSt fs ⟨6, name, dst, .slice A data.length cc, data, n⟩ 0 (⟨fs.N, fs.F.set kf ⟨fs.F[kf].ino, fs.F[kf].dv, fs.F[kf].data, true, y - min n y == 0, y - min n y⟩, fs.O⟩ : FS)) := keep (.inr (.inr (.inr (.inr (.inr (.inl ⟨rfl, .inr ⟨i, kf, hii, hkf, hnm, hino, .inr ⟨⟨hcp, hwh⟩, .inr ⟨h61, rfl, by rw [hy]⟩⟩⟩⟩))))))
      have hFi : fs.F[kf] = ⟨fs.F[kf].ino, fs.F[kf].dv, fs.F[kf].data, true, false, y⟩ := by rw [← hcp, ← hwh, ← hy]
      have hfr := HS6.out.d _ (List.getElem_mem hkf)
      have HSETT : Hid (∀ wa, Below w6.heap.size w6 wa → FsO (wa.setCell ⟨gF, kf * 5 + 4, none⟩ (.int .i64 (y - min n y))) B (.slice B1 fs.N.length b1) (.slice (some ⟨gF, 0, none⟩) fs.F.length b2) (.slice B3 fs.O.length b3) (⟨fs.N, fs.F.set kf ⟨fs.F[kf].ino, fs.F[kf].dv, fs.F[kf].data, true, false, y - min n y⟩, fs.O⟩ : FS)) := keep (fun wa h => fset (j := 4) (u := .int .i64 (y - min n y)) (a := ⟨fs.F[kf].ino, fs.F[kf].dv, fs.F[kf].data, true, false, y - min n y⟩) (HS6.out.up h) rfl hkf (by omega) (by rw [hFi]; rfl) (hfr.up h))
      have HGL : Hid (gF < w6.heap.size) := keep (by have := World.block_lt_of_cell? w6 _ c4; simpa using this)
      have HC4 : Hid (∀ wx, Below w6.heap.size w6 wx → wx.cell? ⟨gF, kf * 5 + 4, none⟩ = some (.int .i64 y)) := keep (fun wx hx => (hx.cell (p := ⟨gF, kf * 5 + 4, none⟩) HGL.out).trans c4)
      have HKF := keep hkf
      have HLN : Hid ((⟨fs.N, fs.F.set kf ⟨fs.F[kf].ino, fs.F[kf].dv, fs.F[kf].data, true, y - min n y == 0, y - min n y⟩, fs.O⟩ : FS).N.length ≤ 1000000) := keep (by show fs.N.length ≤ 1000000; omega)
      have HLF : Hid ((⟨fs.N, fs.F.set kf ⟨fs.F[kf].ino, fs.F[kf].dv, fs.F[kf].data, true, y - min n y == 0, y - min n y⟩, fs.O⟩ : FS).F.length ≤ 1000000) := keep (by show (fs.F.set kf ⟨fs.F[kf].ino, fs.F[kf].dv, fs.F[kf].data, true, y - min n y == 0, y - min n y⟩).length ≤ 1000000; rw [List.length_set]; omega)
      have HLO : Hid ((⟨fs.N, fs.F.set kf ⟨fs.F[kf].ino, fs.F[kf].dv, fs.F[kf].data, true, y - min n y == 0, y - min n y⟩, fs.O⟩ : FS).O.length ≤ 1000000) := keep (by show fs.O.length ≤ 1000000; omega)
      clear hq hlk hfl hi1 hnm hino h6 hcp hwh hlk6 hld6 c0 c1 c2 c3 c4 hy hFi hfr hii
      go_upto_region 24 with fail
      clear f0 f1 f2 x0 x1 x2 x3 x4
      refine reg_start 147 fr147 (fun _ => rfl) _ rfl fun x0 hx0 => ?_
      have y2 : x0 2 = .pointer (some ⟨w.heap.size, 0, none⟩) := hx0 2
      have y3 : x0 3 = .pointer (some ⟨w.heap.size + 1, 0, none⟩) := hx0 3
      have y10 : x0 10 = .int .i64 (kf : Int) := hx0 10
      refine wp_regV (by kernel_rfl) 147 (fun i =>  i) (by kernel_rfl) fr147 (fun _ => rfl) x0 (fun wa => Below B w6 wa) (fun i a b => if i = 18 then True else a = b) (fun i v u wa => match i with
          | 0 => v = .pointer (some ⟨w.heap.size, 1, none⟩)
          | 1 => v = .slice (some ⟨gF, 0, none⟩) fs.F.length b2
          | 2 => v = .int .i64 (kf : Int)
          | 3 => v = .pointer (some ⟨gF, kf * 5, none⟩)
          | 4 => v = .pointer (some ⟨gF, kf * 5 + 4, none⟩)
          | 5 => v = .int .i64 y
          | 6 => v = .pointer (some ⟨w.heap.size + 1, 4, none⟩)
          | 7 => v = .int .i64 n
          | 8 => v = .pointer (some ⟨w.heap.size, 1, none⟩)
          | 9 => v = .slice (some ⟨gF, 0, none⟩) fs.F.length b2
          | 10 => v = .int .i64 (kf : Int)
          | 11 => v = .pointer (some ⟨gF, kf * 5, none⟩)
          | 12 => v = .pointer (some ⟨gF, kf * 5 + 4, none⟩)
          | 13 => v = .int .i64 y
          | 14 => v = .int .i64 (min n y)
          | 15 => v = .int .i64 (y - min n y)
          | 16 => v = .pointer (some ⟨gF, kf * 5, none⟩)
          | 17 => v = .pointer (some ⟨gF, kf * 5 + 4, none⟩)
          | 18 => FsO wa B (.slice B1 fs.N.length b1) (.slice (some ⟨gF, 0, none⟩) fs.F.length b2) (.slice B3 fs.O.length b3) (⟨fs.N, fs.F.set kf ⟨fs.F[kf].ino, fs.F[kf].dv, fs.F[kf].data, true, false, y - min n y⟩, fs.O⟩ : FS)
          | _ => True) (fun m wa => if m = 18 then Below w6.heap.size w6 wa else True) (fun m => by
          split
          · exact below_drewN (Below.refl _ w6) 1
          · trivial) (fun i m wa wb hne hmn h => by
          by_cases h2 : m = 18
          · rw [if_pos h2] at h ⊢
            rw [if_neg (fun e => hne (e.trans h2.symm))] at hmn
            exact hmn ▸ h
          · rw [if_neg h2]; trivial) (by
            intro i j v u wa wb hbf hmn hp
            match j, hp with
            | 0, hp => exact hp
            | 1, hp => exact hp
            | 2, hp => exact hp
            | 3, hp => exact hp
            | 4, hp => exact hp
            | 5, hp => exact hp
            | 6, hp => exact hp
            | 7, hp => exact hp
            | 8, hp => exact hp
            | 9, hp => exact hp
            | 10, hp => exact hp
            | 11, hp => exact hp
            | 12, hp => exact hp
            | 13, hp => exact hp
            | 14, hp => exact hp
            | 15, hp => exact hp
            | 16, hp => exact hp
            | 17, hp => exact hp
            | 18, hp =>
              by_cases h14 : i = 18
              · subst h14
                exact absurd hbf (fun hbf => by exact Bool.false_ne_true (hbf.symm.trans (by kernel_rfl)))
              · rw [if_neg h14] at hmn
                exact hmn ▸ hp
            | _ + 19, hp => trivial) (below_drewN (Below.refl B w6) 1) ?step ?skip ?done
      case step =>
        intro i o ho x wa K hW hbef hout hdep hgd hK
        have E2 : Hid (x 2 = .pointer (some ⟨w.heap.size, 0, none⟩)) := keep ((hout 2 (by decide)).trans y2)
        have E3 : Hid (x 3 = .pointer (some ⟨w.heap.size + 1, 0, none⟩)) := keep ((hout 3 (by decide)).trans y3)
        have E10 : Hid (x 10 = .int .i64 (kf : Int)) := keep ((hout 10 (by decide)).trans y10)
        clear hout hx0 y2 y3 y10
        have hi : i < 19 := (Array.getElem?_eq_some_iff.1 ho).1
        have hcase : i = 0 ∨ i = 1 ∨ i = 2 ∨ i = 3 ∨ i = 4 ∨ i = 5 ∨ i = 6 ∨ i = 7 ∨ i = 8 ∨ i = 9 ∨ i = 10 ∨ i = 11 ∨ i = 12 ∨ i = 13 ∨ i = 14 ∨ i = 15 ∨ i = 16 ∨ i = 17 ∨ i = 18 := by omega
        clear hi
        rcases hcase with rfl | rfl | rfl | rfl | rfl | rfl | rfl | rfl | rfl | rfl | rfl | rfl | rfl | rfl | rfl | rfl | rfl | rfl | rfl
        · -- operation 0
          simp only [List.getElem?_toArray, List.getElem?_cons_zero, Option.some.injEq] at ho
          subst ho
          clear hdep hgd hbef
          unfold fr147
          rw [E2.out]
          go_simp
          have hk : K { tmps := #[x 0, x 1, x 2, x 3, x 4, x 5, x 6, x 7, x 8, x 9, x 10, x 11, x 12, x 13, x 14, x 15, x 16, x 17, x 18, x 19, x 20, x 21, x 22, x 23, x 24, x 25, x 26, x 27, x 28, x 29, x 30, x 31, x 32, x 33, x 34, x 35, x 36, x 37, x 38, x 39, x 40, x 41, x 42, x 43, x 44, x 45, x 46, x 47, x 48, x 49, x 50, x 51, x 52, x 53, x 54, x 55, x 56, x 57, x 58, x 59, x 60, x 61, x 62, x 63, x 64, x 65, x 66, x 67, x 68, x 69, x 70, x 71, x 72, x 73, x 74, x 75, x 76, x 77, x 78, x 79, x 80, x 81, x 82, x 83, x 84, x 85, x 86, x 87, x 88, x 89, x 90, x 91, x 92, x 93, x 94, x 95, x 96, x 97, x 98, x 99, x 100, x 101, x 102, x 103, x 104, x 105, x 106, x 107, x 108, .pointer (some ⟨w.heap.size, 1, none⟩), x 110, x 111, x 112, x 113, x 114, x 115, x 116, x 117, x 118, x 119, x 120, x 121, x 122, x 123, x 124, x 125, x 126, x 127, x 128, x 129, x 130, x 131, x 132, x 133, x 134, x 135, x 136, x 137, x 138, x 139, x 140, x 141, x 142, x 143, x 144, x 145, x 146], defers := [] } wa := hK _ _ hW (by rw [if_neg (by decide)]) rfl
          rw [E2.out] at hk
          exact hk
        · -- operation 1
          simp only [List.getElem?_toArray, List.getElem?_cons_succ, List.getElem?_cons_zero, Option.some.injEq] at ho
          subst ho
          have p0 : (x 109) = .pointer (some ⟨w.heap.size, 1, none⟩) := hdep 0 (List.mem_of_elem_eq_true (by kernel_rfl))
          clear hdep hgd hbef
          obtain ⟨f0, f1, f2⟩ := (HF6.out.below hW (by have := HGB.out; omega)).cell3
          unfold fr147
          rw [p0]
          go_simp
          have hk : K { tmps := #[x 0, x 1, x 2, x 3, x 4, x 5, x 6, x 7, x 8, x 9, x 10, x 11, x 12, x 13, x 14, x 15, x 16, x 17, x 18, x 19, x 20, x 21, x 22, x 23, x 24, x 25, x 26, x 27, x 28, x 29, x 30, x 31, x 32, x 33, x 34, x 35, x 36, x 37, x 38, x 39, x 40, x 41, x 42, x 43, x 44, x 45, x 46, x 47, x 48, x 49, x 50, x 51, x 52, x 53, x 54, x 55, x 56, x 57, x 58, x 59, x 60, x 61, x 62, x 63, x 64, x 65, x 66, x 67, x 68, x 69, x 70, x 71, x 72, x 73, x 74, x 75, x 76, x 77, x 78, x 79, x 80, x 81, x 82, x 83, x 84, x 85, x 86, x 87, x 88, x 89, x 90, x 91, x 92, x 93, x 94, x 95, x 96, x 97, x 98, x 99, x 100, x 101, x 102, x 103, x 104, x 105, x 106, x 107, x 108, x 109, .slice (some ⟨gF, 0, none⟩) fs.F.length b2, x 111, x 112, x 113, x 114, x 115, x 116, x 117, x 118, x 119, x 120, x 121, x 122, x 123, x 124, x 125, x 126, x 127, x 128, x 129, x 130, x 131, x 132, x 133, x 134, x 135, x 136, x 137, x 138, x 139, x 140, x 141, x 142, x 143, x 144, x 145, x 146], defers := [] } wa := hK _ _ hW (by rw [if_neg (by decide)]) rfl
          rw [p0] at hk
          exact hk
        · -- operation 2
          simp only [List.getElem?_toArray, List.getElem?_cons_succ, List.getElem?_cons_zero, Option.some.injEq] at ho
          subst ho
          clear hdep hgd hbef
          unfold fr147
          rw [E10.out]
          go_simp
          have hk : K { tmps := #[x 0, x 1, x 2, x 3, x 4, x 5, x 6, x 7, x 8, x 9, x 10, x 11, x 12, x 13, x 14, x 15, x 16, x 17, x 18, x 19, x 20, x 21, x 22, x 23, x 24, x 25, x 26, x 27, x 28, x 29, x 30, x 31, x 32, x 33, x 34, x 35, x 36, x 37, x 38, x 39, x 40, x 41, x 42, x 43, x 44, x 45, x 46, x 47, x 48, x 49, x 50, x 51, x 52, x 53, x 54, x 55, x 56, x 57, x 58, x 59, x 60, x 61, x 62, x 63, x 64, x 65, x 66, x 67, x 68, x 69, x 70, x 71, x 72, x 73, x 74, x 75, x 76, x 77, x 78, x 79, x 80, x 81, x 82, x 83, x 84, x 85, x 86, x 87, x 88, x 89, x 90, x 91, x 92, x 93, x 94, x 95, x 96, x 97, x 98, x 99, x 100, x 101, x 102, x 103, x 104, x 105, x 106, x 107, x 108, x 109, x 110, .int .i64 (kf : Int), x 112, x 113, x 114, x 115, x 116, x 117, x 118, x 119, x 120, x 121, x 122, x 123, x 124, x 125, x 126, x 127, x 128, x 129, x 130, x 131, x 132, x 133, x 134, x 135, x 136, x 137, x 138, x 139, x 140, x 141, x 142, x 143, x 144, x 145, x 146], defers := [] } wa := hK _ _ hW (by rw [if_neg (by decide)]) rfl
          rw [E10.out] at hk
          exact hk
        · -- operation 3
          simp only [List.getElem?_toArray, List.getElem?_cons_succ, List.getElem?_cons_zero, Option.some.injEq] at ho
          subst ho
          have p1 : (x 110) = .slice (some ⟨gF, 0, none⟩) fs.F.length b2 := hdep 1 (List.mem_of_elem_eq_true (by kernel_rfl))
          have p2 : (x 111) = .int .i64 (kf : Int) := hdep 2 (List.mem_of_elem_eq_true (by kernel_rfl))
          clear hdep hgd hbef
          unfold fr147
          rw [p1, p2]
          go_simp
          have hk : K { tmps := #[x 0, x 1, x 2, x 3, x 4, x 5, x 6, x 7, x 8, x 9, x 10, x 11, x 12, x 13, x 14, x 15, x 16, x 17, x 18, x 19, x 20, x 21, x 22, x 23, x 24, x 25, x 26, x 27, x 28, x 29, x 30, x 31, x 32, x 33, x 34, x 35, x 36, x 37, x 38, x 39, x 40, x 41, x 42, x 43, x 44, x 45, x 46, x 47, x 48, x 49, x 50, x 51, x 52, x 53, x 54, x 55, x 56, x 57, x 58, x 59, x 60, x 61, x 62, x 63, x 64, x 65, x 66, x 67, x 68, x 69, x 70, x 71, x 72, x 73, x 74, x 75, x 76, x 77, x 78, x 79, x 80, x 81, x 82, x 83, x 84, x 85, x 86, x 87, x 88, x 89, x 90, x 91, x 92, x 93, x 94, x 95, x 96, x 97, x 98, x 99, x 100, x 101, x 102, x 103, x 104, x 105, x 106, x 107, x 108, x 109, x 110, x 111, .pointer (some ⟨gF, kf * 5, none⟩), x 113, x 114, x 115, x 116, x 117, x 118, x 119, x 120, x 121, x 122, x 123, x 124, x 125, x 126, x 127, x 128, x 129, x 130, x 131, x 132, x 133, x 134, x 135, x 136, x 137, x 138, x 139, x 140, x 141, x 142, x 143, x 144, x 145, x 146], defers := [] } wa := hK _ _ hW (by rw [if_neg (by decide)]) rfl
          rw [p1, p2] at hk
          exact hk
        · -- operation 4
          simp only [List.getElem?_toArray, List.getElem?_cons_succ, List.getElem?_cons_zero, Option.some.injEq] at ho
          subst ho
          have p3 : (x 112) = .pointer (some ⟨gF, kf * 5, none⟩) := hdep 3 (List.mem_of_elem_eq_true (by kernel_rfl))
          clear hdep hgd hbef
          unfold fr147
          rw [p3]
          go_simp
          have hk : K { tmps := #[x 0, x 1, x 2, x 3, x 4, x 5, x 6, x 7, x 8, x 9, x 10, x 11, x 12, x 13, x 14, x 15, x 16, x 17, x 18, x 19, x 20, x 21, x 22, x 23, x 24, x 25, x 26, x 27, x 28, x 29, x 30, x 31, x 32, x 33, x 34, x 35, x 36, x 37, x 38, x 39, x 40, x 41, x 42, x 43, x 44, x 45, x 46, x 47, x 48, x 49, x 50, x 51, x 52, x 53, x 54, x 55, x 56, x 57, x 58, x 59, x 60, x 61, x 62, x 63, x 64, x 65, x 66, x 67, x 68, x 69, x 70, x 71, x 72, x 73, x 74, x 75, x 76, x 77, x 78, x 79, x 80, x 81, x 82, x 83, x 84, x 85, x 86, x 87, x 88, x 89, x 90, x 91, x 92, x 93, x 94, x 95, x 96, x 97, x 98, x 99, x 100, x 101, x 102, x 103, x 104, x 105, x 106, x 107, x 108, x 109, x 110, x 111, x 112, .pointer (some ⟨gF, kf * 5 + 4, none⟩), x 114, x 115, x 116, x 117, x 118, x 119, x 120, x 121, x 122, x 123, x 124, x 125, x 126, x 127, x 128, x 129, x 130, x 131, x 132, x 133, x 134, x 135, x 136, x 137, x 138, x 139, x 140, x 141, x 142, x 143, x 144, x 145, x 146], defers := [] } wa := hK _ _ hW (by rw [if_neg (by decide)]) rfl
          rw [p3] at hk
          exact hk
        · -- operation 5
          simp only [List.getElem?_toArray, List.getElem?_cons_succ, List.getElem?_cons_zero, Option.some.injEq] at ho
          subst ho
          have p4 : (x 113) = .pointer (some ⟨gF, kf * 5 + 4, none⟩) := hdep 4 (List.mem_of_elem_eq_true (by kernel_rfl))
          have e18 : Below w6.heap.size w6 wa := hbef 18 (by decide) (by kernel_rfl)
          clear hdep hgd hbef
          have c4 := HC4.out wa e18
          unfold fr147
          rw [p4]
          go_simp
          have hk : K { tmps := #[x 0, x 1, x 2, x 3, x 4, x 5, x 6, x 7, x 8, x 9, x 10, x 11, x 12, x 13, x 14, x 15, x 16, x 17, x 18, x 19, x 20, x 21, x 22, x 23, x 24, x 25, x 26, x 27, x 28, x 29, x 30, x 31, x 32, x 33, x 34, x 35, x 36, x 37, x 38, x 39, x 40, x 41, x 42, x 43, x 44, x 45, x 46, x 47, x 48, x 49, x 50, x 51, x 52, x 53, x 54, x 55, x 56, x 57, x 58, x 59, x 60, x 61, x 62, x 63, x 64, x 65, x 66, x 67, x 68, x 69, x 70, x 71, x 72, x 73, x 74, x 75, x 76, x 77, x 78, x 79, x 80, x 81, x 82, x 83, x 84, x 85, x 86, x 87, x 88, x 89, x 90, x 91, x 92, x 93, x 94, x 95, x 96, x 97, x 98, x 99, x 100, x 101, x 102, x 103, x 104, x 105, x 106, x 107, x 108, x 109, x 110, x 111, x 112, x 113, .int .i64 y, x 115, x 116, x 117, x 118, x 119, x 120, x 121, x 122, x 123, x 124, x 125, x 126, x 127, x 128, x 129, x 130, x 131, x 132, x 133, x 134, x 135, x 136, x 137, x 138, x 139, x 140, x 141, x 142, x 143, x 144, x 145, x 146], defers := [] } wa := hK _ _ hW (by rw [if_neg (by decide)]) rfl
          rw [p4] at hk
          exact hk
        · -- operation 6
          simp only [List.getElem?_toArray, List.getElem?_cons_succ, List.getElem?_cons_zero, Option.some.injEq] at ho
          subst ho
          clear hdep hgd hbef
          unfold fr147
          rw [E3.out]
          go_simp
          have hk : K { tmps := #[x 0, x 1, x 2, x 3, x 4, x 5, x 6, x 7, x 8, x 9, x 10, x 11, x 12, x 13, x 14, x 15, x 16, x 17, x 18, x 19, x 20, x 21, x 22, x 23, x 24, x 25, x 26, x 27, x 28, x 29, x 30, x 31, x 32, x 33, x 34, x 35, x 36, x 37, x 38, x 39, x 40, x 41, x 42, x 43, x 44, x 45, x 46, x 47, x 48, x 49, x 50, x 51, x 52, x 53, x 54, x 55, x 56, x 57, x 58, x 59, x 60, x 61, x 62, x 63, x 64, x 65, x 66, x 67, x 68, x 69, x 70, x 71, x 72, x 73, x 74, x 75, x 76, x 77, x 78, x 79, x 80, x 81, x 82, x 83, x 84, x 85, x 86, x 87, x 88, x 89, x 90, x 91, x 92, x 93, x 94, x 95, x 96, x 97, x 98, x 99, x 100, x 101, x 102, x 103, x 104, x 105, x 106, x 107, x 108, x 109, x 110, x 111, x 112, x 113, x 114, .pointer (some ⟨w.heap.size + 1, 4, none⟩), x 116, x 117, x 118, x 119, x 120, x 121, x 122, x 123, x 124, x 125, x 126, x 127, x 128, x 129, x 130, x 131, x 132, x 133, x 134, x 135, x 136, x 137, x 138, x 139, x 140, x 141, x 142, x 143, x 144, x 145, x 146], defers := [] } wa := hK _ _ hW (by rw [if_neg (by decide)]) rfl
          rw [E3.out] at hk
          exact hk
        · -- operation 7
          simp only [List.getElem?_toArray, List.getElem?_cons_succ, List.getElem?_cons_zero, Option.some.injEq] at ho
          subst ho
          have p6 : (x 115) = .pointer (some ⟨w.heap.size + 1, 4, none⟩) := hdep 6 (List.mem_of_elem_eq_true (by kernel_rfl))
          clear hdep hgd hbef
          obtain ⟨x0, x1, x2, x3, x4⟩ := (HX6.out.below hW (by have := HGB.out; omega)).cell5
          unfold fr147
          rw [p6]
          go_simp
          have hk : K { tmps := #[x 0, x 1, x 2, x 3, x 4, x 5, x 6, x 7, x 8, x 9, x 10, x 11, x 12, x 13, x 14, x 15, x 16, x 17, x 18, x 19, x 20, x 21, x 22, x 23, x 24, x 25, x 26, x 27, x 28, x 29, x 30, x 31, x 32, x 33, x 34, x 35, x 36, x 37, x 38, x 39, x 40, x 41, x 42, x 43, x 44, x 45, x 46, x 47, x 48, x 49, x 50, x 51, x 52, x 53, x 54, x 55, x 56, x 57, x 58, x 59, x 60, x 61, x 62, x 63, x 64, x 65, x 66, x 67, x 68, x 69, x 70, x 71, x 72, x 73, x 74, x 75, x 76, x 77, x 78, x 79, x 80, x 81, x 82, x 83, x 84, x 85, x 86, x 87, x 88, x 89, x 90, x 91, x 92, x 93, x 94, x 95, x 96, x 97, x 98, x 99, x 100, x 101, x 102, x 103, x 104, x 105, x 106, x 107, x 108, x 109, x 110, x 111, x 112, x 113, x 114, x 115, .int .i64 n, x 117, x 118, x 119, x 120, x 121, x 122, x 123, x 124, x 125, x 126, x 127, x 128, x 129, x 130, x 131, x 132, x 133, x 134, x 135, x 136, x 137, x 138, x 139, x 140, x 141, x 142, x 143, x 144, x 145, x 146], defers := [] } wa := hK _ _ hW (by rw [if_neg (by decide)]) rfl
          rw [p6] at hk
          exact hk
        · -- operation 8
          simp only [List.getElem?_toArray, List.getElem?_cons_succ, List.getElem?_cons_zero, Option.some.injEq] at ho
          subst ho
          clear hdep hgd hbef
          unfold fr147
          rw [E2.out]
          go_simp
          have hk : K { tmps := #[x 0, x 1, x 2, x 3, x 4, x 5, x 6, x 7, x 8, x 9, x 10, x 11, x 12, x 13, x 14, x 15, x 16, x 17, x 18, x 19, x 20, x 21, x 22, x 23, x 24, x 25, x 26, x 27, x 28, x 29, x 30, x 31, x 32, x 33, x 34, x 35, x 36, x 37, x 38, x 39, x 40, x 41, x 42, x 43, x 44, x 45, x 46, x 47, x 48, x 49, x 50, x 51, x 52, x 53, x 54, x 55, x 56, x 57, x 58, x 59, x 60, x 61, x 62, x 63, x 64, x 65, x 66, x 67, x 68, x 69, x 70, x 71, x 72, x 73, x 74, x 75, x 76, x 77, x 78, x 79, x 80, x 81, x 82, x 83, x 84, x 85, x 86, x 87, x 88, x 89, x 90, x 91, x 92, x 93, x 94, x 95, x 96, x 97, x 98, x 99, x 100, x 101, x 102, x 103, x 104, x 105, x 106, x 107, x 108, x 109, x 110, x 111, x 112, x 113, x 114, x 115, x 116, .pointer (some ⟨w.heap.size, 1, none⟩), x 118, x 119, x 120, x 121, x 122, x 123, x 124, x 125, x 126, x 127, x 128, x 129, x 130, x 131, x 132, x 133, x 134, x 135, x 136, x 137, x 138, x 139, x 140, x 141, x 142, x 143, x 144, x 145, x 146], defers := [] } wa := hK _ _ hW (by rw [if_neg (by decide)]) rfl
          rw [E2.out] at hk
          exact hk
        · -- operation 9
          simp only [List.getElem?_toArray, List.getElem?_cons_succ, List.getElem?_cons_zero, Option.some.injEq] at ho
          subst ho
          have p8 : (x 117) = .pointer (some ⟨w.heap.size, 1, none⟩) := hdep 8 (List.mem_of_elem_eq_true (by kernel_rfl))
          clear hdep hgd hbef
          obtain ⟨f0, f1, f2⟩ := (HF6.out.below hW (by have := HGB.out; omega)).cell3
          unfold fr147
          rw [p8]
          go_simp
          have hk : K { tmps := #[x 0, x 1, x 2, x 3, x 4, x 5, x 6, x 7, x 8, x 9, x 10, x 11, x 12, x 13, x 14, x 15, x 16, x 17, x 18, x 19, x 20, x 21, x 22, x 23, x 24, x 25, x 26, x 27, x 28, x 29, x 30, x 31, x 32, x 33, x 34, x 35, x 36, x 37, x 38, x 39, x 40, x 41, x 42, x 43, x 44, x 45, x 46, x 47, x 48, x 49, x 50, x 51, x 52, x 53, x 54, x 55, x 56, x 57, x 58, x 59, x 60, x 61, x 62, x 63, x 64, x 65, x 66, x 67, x 68, x 69, x 70, x 71, x 72, x 73, x 74, x 75, x 76, x 77, x 78, x 79, x 80, x 81, x 82, x 83, x 84, x 85, x 86, x 87, x 88, x 89, x 90, x 91, x 92, x 93, x 94, x 95, x 96, x 97, x 98, x 99, x 100, x 101, x 102, x 103, x 104, x 105, x 106, x 107, x 108, x 109, x 110, x 111, x 112, x 113, x 114, x 115, x 116, x 117, .slice (some ⟨gF, 0, none⟩) fs.F.length b2, x 119, x 120, x 121, x 122, x 123, x 124, x 125, x 126, x 127, x 128, x 129, x 130, x 131, x 132, x 133, x 134, x 135, x 136, x 137, x 138, x 139, x 140, x 141, x 142, x 143, x 144, x 145, x 146], defers := [] } wa := hK _ _ hW (by rw [if_neg (by decide)]) rfl
          rw [p8] at hk
          exact hk
        · -- operation 10
          simp only [List.getElem?_toArray, List.getElem?_cons_succ, List.getElem?_cons_zero, Option.some.injEq] at ho
          subst ho
          clear hdep hgd hbef
          unfold fr147
          rw [E10.out]
          go_simp
          have hk : K { tmps := #[x 0, x 1, x 2, x 3, x 4, x 5, x 6, x 7, x 8, x 9, x 10, x 11, x 12, x 13, x 14, x 15, x 16, x 17, x 18, x 19, x 20, x 21, x 22, x 23, x 24, x 25, x 26, x 27, x 28, x 29, x 30, x 31, x 32, x 33, x 34, x 35, x 36, x 37, x 38, x 39, x 40, x 41, x 42, x 43, x 44, x 45, x 46, x 47, x 48, x 49, x 50, x 51, x 52, x 53, x 54, x 55, x 56, x 57, x 58, x 59, x 60, x 61, x 62, x 63, x 64, x 65, x 66, x 67, x 68, x 69, x 70, x 71, x 72, x 73, x 74, x 75, x 76, x 77, x 78, x 79, x 80, x 81, x 82, x 83, x 84, x 85, x 86, x 87, x 88, x 89, x 90, x 91, x 92, x 93, x 94, x 95, x 96, x 97, x 98, x 99, x 100, x 101, x 102, x 103, x 104, x 105, x 106, x 107, x 108, x 109, x 110, x 111, x 112, x 113, x 114, x 115, x 116, x 117, x 118, .int .i64 (kf : Int), x 120, x 121, x 122, x 123, x 124, x 125, x 126, x 127, x 128, x 129, x 130, x 131, x 132, x 133, x 134, x 135, x 136, x 137, x 138, x 139, x 140, x 141, x 142, x 143, x 144, x 145, x 146], defers := [] } wa := hK _ _ hW (by rw [if_neg (by decide)]) rfl
          rw [E10.out] at hk
          exact hk
        · -- operation 11
          simp only [List.getElem?_toArray, List.getElem?_cons_succ, List.getElem?_cons_zero, Option.some.injEq] at ho
          subst ho
          have p9 : (x 118) = .slice (some ⟨gF, 0, none⟩) fs.F.length b2 := hdep 9 (List.mem_of_elem_eq_true (by kernel_rfl))
          have p10 : (x 119) = .int .i64 (kf : Int) := hdep 10 (List.mem_of_elem_eq_true (by kernel_rfl))
          clear hdep hgd hbef
          unfold fr147
          rw [p9, p10]
          go_simp
          have hk : K { tmps := #[x 0, x 1, x 2, x 3, x 4, x 5, x 6, x 7, x 8, x 9, x 10, x 11, x 12, x 13, x 14, x 15, x 16, x 17, x 18, x 19, x 20, x 21, x 22, x 23, x 24, x 25, x 26, x 27, x 28, x 29, x 30, x 31, x 32, x 33, x 34, x 35, x 36, x 37, x 38, x 39, x 40, x 41, x 42, x 43, x 44, x 45, x 46, x 47, x 48, x 49, x 50, x 51, x 52, x 53, x 54, x 55, x 56, x 57, x 58, x 59, x 60, x 61, x 62, x 63, x 64, x 65, x 66, x 67, x 68, x 69, x 70, x 71, x 72, x 73, x 74, x 75, x 76, x 77, x 78, x 79, x 80, x 81, x 82, x 83, x 84, x 85, x 86, x 87, x 88, x 89, x 90, x 91, x 92, x 93, x 94, x 95, x 96, x 97, x 98, x 99, x 100, x 101, x 102, x 103, x 104, x 105, x 106, x 107, x 108, x 109, x 110, x 111, x 112, x 113, x 114, x 115, x 116, x 117, x 118, x 119, .pointer (some ⟨gF, kf * 5, none⟩), x 121, x 122, x 123, x 124, x 125, x 126, x 127, x 128, x 129, x 130, x 131, x 132, x 133, x 134, x 135, x 136, x 137, x 138, x 139, x 140, x 141, x 142, x 143, x 144, x 145, x 146], defers := [] } wa := hK _ _ hW (by rw [if_neg (by decide)]) rfl
          rw [p9, p10] at hk
          exact hk
        · -- operation 12
          simp only [List.getElem?_toArray, List.getElem?_cons_succ, List.getElem?_cons_zero, Option.some.injEq] at ho
          subst ho
          have p11 : (x 120) = .pointer (some ⟨gF, kf * 5, none⟩) := hdep 11 (List.mem_of_elem_eq_true (by kernel_rfl))
          clear hdep hgd hbef
          unfold fr147
          rw [p11]
          go_simp
          have hk : K { tmps := #[x 0, x 1, x 2, x 3, x 4, x 5, x 6, x 7, x 8, x 9, x 10, x 11, x 12, x 13, x 14, x 15, x 16, x 17, x 18, x 19, x 20, x 21, x 22, x 23, x 24, x 25, x 26, x 27, x 28, x 29, x 30, x 31, x 32, x 33, x 34, x 35, x 36, x 37, x 38, x 39, x 40, x 41, x 42, x 43, x 44, x 45, x 46, x 47, x 48, x 49, x 50, x 51, x 52, x 53, x 54, x 55, x 56, x 57, x 58, x 59, x 60, x 61, x 62, x 63, x 64, x 65, x 66, x 67, x 68, x 69, x 70, x 71, x 72, x 73, x 74, x 75, x 76, x 77, x 78, x 79, x 80, x 81, x 82, x 83, x 84, x 85, x 86, x 87, x 88, x 89, x 90, x 91, x 92, x 93, x 94, x 95, x 96, x 97, x 98, x 99, x 100, x 101, x 102, x 103, x 104, x 105, x 106, x 107, x 108, x 109, x 110, x 111, x 112, x 113, x 114, x 115, x 116, x 117, x 118, x 119, x 120, .pointer (some ⟨gF, kf * 5 + 4, none⟩), x 122, x 123, x 124, x 125, x 126, x 127, x 128, x 129, x 130, x 131, x 132, x 133, x 134, x 135, x 136, x 137, x 138, x 139, x 140, x 141, x 142, x 143, x 144, x 145, x 146], defers := [] } wa := hK _ _ hW (by rw [if_neg (by decide)]) rfl
          rw [p11] at hk
          exact hk
        · -- operation 13
          simp only [List.getElem?_toArray, List.getElem?_cons_succ, List.getElem?_cons_zero, Option.some.injEq] at ho
          subst ho
          have p12 : (x 121) = .pointer (some ⟨gF, kf * 5 + 4, none⟩) := hdep 12 (List.mem_of_elem_eq_true (by kernel_rfl))
          have e18 : Below w6.heap.size w6 wa := hbef 18 (by decide) (by kernel_rfl)
          clear hdep hgd hbef
          have c4 := HC4.out wa e18
          unfold fr147
          rw [p12]
          go_simp
          have hk : K { tmps := #[x 0, x 1, x 2, x 3, x 4, x 5, x 6, x 7, x 8, x 9, x 10, x 11, x 12, x 13, x 14, x 15, x 16, x 17, x 18, x 19, x 20, x 21, x 22, x 23, x 24, x 25, x 26, x 27, x 28, x 29, x 30, x 31, x 32, x 33, x 34, x 35, x 36, x 37, x 38, x 39, x 40, x 41, x 42, x 43, x 44, x 45, x 46, x 47, x 48, x 49, x 50, x 51, x 52, x 53, x 54, x 55, x 56, x 57, x 58, x 59, x 60, x 61, x 62, x 63, x 64, x 65, x 66, x 67, x 68, x 69, x 70, x 71, x 72, x 73, x 74, x 75, x 76, x 77, x 78, x 79, x 80, x 81, x 82, x 83, x 84, x 85, x 86, x 87, x 88, x 89, x 90, x 91, x 92, x 93, x 94, x 95, x 96, x 97, x 98, x 99, x 100, x 101, x 102, x 103, x 104, x 105, x 106, x 107, x 108, x 109, x 110, x 111, x 112, x 113, x 114, x 115, x 116, x 117, x 118, x 119, x 120, x 121, .int .i64 y, x 123, x 124, x 125, x 126, x 127, x 128, x 129, x 130, x 131, x 132, x 133, x 134, x 135, x 136, x 137, x 138, x 139, x 140, x 141, x 142, x 143, x 144, x 145, x 146], defers := [] } wa := hK _ _ hW (by rw [if_neg (by decide)]) rfl
          rw [p12] at hk
          exact hk
        · -- operation 14
          simp only [List.getElem?_toArray, List.getElem?_cons_succ, List.getElem?_cons_zero, Option.some.injEq] at ho
          subst ho
          have p7 : (x 116) = .int .i64 n := hdep 7 (List.mem_of_elem_eq_true (by kernel_rfl))
          have p13 : (x 122) = .int .i64 y := hdep 13 (List.mem_of_elem_eq_true (by kernel_rfl))
          clear hdep hgd hbef
          unfold fr147
          rw [p7, p13]
          go_simp
          have hk : K { tmps := #[x 0, x 1, x 2, x 3, x 4, x 5, x 6, x 7, x 8, x 9, x 10, x 11, x 12, x 13, x 14, x 15, x 16, x 17, x 18, x 19, x 20, x 21, x 22, x 23, x 24, x 25, x 26, x 27, x 28, x 29, x 30, x 31, x 32, x 33, x 34, x 35, x 36, x 37, x 38, x 39, x 40, x 41, x 42, x 43, x 44, x 45, x 46, x 47, x 48, x 49, x 50, x 51, x 52, x 53, x 54, x 55, x 56, x 57, x 58, x 59, x 60, x 61, x 62, x 63, x 64, x 65, x 66, x 67, x 68, x 69, x 70, x 71, x 72, x 73, x 74, x 75, x 76, x 77, x 78, x 79, x 80, x 81, x 82, x 83, x 84, x 85, x 86, x 87, x 88, x 89, x 90, x 91, x 92, x 93, x 94, x 95, x 96, x 97, x 98, x 99, x 100, x 101, x 102, x 103, x 104, x 105, x 106, x 107, x 108, x 109, x 110, x 111, x 112, x 113, x 114, x 115, x 116, x 117, x 118, x 119, x 120, x 121, x 122, .int .i64 (min n y), x 124, x 125, x 126, x 127, x 128, x 129, x 130, x 131, x 132, x 133, x 134, x 135, x 136, x 137, x 138, x 139, x 140, x 141, x 142, x 143, x 144, x 145, x 146], defers := [] } wa := hK _ _ hW (by rw [if_neg (by decide)]) rfl
          rw [p7, p13] at hk
          exact hk
        · -- operation 15
          simp only [List.getElem?_toArray, List.getElem?_cons_succ, List.getElem?_cons_zero, Option.some.injEq] at ho
          subst ho
          have p5 : (x 114) = .int .i64 y := hdep 5 (List.mem_of_elem_eq_true (by kernel_rfl))
          have p14 : (x 123) = .int .i64 (min n y) := hdep 14 (List.mem_of_elem_eq_true (by kernel_rfl))
          clear hdep hgd hbef
          have hwr : IntKind.i64.wrap (y - min n y) = y - min n y := IntWalk.i64_in _ (by omega)
          unfold fr147
          rw [p5, p14]
          go_simp
          have hk : K { tmps := #[x 0, x 1, x 2, x 3, x 4, x 5, x 6, x 7, x 8, x 9, x 10, x 11, x 12, x 13, x 14, x 15, x 16, x 17, x 18, x 19, x 20, x 21, x 22, x 23, x 24, x 25, x 26, x 27, x 28, x 29, x 30, x 31, x 32, x 33, x 34, x 35, x 36, x 37, x 38, x 39, x 40, x 41, x 42, x 43, x 44, x 45, x 46, x 47, x 48, x 49, x 50, x 51, x 52, x 53, x 54, x 55, x 56, x 57, x 58, x 59, x 60, x 61, x 62, x 63, x 64, x 65, x 66, x 67, x 68, x 69, x 70, x 71, x 72, x 73, x 74, x 75, x 76, x 77, x 78, x 79, x 80, x 81, x 82, x 83, x 84, x 85, x 86, x 87, x 88, x 89, x 90, x 91, x 92, x 93, x 94, x 95, x 96, x 97, x 98, x 99, x 100, x 101, x 102, x 103, x 104, x 105, x 106, x 107, x 108, x 109, x 110, x 111, x 112, x 113, x 114, x 115, x 116, x 117, x 118, x 119, x 120, x 121, x 122, x 123, .int .i64 (y - min n y), x 125, x 126, x 127, x 128, x 129, x 130, x 131, x 132, x 133, x 134, x 135, x 136, x 137, x 138, x 139, x 140, x 141, x 142, x 143, x 144, x 145, x 146], defers := [] } wa := hK _ _ hW (by rw [if_neg (by decide)]) rfl
          rw [p5, p14] at hk
          exact hk
        · -- operation 16
          simp only [List.getElem?_toArray, List.getElem?_cons_succ, List.getElem?_cons_zero, Option.some.injEq] at ho
          subst ho
          have p1 : (x 110) = .slice (some ⟨gF, 0, none⟩) fs.F.length b2 := hdep 1 (List.mem_of_elem_eq_true (by kernel_rfl))
          have p2 : (x 111) = .int .i64 (kf : Int) := hdep 2 (List.mem_of_elem_eq_true (by kernel_rfl))
          clear hdep hgd hbef
          unfold fr147
          rw [p1, p2]
          go_simp
          have hk : K { tmps := #[x 0, x 1, x 2, x 3, x 4, x 5, x 6, x 7, x 8, x 9, x 10, x 11, x 12, x 13, x 14, x 15, x 16, x 17, x 18, x 19, x 20, x 21, x 22, x 23, x 24, x 25, x 26, x 27, x 28, x 29, x 30, x 31, x 32, x 33, x 34, x 35, x 36, x 37, x 38, x 39, x 40, x 41, x 42, x 43, x 44, x 45, x 46, x 47, x 48, x 49, x 50, x 51, x 52, x 53, x 54, x 55, x 56, x 57, x 58, x 59, x 60, x 61, x 62, x 63, x 64, x 65, x 66, x 67, x 68, x 69, x 70, x 71, x 72, x 73, x 74, x 75, x 76, x 77, x 78, x 79, x 80, x 81, x 82, x 83, x 84, x 85, x 86, x 87, x 88, x 89, x 90, x 91, x 92, x 93, x 94, x 95, x 96, x 97, x 98, x 99, x 100, x 101, x 102, x 103, x 104, x 105, x 106, x 107, x 108, x 109, x 110, x 111, x 112, x 113, x 114, x 115, x 116, x 117, x 118, x 119, x 120, x 121, x 122, x 123, x 124, .pointer (some ⟨gF, kf * 5, none⟩), x 126, x 127, x 128, x 129, x 130, x 131, x 132, x 133, x 134, x 135, x 136, x 137, x 138, x 139, x 140, x 141, x 142, x 143, x 144, x 145, x 146], defers := [] } wa := hK _ _ hW (by rw [if_neg (by decide)]) rfl
          rw [p1, p2] at hk
          exact hk
        · -- operation 17
          simp only [List.getElem?_toArray, List.getElem?_cons_succ, List.getElem?_cons_zero, Option.some.injEq] at ho
          subst ho
          have p16 : (x 125) = .pointer (some ⟨gF, kf * 5, none⟩) := hdep 16 (List.mem_of_elem_eq_true (by kernel_rfl))
          clear hdep hgd hbef
          unfold fr147
          rw [p16]
          go_simp
          have hk : K { tmps := #[x 0, x 1, x 2, x 3, x 4, x 5, x 6, x 7, x 8, x 9, x 10, x 11, x 12, x 13, x 14, x 15, x 16, x 17, x 18, x 19, x 20, x 21, x 22, x 23, x 24, x 25, x 26, x 27, x 28, x 29, x 30, x 31, x 32, x 33, x 34, x 35, x 36, x 37, x 38, x 39, x 40, x 41, x 42, x 43, x 44, x 45, x 46, x 47, x 48, x 49, x 50, x 51, x 52, x 53, x 54, x 55, x 56, x 57, x 58, x 59, x 60, x 61, x 62, x 63, x 64, x 65, x 66, x 67, x 68, x 69, x 70, x 71, x 72, x 73, x 74, x 75, x 76, x 77, x 78, x 79, x 80, x 81, x 82, x 83, x 84, x 85, x 86, x 87, x 88, x 89, x 90, x 91, x 92, x 93, x 94, x 95, x 96, x 97, x 98, x 99, x 100, x 101, x 102, x 103, x 104, x 105, x 106, x 107, x 108, x 109, x 110, x 111, x 112, x 113, x 114, x 115, x 116, x 117, x 118, x 119, x 120, x 121, x 122, x 123, x 124, x 125, .pointer (some ⟨gF, kf * 5 + 4, none⟩), x 127, x 128, x 129, x 130, x 131, x 132, x 133, x 134, x 135, x 136, x 137, x 138, x 139, x 140, x 141, x 142, x 143, x 144, x 145, x 146], defers := [] } wa := hK _ _ hW (by rw [if_neg (by decide)]) rfl
          rw [p16] at hk
          exact hk
        · -- operation 18
          simp only [List.getElem?_toArray, List.getElem?_cons_succ, List.getElem?_cons_zero, Option.some.injEq] at ho
          subst ho
          have p17 : (x 126) = .pointer (some ⟨gF, kf * 5 + 4, none⟩) := hdep 17 (List.mem_of_elem_eq_true (by kernel_rfl))
          have p15 : (x 124) = .int .i64 (y - min n y) := hdep 15 (List.mem_of_elem_eq_true (by kernel_rfl))
          have e18 : Below w6.heap.size w6 wa := hbef 18 (by decide) (by kernel_rfl)
          clear hdep hgd hbef
          have hS := HS6.out.up e18
          have hof := hS.f
          obtain ⟨c0, c1, c2, c3, c4⟩ := own_fiCells hof rfl HKF.out
          obtain ⟨z4, c4⟩ : ∃ z, wa.cell? ⟨gF, kf * 5 + 4, none⟩ = some z := ⟨_, c4⟩
          clear c0 c1 c2 c3
          have hfz : wa.frozen? ⟨gF, kf * 5 + 4, none⟩ = false := own_frozen hof rfl _
          have hS8 := HSETT.out wa e18
          have hk : K { tmps := #[x 0, x 1, x 2, x 3, x 4, x 5, x 6, x 7, x 8, x 9, x 10, x 11, x 12, x 13, x 14, x 15, x 16, x 17, x 18, x 19, x 20, x 21, x 22, x 23, x 24, x 25, x 26, x 27, x 28, x 29, x 30, x 31, x 32, x 33, x 34, x 35, x 36, x 37, x 38, x 39, x 40, x 41, x 42, x 43, x 44, x 45, x 46, x 47, x 48, x 49, x 50, x 51, x 52, x 53, x 54, x 55, x 56, x 57, x 58, x 59, x 60, x 61, x 62, x 63, x 64, x 65, x 66, x 67, x 68, x 69, x 70, x 71, x 72, x 73, x 74, x 75, x 76, x 77, x 78, x 79, x 80, x 81, x 82, x 83, x 84, x 85, x 86, x 87, x 88, x 89, x 90, x 91, x 92, x 93, x 94, x 95, x 96, x 97, x 98, x 99, x 100, x 101, x 102, x 103, x 104, x 105, x 106, x 107, x 108, x 109, x 110, x 111, x 112, x 113, x 114, x 115, x 116, x 117, x 118, x 119, x 120, x 121, x 122, x 123, x 124, x 125, x 126, x 127, x 128, x 129, x 130, x 131, x 132, x 133, x 134, x 135, x 136, x 137, x 138, x 139, x 140, x 141, x 142, x 143, x 144, x 145, x 146], defers := [] } (wa.setCell ⟨gF, kf * 5 + 4, none⟩ (.int .i64 (y - min n y))) := hK undef _ (hW.setCell (p := ⟨gF, kf * 5 + 4, none⟩) hgB _) (by rw [if_pos rfl]; trivial) hS8
          unfold fr147
          rw [p17, p15]
          rw [p17, p15] at hk
          clear hS8 hS hof
          go_simp
          exact hk
      case skip =>
        intro i o j b ho hgd
        have hi : i < 19 := (Array.getElem?_eq_some_iff.1 ho).1
        have hcase : i = 0 ∨ i = 1 ∨ i = 2 ∨ i = 3 ∨ i = 4 ∨ i = 5 ∨ i = 6 ∨ i = 7 ∨ i = 8 ∨ i = 9 ∨ i = 10 ∨ i = 11 ∨ i = 12 ∨ i = 13 ∨ i = 14 ∨ i = 15 ∨ i = 16 ∨ i = 17 ∨ i = 18 := by omega
        rcases hcase with rfl | rfl | rfl | rfl | rfl | rfl | rfl | rfl | rfl | rfl | rfl | rfl | rfl | rfl | rfl | rfl | rfl | rfl | rfl <;> (simp only [List.getElem?_toArray, List.getElem?_cons_succ, List.getElem?_cons_zero, Option.some.injEq] at ho; subst ho; cases hgd)
      case done =>
        intro x wd hout hW hall
        have hSx : FsO wd B (.slice B1 fs.N.length b1) (.slice (some ⟨gF, 0, none⟩) fs.F.length b2) (.slice B3 fs.O.length b3) (⟨fs.N, fs.F.set kf ⟨fs.F[kf].ino, fs.F[kf].dv, fs.F[kf].data, true, false, y - min n y⟩, fs.O⟩ : FS) := hall 18 (by decide)
        have HS7 := keep hSx
        have HF7 := keep (HF6.out.below hW (by have := HGB.out; omega))
        have HX7 := keep (HX6.out.below hW (by have := HGB.out; omega))
        have HZ7 := keep (HZ6.out.below hW (by have := HGB.out; omega))
        have HB7 := keep (HB6.out.trans (hW.mono (by have := HGB.out; omega)))
        unfold fr147
        rw [(hout 0 (by decide)).trans (hx0 0), (hout 1 (by decide)).trans (hx0 1), (hout 2 (by decide)).trans (hx0 2), (hout 3 (by decide)).trans (hx0 3), (hout 4 (by decide)).trans (hx0 4), (hout 5 (by decide)).trans (hx0 5), (hout 6 (by decide)).trans (hx0 6), (hout 7 (by decide)).trans (hx0 7), (hout 8 (by decide)).trans (hx0 8), (hout 9 (by decide)).trans (hx0 9), (hout 10 (by decide)).trans (hx0 10), (hout 11 (by decide)).trans (hx0 11), (hout 12 (by decide)).trans (hx0 12), (hout 13 (by decide)).trans (hx0 13), (hout 14 (by decide)).trans (hx0 14), (hout 15 (by decide)).trans (hx0 15), (hout 16 (by decide)).trans (hx0 16), (hout 17 (by decide)).trans (hx0 17), (hout 18 (by decide)).trans (hx0 18), (hout 19 (by decide)).trans (hx0 19), (hout 20 (by decide)).trans (hx0 20), (hout 21 (by decide)).trans (hx0 21), (hout 22 (by decide)).trans (hx0 22), (hout 23 (by decide)).trans (hx0 23), (hout 24 (by decide)).trans (hx0 24), (hout 25 (by decide)).trans (hx0 25), (hout 26 (by decide)).trans (hx0 26), (hout 27 (by decide)).trans (hx0 27), (hout 28 (by decide)).trans (hx0 28), (hout 29 (by decide)).trans (hx0 29), (hout 30 (by decide)).trans (hx0 30), (hout 31 (by decide)).trans (hx0 31), (hout 32 (by decide)).trans (hx0 32), (hout 33 (by decide)).trans (hx0 33), (hout 34 (by decide)).trans (hx0 34), (hout 35 (by decide)).trans (hx0 35), (hout 36 (by decide)).trans (hx0 36), (hout 37 (by decide)).trans (hx0 37), (hout 38 (by decide)).trans (hx0 38), (hout 39 (by decide)).trans (hx0 39), (hout 40 (by decide)).trans (hx0 40), (hout 41 (by decide)).trans (hx0 41), (hout 42 (by decide)).trans (hx0 42), (hout 43 (by decide)).trans (hx0 43), (hout 44 (by decide)).trans (hx0 44), (hout 45 (by decide)).trans (hx0 45), (hout 46 (by decide)).trans (hx0 46), (hout 47 (by decide)).trans (hx0 47), (hout 48 (by decide)).trans (hx0 48), (hout 49 (by decide)).trans (hx0 49), (hout 50 (by decide)).trans (hx0 50), (hout 51 (by decide)).trans (hx0 51), (hout 52 (by decide)).trans (hx0 52), (hout 53 (by decide)).trans (hx0 53), (hout 54 (by decide)).trans (hx0 54), (hout 55 (by decide)).trans (hx0 55), (hout 56 (by decide)).trans (hx0 56), (hout 57 (by decide)).trans (hx0 57), (hout 58 (by decide)).trans (hx0 58), (hout 59 (by decide)).trans (hx0 59), (hout 60 (by decide)).trans (hx0 60), (hout 61 (by decide)).trans (hx0 61), (hout 62 (by decide)).trans (hx0 62), (hout 63 (by decide)).trans (hx0 63), (hout 64 (by decide)).trans (hx0 64), (hout 65 (by decide)).trans (hx0 65), (hout 66 (by decide)).trans (hx0 66), (hout 67 (by decide)).trans (hx0 67), (hout 68 (by decide)).trans (hx0 68), (hout 69 (by decide)).trans (hx0 69), (hout 70 (by decide)).trans (hx0 70), (hout 71 (by decide)).trans (hx0 71), (hout 72 (by decide)).trans (hx0 72), (hout 73 (by decide)).trans (hx0 73), (hout 74 (by decide)).trans (hx0 74), (hout 75 (by decide)).trans (hx0 75), (hout 76 (by decide)).trans (hx0 76), (hout 77 (by decide)).trans (hx0 77), (hout 78 (by decide)).trans (hx0 78), (hout 79 (by decide)).trans (hx0 79), (hout 80 (by decide)).trans (hx0 80), (hout 81 (by decide)).trans (hx0 81), (hout 82 (by decide)).trans (hx0 82), (hout 83 (by decide)).trans (hx0 83), (hout 84 (by decide)).trans (hx0 84), (hout 85 (by decide)).trans (hx0 85), (hout 86 (by decide)).trans (hx0 86), (hout 87 (by decide)).trans (hx0 87), (hout 88 (by decide)).trans (hx0 88), (hout 89 (by decide)).trans (hx0 89), (hout 90 (by decide)).trans (hx0 90), (hout 91 (by decide)).trans (hx0 91), (hout 92 (by decide)).trans (hx0 92), (hout 93 (by decide)).trans (hx0 93), (hout 94 (by decide)).trans (hx0 94), (hout 95 (by decide)).trans (hx0 95), (hout 96 (by decide)).trans (hx0 96), (hout 97 (by decide)).trans (hx0 97), (hout 98 (by decide)).trans (hx0 98), (hout 99 (by decide)).trans (hx0 99), (hout 100 (by decide)).trans (hx0 100), (hout 101 (by decide)).trans (hx0 101), (hout 102 (by decide)).trans (hx0 102), (hout 103 (by decide)).trans (hx0 103), (hout 104 (by decide)).trans (hx0 104), (hout 105 (by decide)).trans (hx0 105), (hout 106 (by decide)).trans (hx0 106), (hout 107 (by decide)).trans (hx0 107), (hout 108 (by decide)).trans (hx0 108), (hout 127 (by decide)).trans (hx0 127), (hout 128 (by decide)).trans (hx0 128), (hout 129 (by decide)).trans (hx0 129), (hout 130 (by decide)).trans (hx0 130), (hout 131 (by decide)).trans (hx0 131), (hout 132 (by decide)).trans (hx0 132), (hout 133 (by decide)).trans (hx0 133), (hout 134 (by decide)).trans (hx0 134), (hout 135 (by decide)).trans (hx0 135), (hout 136 (by decide)).trans (hx0 136), (hout 137 (by decide)).trans (hx0 137), (hout 138 (by decide)).trans (hx0 138), (hout 139 (by decide)).trans (hx0 139), (hout 140 (by decide)).trans (hx0 140), (hout 141 (by decide)).trans (hx0 141), (hout 142 (by decide)).trans (hx0 142), (hout 143 (by decide)).trans (hx0 143), (hout 144 (by decide)).trans (hx0 144), (hout 145 (by decide)).trans (hx0 145), (hout 146 (by decide)).trans (hx0 146)]
        simp only [Array.getD_eq_getD_getElem?, List.getElem?_toArray, List.getElem?_cons_succ, List.getElem?_cons_zero, Option.getD_some]
        clear hall hout hx0 y2 y3 y10
        have HKF7 : Hid (kf < (⟨fs.N, fs.F.set kf ⟨fs.F[kf].ino, fs.F[kf].dv, fs.F[kf].data, true, false, y - min n y⟩, fs.O⟩ : FS).F.length) := keep (by show kf < (fs.F.set kf ⟨fs.F[kf].ino, fs.F[kf].dv, fs.F[kf].data, true, false, y - min n y⟩).length; rw [List.length_set]; exact HKF.out)
        have hof7 : wd.ownsRow B 72 5 (.slice (some ⟨gF, 0, none⟩) fs.F.length b2) fs.F.length (fis (fs.F.set kf ⟨fs.F[kf].ino, fs.F[kf].dv, fs.F[kf].data, true, false, y - min n y⟩)) := by have h : wd.ownsRow B 72 5 (.slice (some ⟨gF, 0, none⟩) fs.F.length b2) (fs.F.set kf ⟨fs.F[kf].ino, fs.F[kf].dv, fs.F[kf].data, true, false, y - min n y⟩).length (fis (fs.F.set kf ⟨fs.F[kf].ino, fs.F[kf].dv, fs.F[kf].data, true, false, y - min n y⟩)) := HS7.out.f; rwa [List.length_set] at h
        obtain ⟨c0, c1, c2, c3, c4⟩ := own_fiCells hof7 (by rw [List.length_set]) HKF7.out
        simp only [List.getElem_set_self] at c4
        have HGL7 : Hid (gF < wd.heap.size) := keep (by have := World.block_lt_of_cell? wd _ c4; simpa using this)
        have HC4 : Hid (∀ wx, Below wd.heap.size wd wx → wx.cell? ⟨gF, kf * 5 + 4, none⟩ = some (.int .i64 (y - min n y))) := keep (fun wx hx => (hx.cell (p := ⟨gF, kf * 5 + 4, none⟩) HGL7.out).trans c4)
        have hd7 := HS7.out.d ⟨fs.F[kf].ino, fs.F[kf].dv, fs.F[kf].data, true, false, y - min n y⟩ (by show _ ∈ fs.F.set kf _; exact List.mem_iff_getElem.2 ⟨kf, by rw [List.length_set]; exact HKF.out, List.getElem_set_self _⟩)
        have HSETT : Hid (∀ wa, Below wd.heap.size wd wa → FsO (wa.setCell ⟨gF, kf * 5 + 3, none⟩ (.bool (y - min n y == 0))) B (.slice B1 fs.N.length b1) (.slice (some ⟨gF, 0, none⟩) fs.F.length b2) (.slice B3 fs.O.length b3) (⟨fs.N, fs.F.set kf ⟨fs.F[kf].ino, fs.F[kf].dv, fs.F[kf].data, true, y - min n y == 0, y - min n y⟩, fs.O⟩ : FS)) := keep (fun wa h => by
          have hS8 := fset (k := kf) (j := 3) (u := .bool (y - min n y == 0)) (a := ⟨fs.F[kf].ino, fs.F[kf].dv, fs.F[kf].data, true, y - min n y == 0, y - min n y⟩) (HS7.out.up h) rfl HKF7.out (by omega) (by simp only [List.getElem_set_self]; rfl) (hd7.up h)
          rw [List.set_set] at hS8
          exact hS8)
        clear c0 c1 c2 c3 c4 hof7 hd7 hSx hW
        obtain ⟨w7, hw7⟩ : ∃ w7, w7 = wd := ⟨_, rfl⟩
        subst hw7
        go_upto_region 25 with fail
        refine reg_start 147 fr147 (fun _ => rfl) _ rfl fun x0 hx0 => ?_
        have y2 : x0 2 = .pointer (some ⟨w.heap.size, 0, none⟩) := hx0 2
        have y3 : x0 3 = .pointer (some ⟨w.heap.size + 1, 0, none⟩) := hx0 3
        have y10 : x0 10 = .int .i64 (kf : Int) := hx0 10
        refine wp_regV (by kernel_rfl) 147 (fun i =>  i) (by kernel_rfl) fr147 (fun _ => rfl) x0 (fun wa => Below B w7 wa) (fun i a b => if i = 12 then True else a = b) (fun i v u wa => match i with
            | 0 => v = .pointer (some ⟨w.heap.size, 1, none⟩)
            | 1 => v = .slice (some ⟨gF, 0, none⟩) fs.F.length b2
            | 2 => v = .int .i64 (kf : Int)
            | 3 => v = .pointer (some ⟨w.heap.size, 1, none⟩)
            | 4 => v = .slice (some ⟨gF, 0, none⟩) fs.F.length b2
            | 5 => v = .int .i64 (kf : Int)
            | 6 => v = .pointer (some ⟨gF, kf * 5, none⟩)
            | 7 => v = .pointer (some ⟨gF, kf * 5 + 4, none⟩)
            | 8 => v = .int .i64 (y - min n y)
            | 9 => v = .bool (y - min n y == 0)
            | 10 => v = .pointer (some ⟨gF, kf * 5, none⟩)
            | 11 => v = .pointer (some ⟨gF, kf * 5 + 3, none⟩)
            | 12 => FsO wa B (.slice B1 fs.N.length b1) (.slice (some ⟨gF, 0, none⟩) fs.F.length b2) (.slice B3 fs.O.length b3) (⟨fs.N, fs.F.set kf ⟨fs.F[kf].ino, fs.F[kf].dv, fs.F[kf].data, true, y - min n y == 0, y - min n y⟩, fs.O⟩ : FS)
            | _ => True) (fun m wa => if m = 12 then Below w7.heap.size w7 wa else True) (fun m => by
            split
            · exact below_drewN (Below.refl _ w7) 1
            · trivial) (fun i m wa wb hne hmn h => by
            by_cases h2 : m = 12
            · rw [if_pos h2] at h ⊢
              rw [if_neg (fun e => hne (e.trans h2.symm))] at hmn
              exact hmn ▸ h
            · rw [if_neg h2]; trivial) (by
              intro i j v u wa wb hbf hmn hp
              match j, hp with
              | 0, hp => exact hp
              | 1, hp => exact hp
              | 2, hp => exact hp
              | 3, hp => exact hp
              | 4, hp => exact hp
              | 5, hp => exact hp
              | 6, hp => exact hp
              | 7, hp => exact hp
              | 8, hp => exact hp
              | 9, hp => exact hp
              | 10, hp => exact hp
              | 11, hp => exact hp
              | 12, hp =>
                by_cases h14 : i = 12
                · subst h14
                  exact absurd hbf (fun hbf => by exact Bool.false_ne_true (hbf.symm.trans (by kernel_rfl)))
                · rw [if_neg h14] at hmn
                  exact hmn ▸ hp
              | _ + 13, hp => trivial) (below_drewN (Below.refl B w7) 1) ?step ?skip ?done
        case step =>
          intro i o ho x wa K hW hbef hout hdep hgd hK
          have E2 : Hid (x 2 = .pointer (some ⟨w.heap.size, 0, none⟩)) := keep ((hout 2 (by decide)).trans y2)
          have E3 : Hid (x 3 = .pointer (some ⟨w.heap.size + 1, 0, none⟩)) := keep ((hout 3 (by decide)).trans y3)
          have E10 : Hid (x 10 = .int .i64 (kf : Int)) := keep ((hout 10 (by decide)).trans y10)
          clear hout hx0 y2 y3 y10
          have hi : i < 13 := (Array.getElem?_eq_some_iff.1 ho).1
          have hcase : i = 0 ∨ i = 1 ∨ i = 2 ∨ i = 3 ∨ i = 4 ∨ i = 5 ∨ i = 6 ∨ i = 7 ∨ i = 8 ∨ i = 9 ∨ i = 10 ∨ i = 11 ∨ i = 12 := by omega
          clear hi
          rcases hcase with rfl | rfl | rfl | rfl | rfl | rfl | rfl | rfl | rfl | rfl | rfl | rfl | rfl
          · -- operation 0
            simp only [List.getElem?_toArray, List.getElem?_cons_zero, Option.some.injEq] at ho
            subst ho
            clear hdep hgd hbef
            unfold fr147
            rw [E2.out]
            go_simp
            have hk : K { tmps := #[x 0, x 1, x 2, x 3, x 4, x 5, x 6, x 7, x 8, x 9, x 10, x 11, x 12, x 13, x 14, x 15, x 16, x 17, x 18, x 19, x 20, x 21, x 22, x 23, x 24, x 25, x 26, x 27, x 28, x 29, x 30, x 31, x 32, x 33, x 34, x 35, x 36, x 37, x 38, x 39, x 40, x 41, x 42, x 43, x 44, x 45, x 46, x 47, x 48, x 49, x 50, x 51, x 52, x 53, x 54, x 55, x 56, x 57, x 58, x 59, x 60, x 61, x 62, x 63, x 64, x 65, x 66, x 67, x 68, x 69, x 70, x 71, x 72, x 73, x 74, x 75, x 76, x 77, x 78, x 79, x 80, x 81, x 82, x 83, x 84, x 85, x 86, x 87, x 88, x 89, x 90, x 91, x 92, x 93, x 94, x 95, x 96, x 97, x 98, x 99, x 100, x 101, x 102, x 103, x 104, x 105, x 106, x 107, x 108, x 109, x 110, x 111, x 112, x 113, x 114, x 115, x 116, x 117, x 118, x 119, x 120, x 121, x 122, x 123, x 124, x 125, x 126, .pointer (some ⟨w.heap.size, 1, none⟩), x 128, x 129, x 130, x 131, x 132, x 133, x 134, x 135, x 136, x 137, x 138, x 139, x 140, x 141, x 142, x 143, x 144, x 145, x 146], defers := [] } wa := hK _ _ hW (by rw [if_neg (by decide)]) rfl
            rw [E2.out] at hk
            exact hk
          · -- operation 1
            simp only [List.getElem?_toArray, List.getElem?_cons_succ, List.getElem?_cons_zero, Option.some.injEq] at ho
            subst ho
            have p0 : (x 127) = .pointer (some ⟨w.heap.size, 1, none⟩) := hdep 0 (List.mem_of_elem_eq_true (by kernel_rfl))
            clear hdep hgd hbef
            obtain ⟨f0, f1, f2⟩ := (HF7.out.below hW (by have := HGB.out; omega)).cell3
            unfold fr147
            rw [p0]
            go_simp
            have hk : K { tmps := #[x 0, x 1, x 2, x 3, x 4, x 5, x 6, x 7, x 8, x 9, x 10, x 11, x 12, x 13, x 14, x 15, x 16, x 17, x 18, x 19, x 20, x 21, x 22, x 23, x 24, x 25, x 26, x 27, x 28, x 29, x 30, x 31, x 32, x 33, x 34, x 35, x 36, x 37, x 38, x 39, x 40, x 41, x 42, x 43, x 44, x 45, x 46, x 47, x 48, x 49, x 50, x 51, x 52, x 53, x 54, x 55, x 56, x 57, x 58, x 59, x 60, x 61, x 62, x 63, x 64, x 65, x 66, x 67, x 68, x 69, x 70, x 71, x 72, x 73, x 74, x 75, x 76, x 77, x 78, x 79, x 80, x 81, x 82, x 83, x 84, x 85, x 86, x 87, x 88, x 89, x 90, x 91, x 92, x 93, x 94, x 95, x 96, x 97, x 98, x 99, x 100, x 101, x 102, x 103, x 104, x 105, x 106, x 107, x 108, x 109, x 110, x 111, x 112, x 113, x 114, x 115, x 116, x 117, x 118, x 119, x 120, x 121, x 122, x 123, x 124, x 125, x 126, x 127, .slice (some ⟨gF, 0, none⟩) fs.F.length b2, x 129, x 130, x 131, x 132, x 133, x 134, x 135, x 136, x 137, x 138, x 139, x 140, x 141, x 142, x 143, x 144, x 145, x 146], defers := [] } wa := hK _ _ hW (by rw [if_neg (by decide)]) rfl
            rw [p0] at hk
            exact hk
          · -- operation 2
            simp only [List.getElem?_toArray, List.getElem?_cons_succ, List.getElem?_cons_zero, Option.some.injEq] at ho
            subst ho
            clear hdep hgd hbef
            unfold fr147
            rw [E10.out]
            go_simp
            have hk : K { tmps := #[x 0, x 1, x 2, x 3, x 4, x 5, x 6, x 7, x 8, x 9, x 10, x 11, x 12, x 13, x 14, x 15, x 16, x 17, x 18, x 19, x 20, x 21, x 22, x 23, x 24, x 25, x 26, x 27, x 28, x 29, x 30, x 31, x 32, x 33, x 34, x 35, x 36, x 37, x 38, x 39, x 40, x 41, x 42, x 43, x 44, x 45, x 46, x 47, x 48, x 49, x 50, x 51, x 52, x 53, x 54, x 55, x 56, x 57, x 58, x 59, x 60, x 61, x 62, x 63, x 64, x 65, x 66, x 67, x 68, x 69, x 70, x 71, x 72, x 73, x 74, x 75, x 76, x 77, x 78, x 79, x 80, x 81, x 82, x 83, x 84, x 85, x 86, x 87, x 88, x 89, x 90, x 91, x 92, x 93, x 94, x 95, x 96, x 97, x 98, x 99, x 100, x 101, x 102, x 103, x 104, x 105, x 106, x 107, x 108, x 109, x 110, x 111, x 112, x 113, x 114, x 115, x 116, x 117, x 118, x 119, x 120, x 121, x 122, x 123, x 124, x 125, x 126, x 127, x 128, .int .i64 (kf : Int), x 130, x 131, x 132, x 133, x 134, x 135, x 136, x 137, x 138, x 139, x 140, x 141, x 142, x 143, x 144, x 145, x 146], defers := [] } wa := hK _ _ hW (by rw [if_neg (by decide)]) rfl
            rw [E10.out] at hk
            exact hk
          · -- operation 3
            simp only [List.getElem?_toArray, List.getElem?_cons_succ, List.getElem?_cons_zero, Option.some.injEq] at ho
            subst ho
            clear hdep hgd hbef
            unfold fr147
            rw [E2.out]
            go_simp
            have hk : K { tmps := #[x 0, x 1, x 2, x 3, x 4, x 5, x 6, x 7, x 8, x 9, x 10, x 11, x 12, x 13, x 14, x 15, x 16, x 17, x 18, x 19, x 20, x 21, x 22, x 23, x 24, x 25, x 26, x 27, x 28, x 29, x 30, x 31, x 32, x 33, x 34, x 35, x 36, x 37, x 38, x 39, x 40, x 41, x 42, x 43, x 44, x 45, x 46, x 47, x 48, x 49, x 50, x 51, x 52, x 53, x 54, x 55, x 56, x 57, x 58, x 59, x 60, x 61, x 62, x 63, x 64, x 65, x 66, x 67, x 68, x 69, x 70, x 71, x 72, x 73, x 74, x 75, x 76, x 77, x 78, x 79, x 80, x 81, x 82, x 83, x 84, x 85, x 86, x 87, x 88, x 89, x 90, x 91, x 92, x 93, x 94, x 95, x 96, x 97, x 98, x 99, x 100, x 101, x 102, x 103, x 104, x 105, x 106, x 107, x 108, x 109, x 110, x 111, x 112, x 113, x 114, x 115, x 116, x 117, x 118, x 119, x 120, x 121, x 122, x 123, x 124, x 125, x 126, x 127, x 128, x 129, .pointer (some ⟨w.heap.size, 1, none⟩), x 131, x 132, x 133, x 134, x 135, x 136, x 137, x 138, x 139, x 140, x 141, x 142, x 143, x 144, x 145, x 146], defers := [] } wa := hK _ _ hW (by rw [if_neg (by decide)]) rfl
            rw [E2.out] at hk
            exact hk
          · -- operation 4
            simp only [List.getElem?_toArray, List.getElem?_cons_succ, List.getElem?_cons_zero, Option.some.injEq] at ho
            subst ho
            have p3 : (x 130) = .pointer (some ⟨w.heap.size, 1, none⟩) := hdep 3 (List.mem_of_elem_eq_true (by kernel_rfl))
            clear hdep hgd hbef
            obtain ⟨f0, f1, f2⟩ := (HF7.out.below hW (by have := HGB.out; omega)).cell3
            unfold fr147
            rw [p3]
            go_simp
            have hk : K { tmps := #[x 0, x 1, x 2, x 3, x 4, x 5, x 6, x 7, x 8, x 9, x 10, x 11, x 12, x 13, x 14, x 15, x 16, x 17, x 18, x 19, x 20, x 21, x 22, x 23, x 24, x 25, x 26, x 27, x 28, x 29, x 30, x 31, x 32, x 33, x 34, x 35, x 36, x 37, x 38, x 39, x 40, x 41, x 42, x 43, x 44, x 45, x 46, x 47, x 48, x 49, x 50, x 51, x 52, x 53, x 54, x 55, x 56, x 57, x 58, x 59, x 60, x 61, x 62, x 63, x 64, x 65, x 66, x 67, x 68, x 69, x 70, x 71, x 72, x 73, x 74, x 75, x 76, x 77, x 78, x 79, x 80, x 81, x 82, x 83, x 84, x 85, x 86, x 87, x 88, x 89, x 90, x 91, x 92, x 93, x 94, x 95, x 96, x 97, x 98, x 99, x 100, x 101, x 102, x 103, x 104, x 105, x 106, x 107, x 108, x 109, x 110, x 111, x 112, x 113, x 114, x 115, x 116, x 117, x 118, x 119, x 120, x 121, x 122, x 123, x 124, x 125, x 126, x 127, x 128, x 129, x 130, .slice (some ⟨gF, 0, none⟩) fs.F.length b2, x 132, x 133, x 134, x 135, x 136, x 137, x 138, x 139, x 140, x 141, x 142, x 143, x 144, x 145, x 146], defers := [] } wa := hK _ _ hW (by rw [if_neg (by decide)]) rfl
            rw [p3] at hk
            exact hk
          · -- operation 5
            simp only [List.getElem?_toArray, List.getElem?_cons_succ, List.getElem?_cons_zero, Option.some.injEq] at ho
            subst ho
            clear hdep hgd hbef
            unfold fr147
            rw [E10.out]
            go_simp
            have hk : K { tmps := #[x 0, x 1, x 2, x 3, x 4, x 5, x 6, x 7, x 8, x 9, x 10, x 11, x 12, x 13, x 14, x 15, x 16, x 17, x 18, x 19, x 20, x 21, x 22, x 23, x 24, x 25, x 26, x 27, x 28, x 29, x 30, x 31, x 32, x 33, x 34, x 35, x 36, x 37, x 38, x 39, x 40, x 41, x 42, x 43, x 44, x 45, x 46, x 47, x 48, x 49, x 50, x 51, x 52, x 53, x 54, x 55, x 56, x 57, x 58, x 59, x 60, x 61, x 62, x 63, x 64, x 65, x 66, x 67, x 68, x 69, x 70, x 71, x 72, x 73, x 74, x 75, x 76, x 77, x 78, x 79, x 80, x 81, x 82, x 83, x 84, x 85, x 86, x 87, x 88, x 89, x 90, x 91, x 92, x 93, x 94, x 95, x 96, x 97, x 98, x 99, x 100, x 101, x 102, x 103, x 104, x 105, x 106, x 107, x 108, x 109, x 110, x 111, x 112, x 113, x 114, x 115, x 116, x 117, x 118, x 119, x 120, x 121, x 122, x 123, x 124, x 125, x 126, x 127, x 128, x 129, x 130, x 131, .int .i64 (kf : Int), x 133, x 134, x 135, x 136, x 137, x 138, x 139, x 140, x 141, x 142, x 143, x 144, x 145, x 146], defers := [] } wa := hK _ _ hW (by rw [if_neg (by decide)]) rfl
            rw [E10.out] at hk
            exact hk
          · -- operation 6
            simp only [List.getElem?_toArray, List.getElem?_cons_succ, List.getElem?_cons_zero, Option.some.injEq] at ho
            subst ho
            have p4 : (x 131) = .slice (some ⟨gF, 0, none⟩) fs.F.length b2 := hdep 4 (List.mem_of_elem_eq_true (by kernel_rfl))
            have p5 : (x 132) = .int .i64 (kf : Int) := hdep 5 (List.mem_of_elem_eq_true (by kernel_rfl))
            clear hdep hgd hbef
            unfold fr147
            rw [p4, p5]
            go_simp
            have hk : K { tmps := #[x 0, x 1, x 2, x 3, x 4, x 5, x 6, x 7, x 8, x 9, x 10, x 11, x 12, x 13, x 14, x 15, x 16, x 17, x 18, x 19, x 20, x 21, x 22, x 23, x 24, x 25, x 26, x 27, x 28, x 29, x 30, x 31, x 32, x 33, x 34, x 35, x 36, x 37, x 38, x 39, x 40, x 41, x 42, x 43, x 44, x 45, x 46, x 47, x 48, x 49, x 50, x 51, x 52, x 53, x 54, x 55, x 56, x 57, x 58, x 59, x 60, x 61, x 62, x 63, x 64, x 65, x 66, x 67, x 68, x 69, x 70, x 71, x 72, x 73, x 74, x 75, x 76, x 77, x 78, x 79, x 80, x 81, x 82, x 83, x 84, x 85, x 86, x 87, x 88, x 89, x 90, x 91, x 92, x 93, x 94, x 95, x 96, x 97, x 98, x 99, x 100, x 101, x 102, x 103, x 104, x 105, x 106, x 107, x 108, x 109, x 110, x 111, x 112, x 113, x 114, x 115, x 116, x 117, x 118, x 119, x 120, x 121, x 122, x 123, x 124, x 125, x 126, x 127, x 128, x 129, x 130, x 131, x 132, .pointer (some ⟨gF, kf * 5, none⟩), x 134, x 135, x 136, x 137, x 138, x 139, x 140, x 141, x 142, x 143, x 144, x 145, x 146], defers := [] } wa := hK _ _ hW (by rw [if_neg (by decide)]) rfl
            rw [p4, p5] at hk
            exact hk
          · -- operation 7
            simp only [List.getElem?_toArray, List.getElem?_cons_succ, List.getElem?_cons_zero, Option.some.injEq] at ho
            subst ho
            have p6 : (x 133) = .pointer (some ⟨gF, kf * 5, none⟩) := hdep 6 (List.mem_of_elem_eq_true (by kernel_rfl))
            clear hdep hgd hbef
            unfold fr147
            rw [p6]
            go_simp
            have hk : K { tmps := #[x 0, x 1, x 2, x 3, x 4, x 5, x 6, x 7, x 8, x 9, x 10, x 11, x 12, x 13, x 14, x 15, x 16, x 17, x 18, x 19, x 20, x 21, x 22, x 23, x 24, x 25, x 26, x 27, x 28, x 29, x 30, x 31, x 32, x 33, x 34, x 35, x 36, x 37, x 38, x 39, x 40, x 41, x 42, x 43, x 44, x 45, x 46, x 47, x 48, x 49, x 50, x 51, x 52, x 53, x 54, x 55, x 56, x 57, x 58, x 59, x 60, x 61, x 62, x 63, x 64, x 65, x 66, x 67, x 68, x 69, x 70, x 71, x 72, x 73, x 74, x 75, x 76, x 77, x 78, x 79, x 80, x 81, x 82, x 83, x 84, x 85, x 86, x 87, x 88, x 89, x 90, x 91, x 92, x 93, x 94, x 95, x 96, x 97, x 98, x 99, x 100, x 101, x 102, x 103, x 104, x 105, x 106, x 107, x 108, x 109, x 110, x 111, x 112, x 113, x 114, x 115, x 116, x 117, x 118, x 119, x 120, x 121, x 122, x 123, x 124, x 125, x 126, x 127, x 128, x 129, x 130, x 131, x 132, x 133, .pointer (some ⟨gF, kf * 5 + 4, none⟩), x 135, x 136, x 137, x 138, x 139, x 140, x 141, x 142, x 143, x 144, x 145, x 146], defers := [] } wa := hK _ _ hW (by rw [if_neg (by decide)]) rfl
            rw [p6] at hk
            exact hk
          · -- operation 8
            simp only [List.getElem?_toArray, List.getElem?_cons_succ, List.getElem?_cons_zero, Option.some.injEq] at ho
            subst ho
            have p7 : (x 134) = .pointer (some ⟨gF, kf * 5 + 4, none⟩) := hdep 7 (List.mem_of_elem_eq_true (by kernel_rfl))
            have e12 : Below w7.heap.size w7 wa := hbef 12 (by decide) (by kernel_rfl)
            clear hdep hgd hbef
            have c4 := HC4.out wa e12
            unfold fr147
            rw [p7]
            go_simp
            have hk : K { tmps := #[x 0, x 1, x 2, x 3, x 4, x 5, x 6, x 7, x 8, x 9, x 10, x 11, x 12, x 13, x 14, x 15, x 16, x 17, x 18, x 19, x 20, x 21, x 22, x 23, x 24, x 25, x 26, x 27, x 28, x 29, x 30, x 31, x 32, x 33, x 34, x 35, x 36, x 37, x 38, x 39, x 40, x 41, x 42, x 43, x 44, x 45, x 46, x 47, x 48, x 49, x 50, x 51, x 52, x 53, x 54, x 55, x 56, x 57, x 58, x 59, x 60, x 61, x 62, x 63, x 64, x 65, x 66, x 67, x 68, x 69, x 70, x 71, x 72, x 73, x 74, x 75, x 76, x 77, x 78, x 79, x 80, x 81, x 82, x 83, x 84, x 85, x 86, x 87, x 88, x 89, x 90, x 91, x 92, x 93, x 94, x 95, x 96, x 97, x 98, x 99, x 100, x 101, x 102, x 103, x 104, x 105, x 106, x 107, x 108, x 109, x 110, x 111, x 112, x 113, x 114, x 115, x 116, x 117, x 118, x 119, x 120, x 121, x 122, x 123, x 124, x 125, x 126, x 127, x 128, x 129, x 130, x 131, x 132, x 133, x 134, .int .i64 (y - min n y), x 136, x 137, x 138, x 139, x 140, x 141, x 142, x 143, x 144, x 145, x 146], defers := [] } wa := hK _ _ hW (by rw [if_neg (by decide)]) rfl
            rw [p7] at hk
            exact hk
          · -- operation 9
            simp only [List.getElem?_toArray, List.getElem?_cons_succ, List.getElem?_cons_zero, Option.some.injEq] at ho
            subst ho
            have p8 : (x 135) = .int .i64 (y - min n y) := hdep 8 (List.mem_of_elem_eq_true (by kernel_rfl))
            clear hdep hgd hbef
            unfold fr147
            rw [p8]
            go_simp
            have hk : K { tmps := #[x 0, x 1, x 2, x 3, x 4, x 5, x 6, x 7, x 8, x 9, x 10, x 11, x 12, x 13, x 14, x 15, x 16, x 17, x 18, x 19, x 20, x 21, x 22, x 23, x 24, x 25, x 26, x 27, x 28, x 29, x 30, x 31, x 32, x 33, x 34, x 35, x 36, x 37, x 38, x 39, x 40, x 41, x 42, x 43, x 44, x 45, x 46, x 47, x 48, x 49, x 50, x 51, x 52, x 53, x 54, x 55, x 56, x 57, x 58, x 59, x 60, x 61, x 62, x 63, x 64, x 65, x 66, x 67, x 68, x 69, x 70, x 71, x 72, x 73, x 74, x 75, x 76, x 77, x 78, x 79, x 80, x 81, x 82, x 83, x 84, x 85, x 86, x 87, x 88, x 89, x 90, x 91, x 92, x 93, x 94, x 95, x 96, x 97, x 98, x 99, x 100, x 101, x 102, x 103, x 104, x 105, x 106, x 107, x 108, x 109, x 110, x 111, x 112, x 113, x 114, x 115, x 116, x 117, x 118, x 119, x 120, x 121, x 122, x 123, x 124, x 125, x 126, x 127, x 128, x 129, x 130, x 131, x 132, x 133, x 134, x 135, .bool (y - min n y == 0), x 137, x 138, x 139, x 140, x 141, x 142, x 143, x 144, x 145, x 146], defers := [] } wa := hK _ _ hW (by rw [if_neg (by decide)]) rfl
            rw [p8] at hk
            exact hk
          · -- operation 10
            simp only [List.getElem?_toArray, List.getElem?_cons_succ, List.getElem?_cons_zero, Option.some.injEq] at ho
            subst ho
            have p1 : (x 128) = .slice (some ⟨gF, 0, none⟩) fs.F.length b2 := hdep 1 (List.mem_of_elem_eq_true (by kernel_rfl))
            have p2 : (x 129) = .int .i64 (kf : Int) := hdep 2 (List.mem_of_elem_eq_true (by kernel_rfl))
            clear hdep hgd hbef
            unfold fr147
            rw [p1, p2]
            go_simp
            have hk : K { tmps := #[x 0, x 1, x 2, x 3, x 4, x 5, x 6, x 7, x 8, x 9, x 10, x 11, x 12, x 13, x 14, x 15, x 16, x 17, x 18, x 19, x 20, x 21, x 22, x 23, x 24, x 25, x 26, x 27, x 28, x 29, x 30, x 31, x 32, x 33, x 34, x 35, x 36, x 37, x 38, x 39, x 40, x 41, x 42, x 43, x 44, x 45, x 46, x 47, x 48, x 49, x 50, x 51, x 52, x 53, x 54, x 55, x 56, x 57, x 58, x 59, x 60, x 61, x 62, x 63, x 64, x 65, x 66, x 67, x 68, x 69, x 70, x 71, x 72, x 73, x 74, x 75, x 76, x 77, x 78, x 79, x 80, x 81, x 82, x 83, x 84, x 85, x 86, x 87, x 88, x 89, x 90, x 91, x 92, x 93, x 94, x 95, x 96, x 97, x 98, x 99, x 100, x 101, x 102, x 103, x 104, x 105, x 106, x 107, x 108, x 109, x 110, x 111, x 112, x 113, x 114, x 115, x 116, x 117, x 118, x 119, x 120, x 121, x 122, x 123, x 124, x 125, x 126, x 127, x 128, x 129, x 130, x 131, x 132, x 133, x 134, x 135, x 136, .pointer (some ⟨gF, kf * 5, none⟩), x 138, x 139, x 140, x 141, x 142, x 143, x 144, x 145, x 146], defers := [] } wa := hK _ _ hW (by rw [if_neg (by decide)]) rfl
            rw [p1, p2] at hk
            exact hk
          · -- operation 11
            simp only [List.getElem?_toArray, List.getElem?_cons_succ, List.getElem?_cons_zero, Option.some.injEq] at ho
            subst ho
            have p10 : (x 137) = .pointer (some ⟨gF, kf * 5, none⟩) := hdep 10 (List.mem_of_elem_eq_true (by kernel_rfl))
            clear hdep hgd hbef
            unfold fr147
            rw [p10]
            go_simp
            have hk : K { tmps := #[x 0, x 1, x 2, x 3, x 4, x 5, x 6, x 7, x 8, x 9, x 10, x 11, x 12, x 13, x 14, x 15, x 16, x 17, x 18, x 19, x 20, x 21, x 22, x 23, x 24, x 25, x 26, x 27, x 28, x 29, x 30, x 31, x 32, x 33, x 34, x 35, x 36, x 37, x 38, x 39, x 40, x 41, x 42, x 43, x 44, x 45, x 46, x 47, x 48, x 49, x 50, x 51, x 52, x 53, x 54, x 55, x 56, x 57, x 58, x 59, x 60, x 61, x 62, x 63, x 64, x 65, x 66, x 67, x 68, x 69, x 70, x 71, x 72, x 73, x 74, x 75, x 76, x 77, x 78, x 79, x 80, x 81, x 82, x 83, x 84, x 85, x 86, x 87, x 88, x 89, x 90, x 91, x 92, x 93, x 94, x 95, x 96, x 97, x 98, x 99, x 100, x 101, x 102, x 103, x 104, x 105, x 106, x 107, x 108, x 109, x 110, x 111, x 112, x 113, x 114, x 115, x 116, x 117, x 118, x 119, x 120, x 121, x 122, x 123, x 124, x 125, x 126, x 127, x 128, x 129, x 130, x 131, x 132, x 133, x 134, x 135, x 136, x 137, .pointer (some ⟨gF, kf * 5 + 3, none⟩), x 139, x 140, x 141, x 142, x 143, x 144, x 145, x 146], defers := [] } wa := hK _ _ hW (by rw [if_neg (by decide)]) rfl
            rw [p10] at hk
            exact hk
          · -- operation 12
            simp only [List.getElem?_toArray, List.getElem?_cons_succ, List.getElem?_cons_zero, Option.some.injEq] at ho
            subst ho
            have p11 : (x 138) = .pointer (some ⟨gF, kf * 5 + 3, none⟩) := hdep 11 (List.mem_of_elem_eq_true (by kernel_rfl))
            have p9 : (x 136) = .bool (y - min n y == 0) := hdep 9 (List.mem_of_elem_eq_true (by kernel_rfl))
            have e12 : Below w7.heap.size w7 wa := hbef 12 (by decide) (by kernel_rfl)
            clear hdep hgd hbef
            have hS := HS7.out.up e12
            have hof : wa.ownsRow B 72 5 (.slice (some ⟨gF, 0, none⟩) fs.F.length b2) fs.F.length (fis (fs.F.set kf ⟨fs.F[kf].ino, fs.F[kf].dv, fs.F[kf].data, true, false, y - min n y⟩)) := by have h : wa.ownsRow B 72 5 (.slice (some ⟨gF, 0, none⟩) fs.F.length b2) (fs.F.set kf ⟨fs.F[kf].ino, fs.F[kf].dv, fs.F[kf].data, true, false, y - min n y⟩).length (fis (fs.F.set kf ⟨fs.F[kf].ino, fs.F[kf].dv, fs.F[kf].data, true, false, y - min n y⟩)) := hS.f; rwa [List.length_set] at h
            obtain ⟨c0, c1, c2, c3, c4⟩ := own_fiCells hof (by rw [List.length_set]) HKF7.out
            obtain ⟨z3, c3⟩ : ∃ z, wa.cell? ⟨gF, kf * 5 + 3, none⟩ = some z := ⟨_, c3⟩
            clear c0 c1 c2 c4
            have hfz : wa.frozen? ⟨gF, kf * 5 + 3, none⟩ = false := own_frozen hof rfl _
            have hS8 := HSETT.out wa e12
            have hk : K { tmps := #[x 0, x 1, x 2, x 3, x 4, x 5, x 6, x 7, x 8, x 9, x 10, x 11, x 12, x 13, x 14, x 15, x 16, x 17, x 18, x 19, x 20, x 21, x 22, x 23, x 24, x 25, x 26, x 27, x 28, x 29, x 30, x 31, x 32, x 33, x 34, x 35, x 36, x 37, x 38, x 39, x 40, x 41, x 42, x 43, x 44, x 45, x 46, x 47, x 48, x 49, x 50, x 51, x 52, x 53, x 54, x 55, x 56, x 57, x 58, x 59, x 60, x 61, x 62, x 63, x 64, x 65, x 66, x 67, x 68, x 69, x 70, x 71, x 72, x 73, x 74, x 75, x 76, x 77, x 78, x 79, x 80, x 81, x 82, x 83, x 84, x 85, x 86, x 87, x 88, x 89, x 90, x 91, x 92, x 93, x 94, x 95, x 96, x 97, x 98, x 99, x 100, x 101, x 102, x 103, x 104, x 105, x 106, x 107, x 108, x 109, x 110, x 111, x 112, x 113, x 114, x 115, x 116, x 117, x 118, x 119, x 120, x 121, x 122, x 123, x 124, x 125, x 126, x 127, x 128, x 129, x 130, x 131, x 132, x 133, x 134, x 135, x 136, x 137, x 138, x 139, x 140, x 141, x 142, x 143, x 144, x 145, x 146], defers := [] } (wa.setCell ⟨gF, kf * 5 + 3, none⟩ (.bool (y - min n y == 0))) := hK undef _ (hW.setCell (p := ⟨gF, kf * 5 + 3, none⟩) hgB _) (by rw [if_pos rfl]; trivial) hS8
            unfold fr147
            rw [p11, p9]
            rw [p11, p9] at hk
            clear hS8 hS hof
            go_simp
            exact hk
        case skip =>
          intro i o j b ho hgd
          have hi : i < 13 := (Array.getElem?_eq_some_iff.1 ho).1
          have hcase : i = 0 ∨ i = 1 ∨ i = 2 ∨ i = 3 ∨ i = 4 ∨ i = 5 ∨ i = 6 ∨ i = 7 ∨ i = 8 ∨ i = 9 ∨ i = 10 ∨ i = 11 ∨ i = 12 := by omega
          rcases hcase with rfl | rfl | rfl | rfl | rfl | rfl | rfl | rfl | rfl | rfl | rfl | rfl | rfl <;> (simp only [List.getElem?_toArray, List.getElem?_cons_succ, List.getElem?_cons_zero, Option.some.injEq] at ho; subst ho; cases hgd)
        case done =>
          intro x wd hout hW hall
          have hSx : FsO wd B (.slice B1 fs.N.length b1) (.slice (some ⟨gF, 0, none⟩) fs.F.length b2) (.slice B3 fs.O.length b3) (⟨fs.N, fs.F.set kf ⟨fs.F[kf].ino, fs.F[kf].dv, fs.F[kf].data, true, y - min n y == 0, y - min n y⟩, fs.O⟩ : FS) := hall 12 (by decide)
          have HSx := keep hSx
          have HFx := keep (HF7.out.below hW (by have := HGB.out; omega))
          have HZx := keep (HZ7.out.below hW (by have := HGB.out; omega))
          have HBx := keep (HB7.out.trans (hW.mono (by have := HGB.out; omega)))
          unfold fr147
          rw [(hout 0 (by decide)).trans (hx0 0), (hout 1 (by decide)).trans (hx0 1), (hout 2 (by decide)).trans (hx0 2), (hout 3 (by decide)).trans (hx0 3), (hout 4 (by decide)).trans (hx0 4), (hout 5 (by decide)).trans (hx0 5), (hout 6 (by decide)).trans (hx0 6), (hout 7 (by decide)).trans (hx0 7), (hout 8 (by decide)).trans (hx0 8), (hout 9 (by decide)).trans (hx0 9), (hout 10 (by decide)).trans (hx0 10), (hout 11 (by decide)).trans (hx0 11), (hout 12 (by decide)).trans (hx0 12), (hout 13 (by decide)).trans (hx0 13), (hout 14 (by decide)).trans (hx0 14), (hout 15 (by decide)).trans (hx0 15), (hout 16 (by decide)).trans (hx0 16), (hout 17 (by decide)).trans (hx0 17), (hout 18 (by decide)).trans (hx0 18), (hout 19 (by decide)).trans (hx0 19), (hout 20 (by decide)).trans (hx0 20), (hout 21 (by decide)).trans (hx0 21), (hout 22 (by decide)).trans (hx0 22), (hout 23 (by decide)).trans (hx0 23), (hout 24 (by decide)).trans (hx0 24), (hout 25 (by decide)).trans (hx0 25), (hout 26 (by decide)).trans (hx0 26), (hout 27 (by decide)).trans (hx0 27), (hout 28 (by decide)).trans (hx0 28), (hout 29 (by decide)).trans (hx0 29), (hout 30 (by decide)).trans (hx0 30), (hout 31 (by decide)).trans (hx0 31), (hout 32 (by decide)).trans (hx0 32), (hout 33 (by decide)).trans (hx0 33), (hout 34 (by decide)).trans (hx0 34), (hout 35 (by decide)).trans (hx0 35), (hout 36 (by decide)).trans (hx0 36), (hout 37 (by decide)).trans (hx0 37), (hout 38 (by decide)).trans (hx0 38), (hout 39 (by decide)).trans (hx0 39), (hout 40 (by decide)).trans (hx0 40), (hout 41 (by decide)).trans (hx0 41), (hout 42 (by decide)).trans (hx0 42), (hout 43 (by decide)).trans (hx0 43), (hout 44 (by decide)).trans (hx0 44), (hout 45 (by decide)).trans (hx0 45), (hout 46 (by decide)).trans (hx0 46), (hout 47 (by decide)).trans (hx0 47), (hout 48 (by decide)).trans (hx0 48), (hout 49 (by decide)).trans (hx0 49), (hout 50 (by decide)).trans (hx0 50), (hout 51 (by decide)).trans (hx0 51), (hout 52 (by decide)).trans (hx0 52), (hout 53 (by decide)).trans (hx0 53), (hout 54 (by decide)).trans (hx0 54), (hout 55 (by decide)).trans (hx0 55), (hout 56 (by decide)).trans (hx0 56), (hout 57 (by decide)).trans (hx0 57), (hout 58 (by decide)).trans (hx0 58), (hout 59 (by decide)).trans (hx0 59), (hout 60 (by decide)).trans (hx0 60), (hout 61 (by decide)).trans (hx0 61), (hout 62 (by decide)).trans (hx0 62), (hout 63 (by decide)).trans (hx0 63), (hout 64 (by decide)).trans (hx0 64), (hout 65 (by decide)).trans (hx0 65), (hout 66 (by decide)).trans (hx0 66), (hout 67 (by decide)).trans (hx0 67), (hout 68 (by decide)).trans (hx0 68), (hout 69 (by decide)).trans (hx0 69), (hout 70 (by decide)).trans (hx0 70), (hout 71 (by decide)).trans (hx0 71), (hout 72 (by decide)).trans (hx0 72), (hout 73 (by decide)).trans (hx0 73), (hout 74 (by decide)).trans (hx0 74), (hout 75 (by decide)).trans (hx0 75), (hout 76 (by decide)).trans (hx0 76), (hout 77 (by decide)).trans (hx0 77), (hout 78 (by decide)).trans (hx0 78), (hout 79 (by decide)).trans (hx0 79), (hout 80 (by decide)).trans (hx0 80), (hout 81 (by decide)).trans (hx0 81), (hout 82 (by decide)).trans (hx0 82), (hout 83 (by decide)).trans (hx0 83), (hout 84 (by decide)).trans (hx0 84), (hout 85 (by decide)).trans (hx0 85), (hout 86 (by decide)).trans (hx0 86), (hout 87 (by decide)).trans (hx0 87), (hout 88 (by decide)).trans (hx0 88), (hout 89 (by decide)).trans (hx0 89), (hout 90 (by decide)).trans (hx0 90), (hout 91 (by decide)).trans (hx0 91), (hout 92 (by decide)).trans (hx0 92), (hout 93 (by decide)).trans (hx0 93), (hout 94 (by decide)).trans (hx0 94), (hout 95 (by decide)).trans (hx0 95), (hout 96 (by decide)).trans (hx0 96), (hout 97 (by decide)).trans (hx0 97), (hout 98 (by decide)).trans (hx0 98), (hout 99 (by decide)).trans (hx0 99), (hout 100 (by decide)).trans (hx0 100), (hout 101 (by decide)).trans (hx0 101), (hout 102 (by decide)).trans (hx0 102), (hout 103 (by decide)).trans (hx0 103), (hout 104 (by decide)).trans (hx0 104), (hout 105 (by decide)).trans (hx0 105), (hout 106 (by decide)).trans (hx0 106), (hout 107 (by decide)).trans (hx0 107), (hout 108 (by decide)).trans (hx0 108), (hout 109 (by decide)).trans (hx0 109), (hout 110 (by decide)).trans (hx0 110), (hout 111 (by decide)).trans (hx0 111), (hout 112 (by decide)).trans (hx0 112), (hout 113 (by decide)).trans (hx0 113), (hout 114 (by decide)).trans (hx0 114), (hout 115 (by decide)).trans (hx0 115), (hout 116 (by decide)).trans (hx0 116), (hout 117 (by decide)).trans (hx0 117), (hout 118 (by decide)).trans (hx0 118), (hout 119 (by decide)).trans (hx0 119), (hout 120 (by decide)).trans (hx0 120), (hout 121 (by decide)).trans (hx0 121), (hout 122 (by decide)).trans (hx0 122), (hout 123 (by decide)).trans (hx0 123), (hout 124 (by decide)).trans (hx0 124), (hout 125 (by decide)).trans (hx0 125), (hout 126 (by decide)).trans (hx0 126), (hout 139 (by decide)).trans (hx0 139), (hout 140 (by decide)).trans (hx0 140), (hout 141 (by decide)).trans (hx0 141), (hout 142 (by decide)).trans (hx0 142), (hout 143 (by decide)).trans (hx0 143), (hout 144 (by decide)).trans (hx0 144), (hout 145 (by decide)).trans (hx0 145), (hout 146 (by decide)).trans (hx0 146)]
          simp only [Array.getD_eq_getD_getElem?, List.getElem?_toArray, List.getElem?_cons_succ, List.getElem?_cons_zero, Option.getD_some]
          clear hall hout hx0 y2 y3 y10
          obtain ⟨FL, HMET, HSx, HLN, HLF, HLO⟩ : ∃ FL : FS, Hid (MetSt fs ⟨6, name, dst, .slice A data.length cc, data, n⟩ 0 FL) ∧ Hid (FsO wd B (.slice B1 fs.N.length b1) (.slice (some ⟨gF, 0, none⟩) fs.F.length b2) (.slice B3 fs.O.length b3) FL) ∧ Hid (FL.N.length ≤ 1000000) ∧ Hid (FL.F.length ≤ 1000000) ∧ Hid (FL.O.length ≤ 1000000) := ⟨(⟨fs.N, fs.F.set kf ⟨fs.F[kf].ino, fs.F[kf].dv, fs.F[kf].data, true, y - min n y == 0, y - min n y⟩, fs.O⟩ : FS), HMET, HSx, HLN, HLF, HLO⟩
          clear hSx hW
          have HSW := keep (refSweep_any _ _ _ FL wd HSx.out.t HLF.out HLN.out HLO.out)
          obtain ⟨f0, f1, f2⟩ := HFx.out.cell3
          go_wp2_with fail
          refine HSW.out.mono ?_
          rintro e wz ⟨vFz, rfl, hoF, hbz⟩
          obtain ⟨G2, g2, rfl, _⟩ := own_sl hoF
          have hZz := HZx.out.below hbz HZx.out.lt
          have hgz := grown_three wz (w.heap.size + 1 + 1) (.slice B1 fs.N.length b1) (.slice G2 (FL.F.filter (stays FL)).length g2) (.slice B3 fs.O.length b3)
          have hSz := HSx.out.up hbz
          have hTz : FsT wz (.slice B1 fs.N.length b1) (.slice G2 (FL.F.filter (stays FL)).length g2) (.slice B3 fs.O.length b3) (purged FL) := by
            have hp : purged FL = ⟨FL.N, FL.F.filter (stays FL), FL.O⟩ := by unfold purged; rw [stays_goes]
            rw [hp]
            exact ⟨own_ty hSz.n, own_ty hoF, own_ty hSz.o, fun t ht => hSz.d t (List.mem_filter.1 ht).1⟩
          have HTz := keep (hTz.grown hZz hgz (by decide) (by decide) (by decide) (by decide))
          have HZz := keep (hZz.three (.slice B1 fs.N.length b1) (.slice G2 (FL.F.filter (stays FL)).length g2) (.slice B3 fs.O.length b3))
          have HBz := keep (below_three (bchain HBx.out hbz) (show w.heap.size ≤ w.heap.size + 1 + 1 by omega) (.slice B1 fs.N.length b1) (.slice G2 (FL.F.filter (stays FL)).length g2) (.slice B3 fs.O.length b3))
          obtain ⟨z0, z1, z2⟩ := hZz.cell3
          obtain ⟨y0, y1, y2⟩ := hZz.froz3
          clear hbz hoF hZz hgz hSz hTz f0 f1 f2
          go_wp2_with fail
          have hdo := doSt_p HI.out (show DoSt fs ⟨6, name, dst, .slice A data.length cc, data, n⟩ 0 (purged FL) from .inr ⟨⟨by show (1:Int) ≤ 6; decide, by show (6:Int) ≤ 8; decide⟩, .inr ⟨badNm_no HBAD.out, .inr ⟨rfl, FL, HMET.out, rfl⟩⟩⟩)
          refine bodyPost_ret (results_cell_row_tmp rfl _ _ (w.heap.size + 1 + 1) _ _ _ _ rfl HZz.out Try.underlying40 rfl (by kernel_rfl)) rfl ?_
          exact ⟨purged FL, _, _, _, by rw [HE0.out]; rfl, HTz.out, congrArg Prod.snd hdo.1, hdo.2.1, hdo.2.2, HBz.out⟩
    · have hh := step_7 HST.out
      have HUN := keep (refUnlink_any _ _ _ fs name w6 HS6.out.t (by omega))
      have HEX : Hid (∃ t ∈ fs.N, t.nm = name) := keep (by
        obtain ⟨i, k, hii, _, e, _⟩ := has_places HI.out hh
        exact ⟨_, List.getElem_mem hii, e⟩)
      clear hh
      obtain ⟨M, hM⟩ : ∃ M, rmName fs.N name = M := ⟨_, rfl⟩
      have hMl : M.length ≤ fs.N.length := by rw [← hM]; exact rmName_len _ _
      have HM := keep hM
      go_wp2_with fail
      refine HUN.out.mono ?_
      rintro e w7 ⟨vN7, rfl, hO7, hb7⟩
      rw [hM] at hO7
      obtain ⟨M1, m1, rfl, _⟩ := own_sl hO7
      have hF7 := HF6.out.below hb7 HF6.out.lt
      have hgr := grown_three w7 w.heap.size (.slice M1 M.length m1) (.slice B2 fs.F.length b2) (.slice B3 fs.O.length b3)
      have hS7 : FsO w7 B (.slice M1 M.length m1) (.slice B2 fs.F.length b2) (.slice B3 fs.O.length b3) ⟨M, fs.F, fs.O⟩ := ⟨own_mono hO7 HGB.out.2, own_bel HS6.out.f hb7, own_bel HS6.out.o hb7, fun t ht => (HS6.out.d t ht).up hb7⟩
      have HS8 : Hid (FsO _ B (.slice M1 M.length m1) (.slice B2 fs.F.length b2) (.slice B3 fs.O.length b3) ⟨M, fs.F, fs.O⟩) := keep ⟨hS7.n.kept hgr (.inr (own_off hS7.n hF7 (by decide))), hS7.f.kept hgr (.inr (own_off hS7.f hF7 (by decide))), hS7.o.kept hgr (.inr (own_off hS7.o hF7 (by decide))), fun t ht => (hS7.d t ht).grown hgr (noU8 hF7 (by decide))⟩
      have HF8 := keep (hF7.three (.slice M1 M.length m1) (.slice B2 fs.F.length b2) (.slice B3 fs.O.length b3))
      have HZ8 := keep ((HZ6.out.below hb7 HZ6.out.lt).grown hgr (fun e => by injection e; omega))
      have HB8 := keep (below_three (bchain HB6.out hb7) (Nat.le_refl _) (.slice M1 M.length m1) (.slice B2 fs.F.length b2) (.slice B3 fs.O.length b3))
      have HMET : Hid (MetSt fs ⟨7, name, dst, .slice A data.length cc, data, n⟩ 0 ⟨M, fs.F, fs.O⟩) := keep (.inr (.inr (.inr (.inr (.inr (.inr (.inl ⟨rfl, .inr ⟨HEX.out, rfl, by rw [← HM.out]⟩⟩)))))))
      have HLN : Hid ((⟨M, fs.F, fs.O⟩ : FS).N.length ≤ 1000000) := keep (by show M.length ≤ 1000000; omega)
      have HLF : Hid ((⟨M, fs.F, fs.O⟩ : FS).F.length ≤ 1000000) := keep (by show fs.F.length ≤ 1000000; omega)
      have HLO : Hid ((⟨M, fs.F, fs.O⟩ : FS).O.length ≤ 1000000) := keep (by show fs.O.length ≤ 1000000; omega)
      obtain ⟨t0, t1, t2⟩ := hF7.cell3
      obtain ⟨u0, u1, u2⟩ := hF7.froz3
      clear hO7 hb7 hF7 hgr hS7 hM f0 f1 f2 x0 x1 x2 x3 x4 HUN
      go_upto_region 28 with fail
      generalize (((w7.setCell ⟨w.heap.size, 0, none⟩ (.slice M1 M.length m1)).setCell ⟨w.heap.size, 1, none⟩ (.slice B2 fs.F.length b2)).setCell ⟨w.heap.size, 2, none⟩ (.slice B3 fs.O.length b3)) = w8 at *
      clear t0 t1 t2 u0 u1 u2
      have HSW := keep (refSweep_any _ _ _ (⟨M, fs.F, fs.O⟩ : FS) w8 HS8.out.t HLF.out HLN.out HLO.out)
      obtain ⟨f0, f1, f2⟩ := HF8.out.cell3
      go_wp2_with fail
      refine HSW.out.mono ?_
      rintro e wz ⟨vFz, rfl, hoF, hbz⟩
      obtain ⟨G2, g2, rfl, _⟩ := own_sl hoF
      have hZz := HZ8.out.below hbz HZ8.out.lt
      have hgz := grown_three wz (w.heap.size + 1 + 1) (.slice M1 M.length m1) (.slice G2 ((⟨M, fs.F, fs.O⟩ : FS).F.filter (stays (⟨M, fs.F, fs.O⟩ : FS))).length g2) (.slice B3 fs.O.length b3)
      have hSz := HS8.out.up hbz
      have hTz : FsT wz (.slice M1 M.length m1) (.slice G2 ((⟨M, fs.F, fs.O⟩ : FS).F.filter (stays (⟨M, fs.F, fs.O⟩ : FS))).length g2) (.slice B3 fs.O.length b3) (purged (⟨M, fs.F, fs.O⟩ : FS)) := by
        have hp : purged (⟨M, fs.F, fs.O⟩ : FS) = ⟨(⟨M, fs.F, fs.O⟩ : FS).N, (⟨M, fs.F, fs.O⟩ : FS).F.filter (stays (⟨M, fs.F, fs.O⟩ : FS)), (⟨M, fs.F, fs.O⟩ : FS).O⟩ := by unfold purged; rw [stays_goes]
        rw [hp]
        exact ⟨own_ty hSz.n, own_ty hoF, own_ty hSz.o, fun t ht => hSz.d t (List.mem_filter.1 ht).1⟩
      have HTz := keep (hTz.grown hZz hgz (by decide) (by decide) (by decide) (by decide))
      have HZz := keep (hZz.three (.slice M1 M.length m1) (.slice G2 ((⟨M, fs.F, fs.O⟩ : FS).F.filter (stays (⟨M, fs.F, fs.O⟩ : FS))).length g2) (.slice B3 fs.O.length b3))
      have HBz := keep (below_three (bchain HB8.out hbz) (show w.heap.size ≤ w.heap.size + 1 + 1 by omega) (.slice M1 M.length m1) (.slice G2 ((⟨M, fs.F, fs.O⟩ : FS).F.filter (stays (⟨M, fs.F, fs.O⟩ : FS))).length g2) (.slice B3 fs.O.length b3))
      obtain ⟨z0, z1, z2⟩ := hZz.cell3
      obtain ⟨y0, y1, y2⟩ := hZz.froz3
      clear hbz hoF hZz hgz hSz hTz f0 f1 f2
      go_wp2_with fail
      have hdo := doSt_p HI.out (show DoSt fs ⟨7, name, dst, .slice A data.length cc, data, n⟩ 0 (purged (⟨M, fs.F, fs.O⟩ : FS)) from .inr ⟨⟨by show (1:Int) ≤ 7; decide, by show (7:Int) ≤ 8; decide⟩, .inr ⟨badNm_no HBAD.out, .inr ⟨rfl, (⟨M, fs.F, fs.O⟩ : FS), HMET.out, rfl⟩⟩⟩)
      refine bodyPost_ret (results_cell_row_tmp rfl _ _ (w.heap.size + 1 + 1) _ _ _ _ rfl HZz.out Try.underlying40 rfl (by kernel_rfl)) rfl ?_
      exact ⟨purged (⟨M, fs.F, fs.O⟩ : FS), _, _, _, by rw [HE0.out]; rfl, HTz.out, congrArg Prod.snd hdo.1, hdo.2.1, hdo.2.2, HBz.out⟩
    · have hh := step_8 HST.out
      have HDL := keep hh.2
      have HEX : Hid (∃ (i : Nat) (hi : i < fs.N.length), fs.N[i].nm = name) := keep (by
        obtain ⟨i, k, hii, _, e, _⟩ := has_places HI.out hh.1
        exact ⟨i, hii, e⟩)
      obtain ⟨k, hg, hfr, hkl⟩ := gap_of HI.out
      have hfree := refFree_any _ _ _ fs w6 HS6.out.t HI.out (by omega)
      rw [hfr] at hfree
      have HFR := keep hfree
      have HG := keep hg
      have HKL := keep hkl
      have HMN := keep (show fs.N.length ≤ 1000000 by omega)
      have HBL6 : Hid (B ≤ w6.heap.size) := keep HGB.out.2
      have hmF : fs.F.length ≤ 1000000 := by omega
      clear hh hfr hfree hg hkl
      go_wp2_with fail
      refine HFR.out.mono ?_
      rintro e w7 ⟨rfl, hb7⟩
      have HS7 := keep (HS6.out.up hb7)
      have HF7 := keep (HF6.out.below hb7 HF6.out.lt)
      have HX7 := keep (HX6.out.below hb7 HX6.out.lt)
      have HZ7 := keep (HZ6.out.below hb7 HZ6.out.lt)
      have HB7 := keep (bchain HB6.out hb7)
      have HBL7 : Hid (B ≤ w7.heap.size) := keep (Nat.le_trans HBL6.out hb7.size)
      have HD7 : Hid (FiR w7 ⟨(k : Int) + 1, .slice DA data.length DC, data, false, true, 0⟩) := keep ((show FiR w6 ⟨(k : Int) + 1, .slice DA data.length DC, data, false, true, 0⟩ from ⟨HD6.out, hdl⟩).up hb7)
      have HADD : Hid (∀ wa, B ≤ wa.heap.size → FsO wa B (.slice B1 fs.N.length b1) (.slice B2 fs.F.length b2) (.slice B3 fs.O.length b3) fs → FiR wa ⟨(k : Int) + 1, .slice DA data.length DC, data, false, true, 0⟩ → Calls Try.prog 36 #[.agg #[(.slice B1 fs.N.length b1), (.slice B2 fs.F.length b2), (.slice B3 fs.O.length b3)], .agg #[.int .i64 ((k : Int) + 1), .slice DA data.length DC, .bool false, .bool true, .int .i64 0]] wa (RefAdd fs ⟨(k : Int) + 1, .slice DA data.length DC, data, false, true, 0⟩ B (.slice B1 fs.N.length b1) (.slice B3 fs.O.length b3) wa)) := keep (fun wa h1 h2 h3 => refAdd_any _ _ _ fs ⟨(k : Int) + 1, .slice DA data.length DC, data, false, true, 0⟩ B wa h1 h2 h3 hmF)
      clear hb7 f0 f1 f2 x0 x1 x2 x3 x4 HFR HS6 HF6 HX6 HZ6 HB6 HD6 hmF
      go_wp2_with fail
      rename_i K' hK'
      have HK := keep hK'
      clear hK'
      refine reg_start 147 fr147 (fun _ => rfl) _ rfl fun x0 hx0 => ?_
      have y2 : x0 2 = .pointer (some ⟨w.heap.size, 0, none⟩) := hx0 2
      have y3 : x0 3 = .pointer (some ⟨w.heap.size + 1, 0, none⟩) := hx0 3
      have y11 : x0 11 = .int .i64 ((k : Int) + 1) := hx0 11
      have y9 : x0 9 = .slice DA data.length DC := hx0 9
      refine wp_regV (by kernel_rfl) 147 (fun i =>  i) (by kernel_rfl) fr147 (fun _ => rfl) x0 (DoWk w B #[.int .i64 8, .string name, .string dst, .slice A data.length cc, .int .i64 n]) (DoMn w B (some 4) 9) (fun i v u wa => match i with
          | 0 => v = .agg #[(.slice B1 fs.N.length b1), (.slice B2 fs.F.length b2), (.slice B3 fs.O.length b3)]
          | 1 => v = .int .i64 ((k : Int) + 1)
          | 2 => v = .slice DA data.length DC
          | 3 => v = .agg #[.int .i64 ((k : Int) + 1), .slice DA data.length DC, .bool false, .bool true, .int .i64 0]
          | 4 => ∃ vF' : Value, v = .agg #[(.slice B1 fs.N.length b1), vF', (.slice B3 fs.O.length b3)] ∧ FsO wa B (.slice B1 fs.N.length b1) vF' (.slice B3 fs.O.length b3) ⟨fs.N, (putFile fs.F k ⟨(k : Int) + 1, .slice DA data.length DC, data, false, true, 0⟩), fs.O⟩
          | 5 => v = .pointer (some ⟨w.heap.size + 1, 1, none⟩)
          | 6 => v = .string name
          | 7 => v = .int .i64 ((k : Int) + 1)
          | 8 => ∃ vN' vF' : Value, v = .agg #[vN', vF', (.slice B3 fs.O.length b3)] ∧ FsO wa B vN' vF' (.slice B3 fs.O.length b3) (⟨(putName (rmName fs.N name) ⟨name, (k : Int) + 1⟩), (putFile fs.F k ⟨(k : Int) + 1, .slice DA data.length DC, data, false, true, 0⟩), fs.O⟩ : FS)
          | 9 => ∃ vN' vF' : Value, Blk wa w.heap.size 40 #[vN', vF', (.slice B3 fs.O.length b3)] ∧ FsO wa B vN' vF' (.slice B3 fs.O.length b3) (⟨(putName (rmName fs.N name) ⟨name, (k : Int) + 1⟩), (putFile fs.F k ⟨(k : Int) + 1, .slice DA data.length DC, data, false, true, 0⟩), fs.O⟩ : FS)
          | _ => True) (fun m wa => if m = 4 then FsO wa B (.slice B1 fs.N.length b1) (.slice B2 fs.F.length b2) (.slice B3 fs.O.length b3) fs ∧ FiR wa ⟨(k : Int) + 1, .slice DA data.length DC, data, false, true, 0⟩ else if m = 9 then Blk wa w.heap.size 40 #[(.slice B1 fs.N.length b1), (.slice B2 fs.F.length b2), (.slice B3 fs.O.length b3)] else True) (fun m => by
          by_cases h1 : m = 4
          · rw [if_pos h1]; exact ⟨HS7.out.up (below_drewN (Below.refl _ w7) 1), HD7.out.up (below_drewN (Below.refl _ w7) 1)⟩
          · rw [if_neg h1]
            split
            · exact HF7.out
            · trivial) (fun i m wa wb hne hmn h => by
          by_cases h1 : m = 4
          · rw [if_pos h1] at h ⊢
            exact ⟨DoMn.fso hmn (fun e => by injection e with e; exact hne (e.trans h1.symm)) h.1, DoMn.fir hmn (fun e => by injection e with e; exact hne (e.trans h1.symm)) h.2⟩
          · rw [if_neg h1] at h ⊢
            by_cases h2 : m = 9
            · rw [if_pos h2] at h ⊢
              exact DoMn.blk hmn (fun e => hne (e.trans h2.symm)) (by have := HGB.out; omega) h
            · rw [if_neg h2]; trivial) (by
            intro i j v u wa wb hbf hmn hp
            match j, hp with
            | 0, hp => exact hp
            | 1, hp => exact hp
            | 2, hp => exact hp
            | 3, hp => exact hp
            | 4, hp => obtain ⟨vF', h1, h2⟩ := hp; exact ⟨vF', h1, DoMn.fso hmn (fun e => by injection e with e; subst e; exact Bool.false_ne_true (hbf.symm.trans (by kernel_rfl))) h2⟩
            | 5, hp => exact hp
            | 6, hp => exact hp
            | 7, hp => exact hp
            | 8, hp => obtain ⟨vN', vF', h1, h2⟩ := hp; exact ⟨vN', vF', h1, DoMn.fso hmn (fun e => by injection e with e; subst e; exact Bool.false_ne_true (hbf.symm.trans (by kernel_rfl))) h2⟩
            | 9, hp => obtain ⟨vN', vF', h1, h2⟩ := hp; exact ⟨vN', vF', DoMn.blk hmn (fun e => by subst e; exact Bool.false_ne_true (hbf.symm.trans (by kernel_rfl))) (by have := HGB.out; omega) h1, DoMn.fso hmn (fun e => by injection e with e; subst e; exact Bool.false_ne_true (hbf.symm.trans (by kernel_rfl))) h2⟩
            | _ + 10, hp => trivial) (⟨HB7.out.drew, HBL7.out, HX7.out, HZ7.out, _, _, _, HF7.out⟩) ?step ?skip ?done
      case step =>
        intro i o ho x wa K hW hbef hout hdep hgd hK
        have E2 : Hid (x 2 = .pointer (some ⟨w.heap.size, 0, none⟩)) := keep ((hout 2 (by decide)).trans y2)
        have E3 : Hid (x 3 = .pointer (some ⟨w.heap.size + 1, 0, none⟩)) := keep ((hout 3 (by decide)).trans y3)
        have E11 : Hid (x 11 = .int .i64 ((k : Int) + 1)) := keep ((hout 11 (by decide)).trans y11)
        have E9 : Hid (x 9 = .slice DA data.length DC) := keep ((hout 9 (by decide)).trans y9)
        clear hout hx0 y2 y3 y11 y9
        have hi : i < 10 := (Array.getElem?_eq_some_iff.1 ho).1
        have hcase : i = 0 ∨ i = 1 ∨ i = 2 ∨ i = 3 ∨ i = 4 ∨ i = 5 ∨ i = 6 ∨ i = 7 ∨ i = 8 ∨ i = 9 := by omega
        clear hi
        rcases hcase with rfl | rfl | rfl | rfl | rfl | rfl | rfl | rfl | rfl | rfl
        · -- operation 0
          simp only [List.getElem?_toArray, List.getElem?_cons_zero, Option.some.injEq] at ho
          subst ho
          have e9 : Blk wa w.heap.size 40 #[(.slice B1 fs.N.length b1), (.slice B2 fs.F.length b2), (.slice B3 fs.O.length b3)] := hbef 9 (by decide) (by kernel_rfl)
          clear hdep hgd hbef
          obtain ⟨f0, f1, f2⟩ := e9.cell3
          unfold fr147
          rw [E2.out]
          go_simp
          have hk : K { tmps := #[x 0, x 1, x 2, x 3, x 4, x 5, x 6, x 7, x 8, x 9, x 10, x 11, x 12, x 13, x 14, x 15, x 16, x 17, x 18, x 19, x 20, x 21, x 22, x 23, x 24, x 25, x 26, x 27, x 28, x 29, x 30, x 31, x 32, x 33, x 34, x 35, x 36, x 37, x 38, x 39, x 40, x 41, x 42, .agg #[(.slice B1 fs.N.length b1), (.slice B2 fs.F.length b2), (.slice B3 fs.O.length b3)], x 44, x 45, x 46, x 47, x 48, x 49, x 50, x 51, x 52, x 53, x 54, x 55, x 56, x 57, x 58, x 59, x 60, x 61, x 62, x 63, x 64, x 65, x 66, x 67, x 68, x 69, x 70, x 71, x 72, x 73, x 74, x 75, x 76, x 77, x 78, x 79, x 80, x 81, x 82, x 83, x 84, x 85, x 86, x 87, x 88, x 89, x 90, x 91, x 92, x 93, x 94, x 95, x 96, x 97, x 98, x 99, x 100, x 101, x 102, x 103, x 104, x 105, x 106, x 107, x 108, x 109, x 110, x 111, x 112, x 113, x 114, x 115, x 116, x 117, x 118, x 119, x 120, x 121, x 122, x 123, x 124, x 125, x 126, x 127, x 128, x 129, x 130, x 131, x 132, x 133, x 134, x 135, x 136, x 137, x 138, x 139, x 140, x 141, x 142, x 143, x 144, x 145, x 146], defers := [] } wa := hK _ _ hW (DoMn.pure (by decide) (by decide)) rfl
          rw [E2.out] at hk
          exact hk
        · -- operation 1
          simp only [List.getElem?_toArray, List.getElem?_cons_succ, List.getElem?_cons_zero, Option.some.injEq] at ho
          subst ho
          clear hdep hgd hbef
          unfold fr147
          rw [E11.out]
          go_simp
          have hk : K { tmps := #[x 0, x 1, x 2, x 3, x 4, x 5, x 6, x 7, x 8, x 9, x 10, x 11, x 12, x 13, x 14, x 15, x 16, x 17, x 18, x 19, x 20, x 21, x 22, x 23, x 24, x 25, x 26, x 27, x 28, x 29, x 30, x 31, x 32, x 33, x 34, x 35, x 36, x 37, x 38, x 39, x 40, x 41, x 42, x 43, .int .i64 ((k : Int) + 1), x 45, x 46, x 47, x 48, x 49, x 50, x 51, x 52, x 53, x 54, x 55, x 56, x 57, x 58, x 59, x 60, x 61, x 62, x 63, x 64, x 65, x 66, x 67, x 68, x 69, x 70, x 71, x 72, x 73, x 74, x 75, x 76, x 77, x 78, x 79, x 80, x 81, x 82, x 83, x 84, x 85, x 86, x 87, x 88, x 89, x 90, x 91, x 92, x 93, x 94, x 95, x 96, x 97, x 98, x 99, x 100, x 101, x 102, x 103, x 104, x 105, x 106, x 107, x 108, x 109, x 110, x 111, x 112, x 113, x 114, x 115, x 116, x 117, x 118, x 119, x 120, x 121, x 122, x 123, x 124, x 125, x 126, x 127, x 128, x 129, x 130, x 131, x 132, x 133, x 134, x 135, x 136, x 137, x 138, x 139, x 140, x 141, x 142, x 143, x 144, x 145, x 146], defers := [] } wa := hK _ _ hW (DoMn.pure (by decide) (by decide)) rfl
          rw [E11.out] at hk
          exact hk
        · -- operation 2
          simp only [List.getElem?_toArray, List.getElem?_cons_succ, List.getElem?_cons_zero, Option.some.injEq] at ho
          subst ho
          clear hdep hgd hbef
          unfold fr147
          rw [E9.out]
          go_simp
          have hk : K { tmps := #[x 0, x 1, x 2, x 3, x 4, x 5, x 6, x 7, x 8, x 9, x 10, x 11, x 12, x 13, x 14, x 15, x 16, x 17, x 18, x 19, x 20, x 21, x 22, x 23, x 24, x 25, x 26, x 27, x 28, x 29, x 30, x 31, x 32, x 33, x 34, x 35, x 36, x 37, x 38, x 39, x 40, x 41, x 42, x 43, x 44, .slice DA data.length DC, x 46, x 47, x 48, x 49, x 50, x 51, x 52, x 53, x 54, x 55, x 56, x 57, x 58, x 59, x 60, x 61, x 62, x 63, x 64, x 65, x 66, x 67, x 68, x 69, x 70, x 71, x 72, x 73, x 74, x 75, x 76, x 77, x 78, x 79, x 80, x 81, x 82, x 83, x 84, x 85, x 86, x 87, x 88, x 89, x 90, x 91, x 92, x 93, x 94, x 95, x 96, x 97, x 98, x 99, x 100, x 101, x 102, x 103, x 104, x 105, x 106, x 107, x 108, x 109, x 110, x 111, x 112, x 113, x 114, x 115, x 116, x 117, x 118, x 119, x 120, x 121, x 122, x 123, x 124, x 125, x 126, x 127, x 128, x 129, x 130, x 131, x 132, x 133, x 134, x 135, x 136, x 137, x 138, x 139, x 140, x 141, x 142, x 143, x 144, x 145, x 146], defers := [] } wa := hK _ _ hW (DoMn.pure (by decide) (by decide)) rfl
          rw [E9.out] at hk
          exact hk
        · -- operation 3
          simp only [List.getElem?_toArray, List.getElem?_cons_succ, List.getElem?_cons_zero, Option.some.injEq] at ho
          subst ho
          have p1 : (x 44) = .int .i64 ((k : Int) + 1) := hdep 1 (List.mem_of_elem_eq_true (by kernel_rfl))
          have p2 : (x 45) = .slice DA data.length DC := hdep 2 (List.mem_of_elem_eq_true (by kernel_rfl))
          clear hdep hgd hbef
          unfold fr147
          rw [p1, p2]
          go_simp
          have hk : K { tmps := #[x 0, x 1, x 2, x 3, x 4, x 5, x 6, x 7, x 8, x 9, x 10, x 11, x 12, x 13, x 14, x 15, x 16, x 17, x 18, x 19, x 20, x 21, x 22, x 23, x 24, x 25, x 26, x 27, x 28, x 29, x 30, x 31, x 32, x 33, x 34, x 35, x 36, x 37, x 38, x 39, x 40, x 41, x 42, x 43, x 44, x 45, .agg #[.int .i64 ((k : Int) + 1), .slice DA data.length DC, .bool false, .bool true, .int .i64 0], x 47, x 48, x 49, x 50, x 51, x 52, x 53, x 54, x 55, x 56, x 57, x 58, x 59, x 60, x 61, x 62, x 63, x 64, x 65, x 66, x 67, x 68, x 69, x 70, x 71, x 72, x 73, x 74, x 75, x 76, x 77, x 78, x 79, x 80, x 81, x 82, x 83, x 84, x 85, x 86, x 87, x 88, x 89, x 90, x 91, x 92, x 93, x 94, x 95, x 96, x 97, x 98, x 99, x 100, x 101, x 102, x 103, x 104, x 105, x 106, x 107, x 108, x 109, x 110, x 111, x 112, x 113, x 114, x 115, x 116, x 117, x 118, x 119, x 120, x 121, x 122, x 123, x 124, x 125, x 126, x 127, x 128, x 129, x 130, x 131, x 132, x 133, x 134, x 135, x 136, x 137, x 138, x 139, x 140, x 141, x 142, x 143, x 144, x 145, x 146], defers := [] } wa := hK _ _ hW (DoMn.pure (by decide) (by decide)) rfl
          rw [p1, p2] at hk
          exact hk
        · -- operation 4
          simp only [List.getElem?_toArray, List.getElem?_cons_succ, List.getElem?_cons_zero, Option.some.injEq] at ho
          subst ho
          have p0 : (x 43) = .agg #[(.slice B1 fs.N.length b1), (.slice B2 fs.F.length b2), (.slice B3 fs.O.length b3)] := hdep 0 (List.mem_of_elem_eq_true (by kernel_rfl))
          have p3 : (x 46) = .agg #[.int .i64 ((k : Int) + 1), .slice DA data.length DC, .bool false, .bool true, .int .i64 0] := hdep 3 (List.mem_of_elem_eq_true (by kernel_rfl))
          have e4 : FsO wa B (.slice B1 fs.N.length b1) (.slice B2 fs.F.length b2) (.slice B3 fs.O.length b3) fs ∧ FiR wa ⟨(k : Int) + 1, .slice DA data.length DC, data, false, true, 0⟩ := hbef 4 (by decide) (by kernel_rfl)
          clear hdep hgd hbef
          unfold fr147
          rw [p0, p3]
          go_simp
          refine (HADD.out wa hW.2.1 e4.1 e4.2).mono ?_
          rintro e w8 ⟨p, vF', hins, rfl, ho8, hb8⟩
          rw [insAt_gap HI.out HG.out HKL.out rfl hins] at ho8
          have hk : K { tmps := #[x 0, x 1, x 2, x 3, x 4, x 5, x 6, x 7, x 8, x 9, x 10, x 11, x 12, x 13, x 14, x 15, x 16, x 17, x 18, x 19, x 20, x 21, x 22, x 23, x 24, x 25, x 26, x 27, x 28, x 29, x 30, x 31, x 32, x 33, x 34, x 35, x 36, x 37, x 38, x 39, x 40, x 41, x 42, x 43, x 44, x 45, x 46, .agg #[(.slice B1 fs.N.length b1), vF', (.slice B3 fs.O.length b3)], x 48, x 49, x 50, x 51, x 52, x 53, x 54, x 55, x 56, x 57, x 58, x 59, x 60, x 61, x 62, x 63, x 64, x 65, x 66, x 67, x 68, x 69, x 70, x 71, x 72, x 73, x 74, x 75, x 76, x 77, x 78, x 79, x 80, x 81, x 82, x 83, x 84, x 85, x 86, x 87, x 88, x 89, x 90, x 91, x 92, x 93, x 94, x 95, x 96, x 97, x 98, x 99, x 100, x 101, x 102, x 103, x 104, x 105, x 106, x 107, x 108, x 109, x 110, x 111, x 112, x 113, x 114, x 115, x 116, x 117, x 118, x 119, x 120, x 121, x 122, x 123, x 124, x 125, x 126, x 127, x 128, x 129, x 130, x 131, x 132, x 133, x 134, x 135, x 136, x 137, x 138, x 139, x 140, x 141, x 142, x 143, x 144, x 145, x 146], defers := [] } w8 := hK _ _ (hW.low HGB.out.1 hb8) (by unfold DoMn; rw [if_pos rfl]; exact hb8) ⟨vF', rfl, ho8⟩
          rw [p0, p3] at hk
          exact hk
        · -- operation 5
          simp only [List.getElem?_toArray, List.getElem?_cons_succ, List.getElem?_cons_zero, Option.some.injEq] at ho
          subst ho
          clear hdep hgd hbef
          unfold fr147
          rw [E3.out]
          go_simp
          have hk : K { tmps := #[x 0, x 1, x 2, x 3, x 4, x 5, x 6, x 7, x 8, x 9, x 10, x 11, x 12, x 13, x 14, x 15, x 16, x 17, x 18, x 19, x 20, x 21, x 22, x 23, x 24, x 25, x 26, x 27, x 28, x 29, x 30, x 31, x 32, x 33, x 34, x 35, x 36, x 37, x 38, x 39, x 40, x 41, x 42, x 43, x 44, x 45, x 46, x 47, .pointer (some ⟨w.heap.size + 1, 1, none⟩), x 49, x 50, x 51, x 52, x 53, x 54, x 55, x 56, x 57, x 58, x 59, x 60, x 61, x 62, x 63, x 64, x 65, x 66, x 67, x 68, x 69, x 70, x 71, x 72, x 73, x 74, x 75, x 76, x 77, x 78, x 79, x 80, x 81, x 82, x 83, x 84, x 85, x 86, x 87, x 88, x 89, x 90, x 91, x 92, x 93, x 94, x 95, x 96, x 97, x 98, x 99, x 100, x 101, x 102, x 103, x 104, x 105, x 106, x 107, x 108, x 109, x 110, x 111, x 112, x 113, x 114, x 115, x 116, x 117, x 118, x 119, x 120, x 121, x 122, x 123, x 124, x 125, x 126, x 127, x 128, x 129, x 130, x 131, x 132, x 133, x 134, x 135, x 136, x 137, x 138, x 139, x 140, x 141, x 142, x 143, x 144, x 145, x 146], defers := [] } wa := hK _ _ hW (DoMn.pure (by decide) (by decide)) rfl
          rw [E3.out] at hk
          exact hk
        · -- operation 6
          simp only [List.getElem?_toArray, List.getElem?_cons_succ, List.getElem?_cons_zero, Option.some.injEq] at ho
          subst ho
          have p5 : (x 48) = .pointer (some ⟨w.heap.size + 1, 1, none⟩) := hdep 5 (List.mem_of_elem_eq_true (by kernel_rfl))
          clear hdep hgd hbef
          obtain ⟨x0, x1, x2, x3, x4⟩ := hW.2.2.1.cell5
          unfold fr147
          rw [p5]
          go_simp
          have hk : K { tmps := #[x 0, x 1, x 2, x 3, x 4, x 5, x 6, x 7, x 8, x 9, x 10, x 11, x 12, x 13, x 14, x 15, x 16, x 17, x 18, x 19, x 20, x 21, x 22, x 23, x 24, x 25, x 26, x 27, x 28, x 29, x 30, x 31, x 32, x 33, x 34, x 35, x 36, x 37, x 38, x 39, x 40, x 41, x 42, x 43, x 44, x 45, x 46, x 47, x 48, .string name, x 50, x 51, x 52, x 53, x 54, x 55, x 56, x 57, x 58, x 59, x 60, x 61, x 62, x 63, x 64, x 65, x 66, x 67, x 68, x 69, x 70, x 71, x 72, x 73, x 74, x 75, x 76, x 77, x 78, x 79, x 80, x 81, x 82, x 83, x 84, x 85, x 86, x 87, x 88, x 89, x 90, x 91, x 92, x 93, x 94, x 95, x 96, x 97, x 98, x 99, x 100, x 101, x 102, x 103, x 104, x 105, x 106, x 107, x 108, x 109, x 110, x 111, x 112, x 113, x 114, x 115, x 116, x 117, x 118, x 119, x 120, x 121, x 122, x 123, x 124, x 125, x 126, x 127, x 128, x 129, x 130, x 131, x 132, x 133, x 134, x 135, x 136, x 137, x 138, x 139, x 140, x 141, x 142, x 143, x 144, x 145, x 146], defers := [] } wa := hK _ _ hW (DoMn.pure (by decide) (by decide)) rfl
          rw [p5] at hk
          exact hk
        · -- operation 7
          simp only [List.getElem?_toArray, List.getElem?_cons_succ, List.getElem?_cons_zero, Option.some.injEq] at ho
          subst ho
          clear hdep hgd hbef
          unfold fr147
          rw [E11.out]
          go_simp
          have hk : K { tmps := #[x 0, x 1, x 2, x 3, x 4, x 5, x 6, x 7, x 8, x 9, x 10, x 11, x 12, x 13, x 14, x 15, x 16, x 17, x 18, x 19, x 20, x 21, x 22, x 23, x 24, x 25, x 26, x 27, x 28, x 29, x 30, x 31, x 32, x 33, x 34, x 35, x 36, x 37, x 38, x 39, x 40, x 41, x 42, x 43, x 44, x 45, x 46, x 47, x 48, x 49, .int .i64 ((k : Int) + 1), x 51, x 52, x 53, x 54, x 55, x 56, x 57, x 58, x 59, x 60, x 61, x 62, x 63, x 64, x 65, x 66, x 67, x 68, x 69, x 70, x 71, x 72, x 73, x 74, x 75, x 76, x 77, x 78, x 79, x 80, x 81, x 82, x 83, x 84, x 85, x 86, x 87, x 88, x 89, x 90, x 91, x 92, x 93, x 94, x 95, x 96, x 97, x 98, x 99, x 100, x 101, x 102, x 103, x 104, x 105, x 106, x 107, x 108, x 109, x 110, x 111, x 112, x 113, x 114, x 115, x 116, x 117, x 118, x 119, x 120, x 121, x 122, x 123, x 124, x 125, x 126, x 127, x 128, x 129, x 130, x 131, x 132, x 133, x 134, x 135, x 136, x 137, x 138, x 139, x 140, x 141, x 142, x 143, x 144, x 145, x 146], defers := [] } wa := hK _ _ hW (DoMn.pure (by decide) (by decide)) rfl
          rw [E11.out] at hk
          exact hk
        · -- operation 8
          simp only [List.getElem?_toArray, List.getElem?_cons_succ, List.getElem?_cons_zero, Option.some.injEq] at ho
          subst ho
          have p4 : ∃ vF' : Value, (x 47) = .agg #[(.slice B1 fs.N.length b1), vF', (.slice B3 fs.O.length b3)] ∧ FsO wa B (.slice B1 fs.N.length b1) vF' (.slice B3 fs.O.length b3) ⟨fs.N, (putFile fs.F k ⟨(k : Int) + 1, .slice DA data.length DC, data, false, true, 0⟩), fs.O⟩ := hdep 4 (List.mem_of_elem_eq_true (by kernel_rfl))
          have p6 : (x 49) = .string name := hdep 6 (List.mem_of_elem_eq_true (by kernel_rfl))
          have p7 : (x 50) = .int .i64 ((k : Int) + 1) := hdep 7 (List.mem_of_elem_eq_true (by kernel_rfl))
          clear hdep hgd hbef
          obtain ⟨vF', hv4, hS4⟩ := p4
          unfold fr147
          rw [hv4, p6, p7]
          go_simp
          refine (refLink_any _ _ _ ⟨fs.N, (putFile fs.F k ⟨(k : Int) + 1, .slice DA data.length DC, data, false, true, 0⟩), fs.O⟩ name ((k : Int) + 1) wa hS4.t HMN.out).mono ?_
          rintro e w8 ⟨p, vN', hins, rfl, ho8, hb8⟩
          rw [insN_put (NSrt.rm HI.out.n name) (fun q hq => (mem_rm.1 hq).2) hins] at ho8
          have hk : K { tmps := #[x 0, x 1, x 2, x 3, x 4, x 5, x 6, x 7, x 8, x 9, x 10, x 11, x 12, x 13, x 14, x 15, x 16, x 17, x 18, x 19, x 20, x 21, x 22, x 23, x 24, x 25, x 26, x 27, x 28, x 29, x 30, x 31, x 32, x 33, x 34, x 35, x 36, x 37, x 38, x 39, x 40, x 41, x 42, x 43, x 44, x 45, x 46, x 47, x 48, x 49, x 50, .agg #[vN', vF', (.slice B3 fs.O.length b3)], x 52, x 53, x 54, x 55, x 56, x 57, x 58, x 59, x 60, x 61, x 62, x 63, x 64, x 65, x 66, x 67, x 68, x 69, x 70, x 71, x 72, x 73, x 74, x 75, x 76, x 77, x 78, x 79, x 80, x 81, x 82, x 83, x 84, x 85, x 86, x 87, x 88, x 89, x 90, x 91, x 92, x 93, x 94, x 95, x 96, x 97, x 98, x 99, x 100, x 101, x 102, x 103, x 104, x 105, x 106, x 107, x 108, x 109, x 110, x 111, x 112, x 113, x 114, x 115, x 116, x 117, x 118, x 119, x 120, x 121, x 122, x 123, x 124, x 125, x 126, x 127, x 128, x 129, x 130, x 131, x 132, x 133, x 134, x 135, x 136, x 137, x 138, x 139, x 140, x 141, x 142, x 143, x 144, x 145, x 146], defers := [] } w8 := hK _ _ (hW.up HGB.out.1 hb8) (by unfold DoMn; rw [if_neg (by decide), if_neg (by decide)]; exact hb8) ⟨vN', vF', rfl, own_mono ho8 hW.2.1, own_bel hS4.f hb8, own_bel hS4.o hb8, fun t ht => (hS4.d t ht).up hb8⟩
          rw [hv4, p6, p7] at hk
          exact hk
        · -- operation 9
          simp only [List.getElem?_toArray, List.getElem?_cons_succ, List.getElem?_cons_zero, Option.some.injEq] at ho
          subst ho
          have p8 : ∃ vN' vF' : Value, (x 51) = .agg #[vN', vF', (.slice B3 fs.O.length b3)] ∧ FsO wa B vN' vF' (.slice B3 fs.O.length b3) (⟨(putName (rmName fs.N name) ⟨name, (k : Int) + 1⟩), (putFile fs.F k ⟨(k : Int) + 1, .slice DA data.length DC, data, false, true, 0⟩), fs.O⟩ : FS) := hdep 8 (List.mem_of_elem_eq_true (by kernel_rfl))
          clear hdep hgd hbef
          obtain ⟨vN', vF', hv8, hS8⟩ := p8
          obtain ⟨B4, b4, rfl, _⟩ := own_sl hS8.n
          obtain ⟨B5, b5, rfl, _⟩ := own_sl hS8.f
          obtain ⟨a0, a1, a2, hb0⟩ := hW.2.2.2.2
          obtain ⟨f0, f1, f2⟩ := hb0.cell3
          obtain ⟨q0, q1, q2⟩ := hb0.froz3
          have hk : K { tmps := #[x 0, x 1, x 2, x 3, x 4, x 5, x 6, x 7, x 8, x 9, x 10, x 11, x 12, x 13, x 14, x 15, x 16, x 17, x 18, x 19, x 20, x 21, x 22, x 23, x 24, x 25, x 26, x 27, x 28, x 29, x 30, x 31, x 32, x 33, x 34, x 35, x 36, x 37, x 38, x 39, x 40, x 41, x 42, x 43, x 44, x 45, x 46, x 47, x 48, x 49, x 50, x 51, x 52, x 53, x 54, x 55, x 56, x 57, x 58, x 59, x 60, x 61, x 62, x 63, x 64, x 65, x 66, x 67, x 68, x 69, x 70, x 71, x 72, x 73, x 74, x 75, x 76, x 77, x 78, x 79, x 80, x 81, x 82, x 83, x 84, x 85, x 86, x 87, x 88, x 89, x 90, x 91, x 92, x 93, x 94, x 95, x 96, x 97, x 98, x 99, x 100, x 101, x 102, x 103, x 104, x 105, x 106, x 107, x 108, x 109, x 110, x 111, x 112, x 113, x 114, x 115, x 116, x 117, x 118, x 119, x 120, x 121, x 122, x 123, x 124, x 125, x 126, x 127, x 128, x 129, x 130, x 131, x 132, x 133, x 134, x 135, x 136, x 137, x 138, x 139, x 140, x 141, x 142, x 143, x 144, x 145, x 146], defers := [] } (((wa.setCell ⟨w.heap.size, 0, none⟩ (.slice B4 (putName (rmName fs.N name) ⟨name, (k : Int) + 1⟩).length b4)).setCell ⟨w.heap.size, 1, none⟩ (.slice B5 (putFile fs.F k ⟨(k : Int) + 1, .slice DA data.length DC, data, false, true, 0⟩).length b5)).setCell ⟨w.heap.size, 2, none⟩ (.slice B3 fs.O.length b3)) := hK undef _ (hW.box _ _ _) (by unfold DoMn; rw [if_neg (by decide), if_pos rfl]; exact ⟨grown_three wa w.heap.size _ _ _, _, _, _, hb0⟩) ⟨_, _, hb0.three _ _ _, hS8.box hb0 (grown_three wa w.heap.size _ _ _)⟩
          unfold fr147
          rw [E2.out, hv8]
          rw [E2.out, hv8] at hk
          clear hv8
          go_simp
          exact hk
      case skip =>
        intro i o j b ho hgd
        have hi : i < 10 := (Array.getElem?_eq_some_iff.1 ho).1
        have hcase : i = 0 ∨ i = 1 ∨ i = 2 ∨ i = 3 ∨ i = 4 ∨ i = 5 ∨ i = 6 ∨ i = 7 ∨ i = 8 ∨ i = 9 := by omega
        rcases hcase with rfl | rfl | rfl | rfl | rfl | rfl | rfl | rfl | rfl | rfl <;> (simp only [List.getElem?_toArray, List.getElem?_cons_succ, List.getElem?_cons_zero, Option.some.injEq] at ho; subst ho; cases hgd)
      case done =>
        intro x wd hout hW hall
        have pst := hall 9 (by decide)
        obtain ⟨vN', vF', hbx, hSx⟩ := pst
        refine HK.out _ _ ?_
        unfold fr147
        rw [(hout 0 (by decide)).trans (hx0 0), (hout 1 (by decide)).trans (hx0 1), (hout 2 (by decide)).trans (hx0 2), (hout 3 (by decide)).trans (hx0 3), (hout 4 (by decide)).trans (hx0 4), (hout 5 (by decide)).trans (hx0 5), (hout 6 (by decide)).trans (hx0 6), (hout 7 (by decide)).trans (hx0 7), (hout 8 (by decide)).trans (hx0 8), (hout 9 (by decide)).trans (hx0 9), (hout 10 (by decide)).trans (hx0 10), (hout 11 (by decide)).trans (hx0 11), (hout 12 (by decide)).trans (hx0 12), (hout 13 (by decide)).trans (hx0 13), (hout 14 (by decide)).trans (hx0 14), (hout 15 (by decide)).trans (hx0 15), (hout 16 (by decide)).trans (hx0 16), (hout 17 (by decide)).trans (hx0 17), (hout 18 (by decide)).trans (hx0 18), (hout 19 (by decide)).trans (hx0 19), (hout 20 (by decide)).trans (hx0 20), (hout 21 (by decide)).trans (hx0 21), (hout 22 (by decide)).trans (hx0 22), (hout 23 (by decide)).trans (hx0 23), (hout 24 (by decide)).trans (hx0 24), (hout 25 (by decide)).trans (hx0 25), (hout 26 (by decide)).trans (hx0 26), (hout 27 (by decide)).trans (hx0 27), (hout 28 (by decide)).trans (hx0 28), (hout 29 (by decide)).trans (hx0 29), (hout 30 (by decide)).trans (hx0 30), (hout 31 (by decide)).trans (hx0 31), (hout 32 (by decide)).trans (hx0 32), (hout 33 (by decide)).trans (hx0 33), (hout 34 (by decide)).trans (hx0 34), (hout 35 (by decide)).trans (hx0 35), (hout 36 (by decide)).trans (hx0 36), (hout 37 (by decide)).trans (hx0 37), (hout 38 (by decide)).trans (hx0 38), (hout 39 (by decide)).trans (hx0 39), (hout 40 (by decide)).trans (hx0 40), (hout 41 (by decide)).trans (hx0 41), (hout 42 (by decide)).trans (hx0 42), (hout 52 (by decide)).trans (hx0 52), (hout 53 (by decide)).trans (hx0 53), (hout 54 (by decide)).trans (hx0 54), (hout 55 (by decide)).trans (hx0 55), (hout 56 (by decide)).trans (hx0 56), (hout 57 (by decide)).trans (hx0 57), (hout 58 (by decide)).trans (hx0 58), (hout 59 (by decide)).trans (hx0 59), (hout 60 (by decide)).trans (hx0 60), (hout 61 (by decide)).trans (hx0 61), (hout 62 (by decide)).trans (hx0 62), (hout 63 (by decide)).trans (hx0 63), (hout 64 (by decide)).trans (hx0 64), (hout 65 (by decide)).trans (hx0 65), (hout 66 (by decide)).trans (hx0 66), (hout 67 (by decide)).trans (hx0 67), (hout 68 (by decide)).trans (hx0 68), (hout 69 (by decide)).trans (hx0 69), (hout 70 (by decide)).trans (hx0 70), (hout 71 (by decide)).trans (hx0 71), (hout 72 (by decide)).trans (hx0 72), (hout 73 (by decide)).trans (hx0 73), (hout 74 (by decide)).trans (hx0 74), (hout 75 (by decide)).trans (hx0 75), (hout 76 (by decide)).trans (hx0 76), (hout 77 (by decide)).trans (hx0 77), (hout 78 (by decide)).trans (hx0 78), (hout 79 (by decide)).trans (hx0 79), (hout 80 (by decide)).trans (hx0 80), (hout 81 (by decide)).trans (hx0 81), (hout 82 (by decide)).trans (hx0 82), (hout 83 (by decide)).trans (hx0 83), (hout 84 (by decide)).trans (hx0 84), (hout 85 (by decide)).trans (hx0 85), (hout 86 (by decide)).trans (hx0 86), (hout 87 (by decide)).trans (hx0 87), (hout 88 (by decide)).trans (hx0 88), (hout 89 (by decide)).trans (hx0 89), (hout 90 (by decide)).trans (hx0 90), (hout 91 (by decide)).trans (hx0 91), (hout 92 (by decide)).trans (hx0 92), (hout 93 (by decide)).trans (hx0 93), (hout 94 (by decide)).trans (hx0 94), (hout 95 (by decide)).trans (hx0 95), (hout 96 (by decide)).trans (hx0 96), (hout 97 (by decide)).trans (hx0 97), (hout 98 (by decide)).trans (hx0 98), (hout 99 (by decide)).trans (hx0 99), (hout 100 (by decide)).trans (hx0 100), (hout 101 (by decide)).trans (hx0 101), (hout 102 (by decide)).trans (hx0 102), (hout 103 (by decide)).trans (hx0 103), (hout 104 (by decide)).trans (hx0 104), (hout 105 (by decide)).trans (hx0 105), (hout 106 (by decide)).trans (hx0 106), (hout 107 (by decide)).trans (hx0 107), (hout 108 (by decide)).trans (hx0 108), (hout 109 (by decide)).trans (hx0 109), (hout 110 (by decide)).trans (hx0 110), (hout 111 (by decide)).trans (hx0 111), (hout 112 (by decide)).trans (hx0 112), (hout 113 (by decide)).trans (hx0 113), (hout 114 (by decide)).trans (hx0 114), (hout 115 (by decide)).trans (hx0 115), (hout 116 (by decide)).trans (hx0 116), (hout 117 (by decide)).trans (hx0 117), (hout 118 (by decide)).trans (hx0 118), (hout 119 (by decide)).trans (hx0 119), (hout 120 (by decide)).trans (hx0 120), (hout 121 (by decide)).trans (hx0 121), (hout 122 (by decide)).trans (hx0 122), (hout 123 (by decide)).trans (hx0 123), (hout 124 (by decide)).trans (hx0 124), (hout 125 (by decide)).trans (hx0 125), (hout 126 (by decide)).trans (hx0 126), (hout 127 (by decide)).trans (hx0 127), (hout 128 (by decide)).trans (hx0 128), (hout 129 (by decide)).trans (hx0 129), (hout 130 (by decide)).trans (hx0 130), (hout 131 (by decide)).trans (hx0 131), (hout 132 (by decide)).trans (hx0 132), (hout 133 (by decide)).trans (hx0 133), (hout 134 (by decide)).trans (hx0 134), (hout 135 (by decide)).trans (hx0 135), (hout 136 (by decide)).trans (hx0 136), (hout 137 (by decide)).trans (hx0 137), (hout 138 (by decide)).trans (hx0 138), (hout 139 (by decide)).trans (hx0 139), (hout 140 (by decide)).trans (hx0 140), (hout 141 (by decide)).trans (hx0 141), (hout 142 (by decide)).trans (hx0 142), (hout 143 (by decide)).trans (hx0 143), (hout 144 (by decide)).trans (hx0 144), (hout 145 (by decide)).trans (hx0 145), (hout 146 (by decide)).trans (hx0 146)]
        simp only [Array.getD_eq_getD_getElem?, List.getElem?_toArray, List.getElem?_cons_succ, List.getElem?_cons_zero, Option.getD_some]
        have HFx := keep hbx
        have HSx := keep hSx
        have HZx := keep hW.2.2.2.1
        have HBx := keep hW.1
        have HLN : Hid ((⟨(putName (rmName fs.N name) ⟨name, (k : Int) + 1⟩), (putFile fs.F k ⟨(k : Int) + 1, .slice DA data.length DC, data, false, true, 0⟩), fs.O⟩ : FS).N.length ≤ 1000000) := keep (by show (putName (rmName fs.N name) ⟨name, (k : Int) + 1⟩).length ≤ 1000000; rw [putName_len]; have := rmName_len fs.N name; omega)
        have HLF : Hid ((⟨(putName (rmName fs.N name) ⟨name, (k : Int) + 1⟩), (putFile fs.F k ⟨(k : Int) + 1, .slice DA data.length DC, data, false, true, 0⟩), fs.O⟩ : FS).F.length ≤ 1000000) := keep (by show (putFile fs.F k ⟨(k : Int) + 1, .slice DA data.length DC, data, false, true, 0⟩).length ≤ 1000000; have := putFile_len fs.F k ⟨(k : Int) + 1, .slice DA data.length DC, data, false, true, 0⟩; omega)
        have HLO : Hid ((⟨(putName (rmName fs.N name) ⟨name, (k : Int) + 1⟩), (putFile fs.F k ⟨(k : Int) + 1, .slice DA data.length DC, data, false, true, 0⟩), fs.O⟩ : FS).O.length ≤ 1000000) := keep (by show fs.O.length ≤ 1000000; omega)
        obtain ⟨B4, b4, rfl, _⟩ := own_sl hSx.n
        obtain ⟨B5, b5, rfl, _⟩ := own_sl hSx.f
        clear hall hout hx0 y2 y3 y11 y9 HK hbx hSx hW
        have HMET : Hid (MetSt fs ⟨8, name, dst, .slice A data.length cc, data, n⟩ 0 (⟨(putName (rmName fs.N name) ⟨name, (k : Int) + 1⟩), (putFile fs.F k ⟨(k : Int) + 1, .slice DA data.length DC, data, false, true, 0⟩), fs.O⟩ : FS)) := keep (.inr (.inr (.inr (.inr (.inr (.inr (.inr ⟨rfl, by
          obtain ⟨i, hii, e⟩ := HEX.out
          refine .inr ⟨i, hii, e, .inr ⟨HDL.out, rfl, k, .slice DA data.length DC, HG.out, ?_⟩⟩
          show FS.mk _ _ _ = FS.mk (fs.N.set i ⟨name, (k : Int) + 1⟩) _ _
          rw [link_set HI.out.n hii e]; rfl⟩)))))))
        have HSW := keep (refSweep_any _ _ _ (⟨(putName (rmName fs.N name) ⟨name, (k : Int) + 1⟩), (putFile fs.F k ⟨(k : Int) + 1, .slice DA data.length DC, data, false, true, 0⟩), fs.O⟩ : FS) wd HSx.out.t HLF.out HLN.out HLO.out)
        obtain ⟨f0, f1, f2⟩ := HFx.out.cell3
        go_wp2_with fail
        refine HSW.out.mono ?_
        rintro e wz ⟨vFz, rfl, hoF, hbz⟩
        obtain ⟨G2, g2, rfl, _⟩ := own_sl hoF
        have hZz := HZx.out.below hbz HZx.out.lt
        have hgz := grown_three wz (w.heap.size + 1 + 1) (.slice B4 (putName (rmName fs.N name) ⟨name, (k : Int) + 1⟩).length b4) (.slice G2 ((⟨(putName (rmName fs.N name) ⟨name, (k : Int) + 1⟩), (putFile fs.F k ⟨(k : Int) + 1, .slice DA data.length DC, data, false, true, 0⟩), fs.O⟩ : FS).F.filter (stays (⟨(putName (rmName fs.N name) ⟨name, (k : Int) + 1⟩), (putFile fs.F k ⟨(k : Int) + 1, .slice DA data.length DC, data, false, true, 0⟩), fs.O⟩ : FS))).length g2) (.slice B3 fs.O.length b3)
        have hSz := HSx.out.up hbz
        have hTz : FsT wz (.slice B4 (putName (rmName fs.N name) ⟨name, (k : Int) + 1⟩).length b4) (.slice G2 ((⟨(putName (rmName fs.N name) ⟨name, (k : Int) + 1⟩), (putFile fs.F k ⟨(k : Int) + 1, .slice DA data.length DC, data, false, true, 0⟩), fs.O⟩ : FS).F.filter (stays (⟨(putName (rmName fs.N name) ⟨name, (k : Int) + 1⟩), (putFile fs.F k ⟨(k : Int) + 1, .slice DA data.length DC, data, false, true, 0⟩), fs.O⟩ : FS))).length g2) (.slice B3 fs.O.length b3) (purged (⟨(putName (rmName fs.N name) ⟨name, (k : Int) + 1⟩), (putFile fs.F k ⟨(k : Int) + 1, .slice DA data.length DC, data, false, true, 0⟩), fs.O⟩ : FS)) := by
          have hp : purged (⟨(putName (rmName fs.N name) ⟨name, (k : Int) + 1⟩), (putFile fs.F k ⟨(k : Int) + 1, .slice DA data.length DC, data, false, true, 0⟩), fs.O⟩ : FS) = ⟨(⟨(putName (rmName fs.N name) ⟨name, (k : Int) + 1⟩), (putFile fs.F k ⟨(k : Int) + 1, .slice DA data.length DC, data, false, true, 0⟩), fs.O⟩ : FS).N, (⟨(putName (rmName fs.N name) ⟨name, (k : Int) + 1⟩), (putFile fs.F k ⟨(k : Int) + 1, .slice DA data.length DC, data, false, true, 0⟩), fs.O⟩ : FS).F.filter (stays (⟨(putName (rmName fs.N name) ⟨name, (k : Int) + 1⟩), (putFile fs.F k ⟨(k : Int) + 1, .slice DA data.length DC, data, false, true, 0⟩), fs.O⟩ : FS)), (⟨(putName (rmName fs.N name) ⟨name, (k : Int) + 1⟩), (putFile fs.F k ⟨(k : Int) + 1, .slice DA data.length DC, data, false, true, 0⟩), fs.O⟩ : FS).O⟩ := by unfold purged; rw [stays_goes]
          rw [hp]
          exact ⟨own_ty hSz.n, own_ty hoF, own_ty hSz.o, fun t ht => hSz.d t (List.mem_filter.1 ht).1⟩
        have HTz := keep (hTz.grown hZz hgz (by decide) (by decide) (by decide) (by decide))
        have HZz := keep (hZz.three (.slice B4 (putName (rmName fs.N name) ⟨name, (k : Int) + 1⟩).length b4) (.slice G2 ((⟨(putName (rmName fs.N name) ⟨name, (k : Int) + 1⟩), (putFile fs.F k ⟨(k : Int) + 1, .slice DA data.length DC, data, false, true, 0⟩), fs.O⟩ : FS).F.filter (stays (⟨(putName (rmName fs.N name) ⟨name, (k : Int) + 1⟩), (putFile fs.F k ⟨(k : Int) + 1, .slice DA data.length DC, data, false, true, 0⟩), fs.O⟩ : FS))).length g2) (.slice B3 fs.O.length b3))
        have HBz := keep (below_three (bchain HBx.out hbz) (show w.heap.size ≤ w.heap.size + 1 + 1 by omega) (.slice B4 (putName (rmName fs.N name) ⟨name, (k : Int) + 1⟩).length b4) (.slice G2 ((⟨(putName (rmName fs.N name) ⟨name, (k : Int) + 1⟩), (putFile fs.F k ⟨(k : Int) + 1, .slice DA data.length DC, data, false, true, 0⟩), fs.O⟩ : FS).F.filter (stays (⟨(putName (rmName fs.N name) ⟨name, (k : Int) + 1⟩), (putFile fs.F k ⟨(k : Int) + 1, .slice DA data.length DC, data, false, true, 0⟩), fs.O⟩ : FS))).length g2) (.slice B3 fs.O.length b3))
        obtain ⟨z0, z1, z2⟩ := hZz.cell3
        obtain ⟨y0, y1, y2⟩ := hZz.froz3
        clear hbz hoF hZz hgz hSz hTz f0 f1 f2
        go_wp2_with fail
        have hdo := doSt_p HI.out (show DoSt fs ⟨8, name, dst, .slice A data.length cc, data, n⟩ 0 (purged (⟨(putName (rmName fs.N name) ⟨name, (k : Int) + 1⟩), (putFile fs.F k ⟨(k : Int) + 1, .slice DA data.length DC, data, false, true, 0⟩), fs.O⟩ : FS)) from .inr ⟨⟨by show (1:Int) ≤ 8; decide, by show (8:Int) ≤ 8; decide⟩, .inr ⟨badNm_no HBAD.out, .inr ⟨rfl, (⟨(putName (rmName fs.N name) ⟨name, (k : Int) + 1⟩), (putFile fs.F k ⟨(k : Int) + 1, .slice DA data.length DC, data, false, true, 0⟩), fs.O⟩ : FS), HMET.out, rfl⟩⟩⟩)
        refine bodyPost_ret (results_cell_row_tmp rfl _ _ (w.heap.size + 1 + 1) _ _ _ _ rfl HZz.out Try.underlying40 rfl (by kernel_rfl)) rfl ?_
        exact ⟨purged (⟨(putName (rmName fs.N name) ⟨name, (k : Int) + 1⟩), (putFile fs.F k ⟨(k : Int) + 1, .slice DA data.length DC, data, false, true, 0⟩), fs.O⟩ : FS), _, _, _, by rw [HE0.out]; rfl, HTz.out, congrArg Prod.snd hdo.1, hdo.2.1, hdo.2.2, HBz.out⟩
  · have e1 : (e0 == 0) = false := beq_eq_false_iff_ne.2 hz
    obtain ⟨z0, z1, z2⟩ := HZ1.out.cell3
    obtain ⟨r0, r1, r2⟩ := HZ1.out.froz3
    have HNZ := keep hz
    have hgr := grown_three w1 (w.heap.size + 1 + 1) (.slice A1 fs.N.length c1) (.slice A2 fs.F.length c2) (.slice A3 fs.O.length c3)
    have HT3 := keep (HT1.out.grown HZ1.out hgr (by decide) (by decide) (by decide) (by decide))
    have HZ3 := keep (HZ1.out.three (.slice A1 fs.N.length c1) (.slice A2 fs.F.length c2) (.slice A3 fs.O.length c3))
    have HB3 := keep (below_three HB1.out (show w.heap.size ≤ w.heap.size + 1 + 1 by omega) (.slice A1 fs.N.length c1) (.slice A2 fs.F.length c2) (.slice A3 fs.O.length c3))
    clear hz hgr
    go_wp2_with fail
    refine bodyPost_ret (results_cell_row_tmp rfl _ _ (w.heap.size + 1 + 1) _ _ _ _ rfl HZ3.out Try.underlying40 rfl (by kernel_rfl)) rfl ?_
    exact ⟨fs, _, _, _, by rw [HE0.out]; rfl, HT3.out, (doP_err (by rw [HE0.out]; exact HNZ.out)).symm, HI.out, rfl, HB3.out⟩
end Go.Proofs.Ytgegmefnbkcdkaa
