/- The method startCopy. -/
import Derived.Test.YtgegmefnbkcdkaaDoorFsReplace
namespace Go.Proofs.YtgegmefnbkcdkaaDoor
open Go.RowKit
/-- What startCopy does. -/
def StartSt (fs : FS) (c : Ch) (e : Int) (fs' : FS) : Prop :=
  ((∀ t ∈ fs.N, t.nm ≠ c.name) ∧ e = 12 ∧ fs' = fs) ∨
  ∃ (i k : Nat) (hi : i < fs.N.length) (hk : k < fs.F.length), fs.N[i].nm = c.name ∧ fs.F[k].ino = fs.N[i].ino ∧
    ((fs.F[k].cp = true ∧ fs.F[k].wh = false ∧ e = 13 ∧ fs' = fs) ∨ ((fs.F[k].cp = false ∨ fs.F[k].wh = true) ∧
      (((∃ t ∈ fs.N, t.nm = c.dst) ∧ e = 11 ∧ fs' = fs) ∨ ((∀ t ∈ fs.N, t.nm ≠ c.dst) ∧
        ((40 ≤ fs.N.length ∧ e = 4 ∧ fs' = fs) ∨ (fs.N.length < 40 ∧ e = 0 ∧ ∃ (k2 : Nat) (dv : Value), Gap fs.F k2 ∧
          fs' = ⟨putName fs.N ⟨c.dst, (k2 : Int) + 1⟩, putFile fs.F k2 ⟨0, dv, fs.F[k].data, true, false, fs.F[k].data.length⟩, fs.O⟩))))))
theorem Blk.cell5 {w : World} {g : Nat} {t : TypeId} {a b c d e : Value} (h : Blk w g t #[a, b, c, d, e]) : w.cell? ⟨g, 0, none⟩ = some a ∧ w.cell? ⟨g, 1, none⟩ = some b ∧ w.cell? ⟨g, 2, none⟩ = some c ∧ w.cell? ⟨g, 3, none⟩ = some d ∧ w.cell? ⟨g, 4, none⟩ = some e :=
  ⟨(h.cell 0).trans rfl, (h.cell 1).trans rfl, (h.cell 2).trans rfl, (h.cell 3).trans rfl, (h.cell 4).trans rfl⟩
theorem Blk.froz5 {w : World} {g : Nat} {t : TypeId} {cs : Array Value} (h : Blk w g t cs) : w.frozen? ⟨g, 0, none⟩ = false ∧ w.frozen? ⟨g, 1, none⟩ = false ∧ w.frozen? ⟨g, 2, none⟩ = false ∧ w.frozen? ⟨g, 3, none⟩ = false ∧ w.frozen? ⟨g, 4, none⟩ = false :=
  ⟨h.frozen 0, h.frozen 1, h.frozen 2, h.frozen 3, h.frozen 4⟩
theorem Held.five {B g : Nat} {W a : World} (h : Held B W a) (hg : B ≤ g) (b0 b1 b2 b3 b4 : Value) :
    Held B W (((((a.setCell ⟨g, 0, none⟩ b0).setCell ⟨g, 1, none⟩ b1).setCell ⟨g, 2, none⟩ b2).setCell ⟨g, 3, none⟩ b3).setCell ⟨g, 4, none⟩ b4) :=
  Held.of_below (below_five h.2.2 hg b0 b1 b2 b3 b4)
theorem below_drew_of {B : Nat} {a w : World} (_ : Below B a w) : Below w.heap.size w w.drew := (Below.refl _ w).drew
theorem addCopy (gd B : Nat) (fs : FS) (dv : Value) (l : List UInt8) (w : World) (hB : B ≤ w.heap.size) (h : Dir w B gd fs) (ht : FiR w ⟨0, dv, l, true, false, l.length⟩) (hm : Small fs) :
    Calls Tryd.prog 89 #[.pointer (some ⟨gd, 0, none⟩), .agg #[.int .i64 0, dv, .bool true, .bool false, .int .i64 l.length]] w (AddRes B gd fs ⟨0, dv, l, true, false, l.length⟩ w) :=
  addFile_any gd B fs ⟨0, dv, l, true, false, l.length⟩ w hB h ht hm
set_option maxHeartbeats 8000000 in
set_option maxRecDepth 100000 in
theorem start_any (gd B : Nat) (fs : FS) (c : Ch) (w : World) (hB : B ≤ w.heap.size) (h : Dir w B gd fs) (hs : NSrt fs.N) (hf : FSrt fs.F) (hm : Small fs) (hm2 : fs.F.length ≤ 900) (hall : ∀ n ∈ fs.N, ∃ t ∈ fs.F, t.ino = n.ino) (hc : BR w c.dv c.data) :
    Calls Tryd.prog 83 #[.pointer (some ⟨gd, 0, none⟩), .agg (chV c)] w fun x w' => ∃ e fs', StartSt fs c e fs' ∧ MetRes B gd e fs' w x w' := by
  obtain ⟨A, cc, hv, _, _⟩ := Sl.form hc
  obtain ⟨kind, name, dst, dv, data, n⟩ := c
  simp only at hv
  subst hv
  simp only [chV]
  clear hc
  obtain ⟨W, hW⟩ : ∃ W, W = w.alloc (.cells #[.int .i64 kind, .string name, .string dst, .slice A data.length cc, .int .i64 n] 39) := ⟨_, rfl⟩
  have hBx : Blk W w.heap.size 39 #[.int .i64 kind, .string name, .string dst, .slice A data.length cc, .int .i64 n] := hW ▸ Blk.new _ _ _
  have hb : Below w.heap.size w W := hW ▸ (Below.refl _ w).alloc (Nat.le_refl _) _
  have k1 : W.cell? ⟨w.heap.size, 1, none⟩ = some (.string name) := (hBx.cell 1).trans rfl
  have hD := h.up hb
  obtain ⟨hBg, vN, vF, vO, hBk, hO⟩ := id hD
  obtain ⟨g, hg⟩ : ∃ g, fs.F = [] ∨ vF.ownBlock = some g := by
    rcases hO.f.2 with ⟨_, h0⟩ | ⟨g, cap, cur, h1, _⟩
    · exact ⟨0, .inl (List.eq_nil_of_length_eq_zero h0)⟩
    · exact ⟨g, .inr (by rw [h1]; rfl)⟩
  have hq := file_any gd B g fs name vN vF vO W hBk hO hg hs hf hm hall
  have HQ := keep hq
  have HD := keep hD
  have HB := keep hb
  have HBK := keep hBk
  have HBX := keep hBx
  have HO := keep hO
  have HG := keep hg
  have HM := keep hm
  clear hq hD hBk hO hb h hBx hall hg hm
  go_enter Tryd.func83, Tryd.ntmps83
  go_wp2_with fail
  rw [← hW]
  clear hW
  go_wp2_with fail
  refine HQ.out.mono ?_
  rintro e w1 ⟨hb1, hr⟩
  have hB1 := bchain HB.out hb1
  have hX1 := HBX.out.below hb1 HBX.out.lt
  have q2 : w1.cell? ⟨w.heap.size, 2, none⟩ = some (.string dst) := (hX1.cell 2).trans rfl
  have hBk1 := HBK.out.below hb1 HBK.out.lt
  have hO1 := HO.out.up hb1
  have hq2 := name_any gd dst _ fs.N w1 ((hBk1.cell 0).trans rfl) hO1.r.n hs (by have := HM.out.n; omega)
  have HQ2 := keep hq2
  have HB1 := keep hB1
  have HX1 := keep hX1
  have HBK1 := keep hBk1
  have HO1 := keep hO1
  have HD1 := keep (HD.out.up hb1)
  clear hq2 hB1 hX1 hBk1 hO1 hb1
  rcases hr with ⟨hno, rfl⟩ | ⟨i, k, hi, hk, hnm, hino, rfl⟩
  · have HNO := keep hno
    clear hno
    go_wp2_with fail
    refine HQ2.out.mono ?_
    rintro e w2 ⟨i2, hA2, rfl, hb2⟩
    have HD2 := keep (HD1.out.up hb2)
    have HB2 := keep ((bchain HB1.out hb2).mono hB)
    clear hA2 hb2
    generalize decide (cfAt_nm (cfn dst) fs.N i2 = 0) = q
    go_wp2_with fail
    go_ret
    exact ⟨12, _, .inl ⟨HNO.out, rfl, rfl⟩, rfl, HD2.out, HB2.out⟩
  · have HNM := keep hnm
    have HINO := keep hino
    clear hnm hino
    go_wp2_with fail
    refine HQ2.out.mono ?_
    rintro e w2 ⟨i2, hA2, rfl, hb2⟩
    have hg' : vF.ownBlock = some g := by
      rcases HG.out with h | h
      · rw [h] at hk; simp at hk
      · exact h
    have hB2 := bchain HB1.out hb2
    have hO2 := HO1.out.up hb2
    have hBk2 := HBK1.out.below hb2 HBK1.out.lt
    have hX2 := HX1.out.below hb2 HX1.out.lt
    obtain ⟨cap, cur, hvF, _⟩ := own_at hO2.f hg'
    have hof : w2.ownsRow B 60 5 (.slice (some ⟨g, 0, none⟩) fs.F.length cap) fs.F.length (fis fs.F) := hvF ▸ hO2.f
    obtain ⟨_, c1, c2, c3, _⟩ := own_fiCells hof rfl hk
    have HD2 := keep (HD1.out.up hb2)
    have HB2 := keep hB2
    have HO2 := keep hO2
    have HX2 := keep hX2
    have HA2 := keep hA2
    obtain ⟨A1, C1, rfl, _⟩ := own_sl hO2.n
    have q0 : w2.cell? ⟨gd, 0, none⟩ = some (.slice A1 fs.N.length C1) := (hBk2.cell 0).trans rfl
    have hR2 := hO2.d _ (List.getElem_mem hk)
    obtain ⟨FA, FC, hfd⟩ := hR2.form
    rw [hfd] at c1
    have HFD := keep hfd
    have HR2 := keep hR2
    clear hA2 hb2 hB2 hO2 hBk2 hX2 hof hR2 hfd
    by_cases hcw : fs.F[k].cp = true ∧ fs.F[k].wh = false
    · obtain ⟨hcp, hwh⟩ := hcw
      rw [hcp] at c2
      rw [hwh] at c3
      have HCP := keep (And.intro hcp hwh)
      clear hcp hwh c1 q0 q2
      generalize decide (cfAt_nm (cfn dst) fs.N i2 = 0) = q
      go_wp2_with fail
      go_ret
      exact ⟨13, _, .inr ⟨i, k, hi, hk, HNM.out, HINO.out, .inl ⟨HCP.out.1, HCP.out.2, rfl, rfl⟩⟩, rfl, HD2.out, HB2.out.mono hB⟩
    · have hcw' : fs.F[k].cp = false ∨ fs.F[k].wh = true := by
        cases h1 : fs.F[k].cp <;> cases h2 : fs.F[k].wh <;> simp_all
      have HCW := keep hcw'
      have hbq : (fs.F[k].cp && !fs.F[k].wh) = false := by
        rcases hcw' with h | h
        · rw [h]; rfl
        · rw [h]; simp
      clear hcw hcw'
      have hgo : ∀ (Q : Prop) (a b : Bool), (a && !b) = false → (a = false ∧ True → Q) → (a = true ∧ b = true → Q) → Q := by
        intro Q a b h h1 h2
        cases a <;> cases b <;> simp_all
      by_cases hc : cfAt_nm (cfn dst) fs.N i2 = 0
      · rw [decide_eq_true hc]
        obtain ⟨hi2, hnm2, _⟩ := at_rm_yes hs hc
        have HNM2 := keep hnm2
        clear hnm2 hc c1 q0 q2
        refine hgo _ _ _ hbq (fun h => ?_) (fun h => ?_)
        all_goals
          clear hgo hbq
          first
            | (rw [h.1] at c2; rw [h.2] at c3; clear h)
            | (rw [h.1] at c2; clear h)
          go_wp2_with fail
          go_ret
          exact ⟨11, _, .inr ⟨i, k, hi, hk, HNM.out, HINO.out, .inr ⟨HCW.out, .inl ⟨⟨_, List.getElem_mem hi2, HNM2.out⟩, rfl, rfl⟩⟩⟩, rfl, HD2.out, HB2.out.mono hB⟩
      · rw [decide_eq_false hc]
        have HNO := keep (at_rm_no hs HA2.out hc)
        clear hc q2
        by_cases h40 : 40 ≤ fs.N.length
        · have d1 : decide ((40 : Int) ≤ (fs.N.length : Int)) = true := decide_eq_true (by omega)
          clear c1
          refine hgo _ _ _ hbq (fun h => ?_) (fun h => ?_)
          all_goals
            clear hgo hbq
            first
              | (rw [h.1] at c2; rw [h.2] at c3; clear h)
              | (rw [h.1] at c2; clear h)
            go_wp2_with fail
            go_ret
            exact ⟨4, _, .inr ⟨i, k, hi, hk, HNM.out, HINO.out, .inr ⟨HCW.out, .inr ⟨HNO.out, .inl ⟨h40, rfl, rfl⟩⟩⟩⟩, rfl, HD2.out, HB2.out.mono hB⟩
        · have d1 : decide ((40 : Int) ≤ (fs.N.length : Int)) = false := decide_eq_false (by omega)
          have hwd : Below w2.heap.size w2 w2.drew := (Below.refl _ w2).drew
          have HCL := keep (clone_bytes (.slice FA fs.F[k].data.length FC) fs.F[k].data w2.drew (by have h1 := (HR2.out.up hwd).br; rw [HFD.out] at h1; exact h1) HR2.out.2)
          have hxz : Blk (w2.alloc (.cells #[.int .i64 0, .slice none 0 0, .bool false, .bool false, .int .i64 0] 60)).drew w2.heap.size 60 #[.int .i64 0, .slice none 0 0, .bool false, .bool false, .int .i64 0] := Blk.new w2 _ _
          have hbz : Below w2.heap.size w2 (w2.alloc (.cells #[.int .i64 0, .slice none 0 0, .bool false, .bool false, .int .i64 0] 60)).drew := ((Below.refl _ w2).alloc (Nat.le_refl _) _).drew
          have HCL2 := keep (clone_bytes (.slice FA fs.F[k].data.length FC) fs.F[k].data (w2.alloc (.cells #[.int .i64 0, .slice none 0 0, .bool false, .bool false, .int .i64 0] 60)).drew (by have h1 := (HR2.out.up hbz).br; rw [HFD.out] at h1; exact h1) HR2.out.2)
          have HXZ := keep hxz
          have HBZ := keep hbz
          have HHZ := keep (Held.of_below hbz)
          clear hxz hbz
          have hl2 : (fs.F[k].data.length : Int) ≤ 1000000 := by have := HR2.out.2; omega
          have hgt : g < w2.heap.size := World.block_lt_of_cell? w2 _ c1
          refine hgo _ _ _ hbq (fun h => ?_) (fun h => ?_)
          all_goals
            clear hgo hbq hwd
            first
              | (rw [h.1] at c2; rw [h.2] at c3; clear h)
              | (rw [h.1] at c2; clear h)
            go_wp2_with fail
            clear c2 c3 q0
            go_cut [9] (fun p wd => ∃ (xb : Nat) (A5 : Option Addr) (C5 : Nat), p = .pointer (some ⟨xb, 0, none⟩) ∧ Blk wd xb 60 #[.int .i64 0, .slice A5 fs.F[k].data.length C5, .bool true, .bool false, .int .i64 fs.F[k].data.length] ∧ FiR wd ⟨0, .slice A5 fs.F[k].data.length C5, fs.F[k].data, true, false, fs.F[k].data.length⟩ ∧ Below w2.heap.size w2 wd)
            case first =>
              go_region_held3 (Held w2.heap.size w2) (first | (with_reducible exact Held.start _ _) | (with_reducible assumption) | (with_reducible exact HHZ.out) | (with_reducible refine Held.call ?_ ?_ (Nat.le_refl _) <;> assumption) | ((with_reducible refine Held.alloc ?_ _ (Nat.le_refl _)); with_reducible assumption) | ((with_reducible refine Held.realloc ?_ _ ?_) <;> with_reducible assumption) | ((with_reducible refine Held.five ?_ (Nat.le_refl _) _ _ _ _ _); with_reducible assumption))
                (first
                  | (go_at_call 29; (with_reducible refine HCL.out.mono ?_); rintro e w5 ⟨v5, rfl, ho5, hb5⟩; obtain ⟨A5, C5, rfl, _⟩ := own_sl ho5; have hz5 : w2.heap.size ≤ w5.heap.size := hb5.size; have hb5' : Below w2.heap.size w2 w5 := ⟨hb5.os, hb5.tape, hb5.output, hb5.size, hb5.block⟩; have hh5 : Held w2.heap.size w2 w5 := Held.of_below hb5')
                  | (go_at_call 29; (with_reducible refine HCL2.out.mono ?_); rintro e w5 ⟨v5, rfl, ho5, hb5⟩; obtain ⟨A5, C5, rfl, _⟩ := own_sl ho5; have hx5 := HXZ.out.below hb5 HXZ.out.lt; obtain ⟨x0, x1, x2, x3, x4⟩ := hx5.cell5; obtain ⟨g0, g1, g2, g3, g4⟩ := hx5.froz5; have hb5' : Below w2.heap.size w2 w5 := HBZ.out.trans (hb5.mono HBZ.out.size); have hh5 : Held w2.heap.size w2 w5 := Held.of_below hb5')
                  | fail)
              · have hbx : Below w2.heap.size w2 (w5.alloc (.cells #[.int .i64 0, .slice A5 fs.F[k].data.length C5, .bool true, .bool false, .int .i64 fs.F[k].data.length] 60)) := hb5'.alloc hz5 _
                go_wp2_with fail
                go_meet
                case rel => exact ⟨_, A5, C5, rfl, Blk.new _ _ _, FiR.up ⟨own_u8 ho5, HR2.out.2⟩ ((Below.refl _ w5).alloc (Nat.le_refl _) _), hbx⟩
              · have hb' := hx5.five (.int .i64 0) (.slice A5 fs.F[k].data.length C5) (.bool true) (.bool false) (.int .i64 fs.F[k].data.length)
                go_wp2_with fail
                go_meet
                case rel => exact ⟨_, A5, C5, rfl, hb', FiR.grown (show FiR w5 ⟨0, .slice A5 fs.F[k].data.length C5, fs.F[k].data, true, false, fs.F[k].data.length⟩ from ⟨own_u8 ho5, HR2.out.2⟩) (grown_five _ _ _ _ _ _ _) (noU8 hx5 (by decide)), below_five hb5' (Nat.le_refl _) _ _ _ _ _⟩
            obtain ⟨xb, A5, C5, hp, hBx, hfx, hbx⟩ := hcut
            subst hp
            have hX3 := HX2.out.below hbx HX2.out.lt
            obtain ⟨_, _, r2, _, _⟩ := hX3.cell5
            obtain ⟨y0, y1, y2, y3, y4⟩ := hBx.cell5
            have hwx := below_drew_of hbx
            have hBX := bchain (bchain HB2.out hbx) hwx
            have HADD := keep (addCopy gd B fs _ _ _ (Nat.le_trans hB hBX.size) ((HD2.out.up hbx).up hwx) (hfx.up hwx) HM.out)
            have HX3 := keep (hX3.below hwx hX3.lt)
            have HBX3 := keep (hBX.mono hB)
            have hB3 := Nat.le_trans hB hBX.size
            clear hbx hBx hfx hX3 hwx hBX c1
            go_wp2_with fail
            go_region_law (first
              | (go_simp; go_at_call 89; (with_reducible refine HADD.out.mono ?_); rintro e w6 ⟨k2, hgap, rfl, hD6, hb6, ht6, _⟩
                 have hX6 := ht6.blk HX3.out (by decide) (by decide) (by decide)
                 have r6 : w6.cell? ⟨w.heap.size, 2, none⟩ = some (.string dst) := (hX6.cell 2).trans rfl
                 have HLK := keep (link_any gd B _ dst ((k2 : Int) + 1) w6 (Nat.le_trans hB3 hb6.size) hD6 hs (HM.out.put hm2 _ _)))
              | (go_simp; go_at_call 88; (with_reducible refine HLK.out.mono ?_); rintro e w7 ⟨rfl, hD7, hb7, _⟩)
              | fail)
            all_goals
              have HD7 := keep hD7
              have HBE := keep ((HBX3.out.trans hb6).trans hb7)
              have HGAP := keep hgap
              clear hD7 hb7 hb6 hD6 ht6 hgap hX6
              go_wp2_with fail
              go_ret
              exact ⟨0, _, .inr ⟨i, k, hi, hk, HNM.out, HINO.out, .inr ⟨HCW.out, .inr ⟨HNO.out, .inr ⟨Nat.not_le.1 h40, rfl, k2, _, HGAP.out, rfl⟩⟩⟩⟩, rfl, HD7.out, HBE.out⟩
end Go.Proofs.YtgegmefnbkcdkaaDoor
