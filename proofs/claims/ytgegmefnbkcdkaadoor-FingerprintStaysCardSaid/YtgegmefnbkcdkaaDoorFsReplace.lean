/- The method replace. -/
import Derived.Test.YtgegmefnbkcdkaaDoorFsMore
namespace Go.Proofs.YtgegmefnbkcdkaaDoor
open Go.RowKit
theorem own_nmCells {w : World} {B g c n : Nat} {X : List Nm} (h : w.ownsRow B 57 2 (.slice (some ⟨g, 0, none⟩) n c) n (nms X)) {k : Nat} (hk : k < X.length) :
    w.cell? ⟨g, k * 2, none⟩ = some (.string X[k].nm) ∧ w.cell? ⟨g, k * 2 + 1, none⟩ = some (.int .i64 X[k].ino) := by
  have q : ∀ j, j < 2 → ∀ u, (nmV X[k])[j]? = some u → w.cell? ⟨g, k * 2 + j, none⟩ = some u := fun j hj u hu => by
    have hc := h.cells (g := g) rfl (k * 2 + j) u ((rows_at nmV_len X k hk j hj).trans hu)
    rw [Addr.add_lit, Nat.zero_add] at hc
    exact hc
  exact ⟨q 0 (by omega) _ rfl, q 1 (by omega) _ rfl⟩
theorem setNameO {w : World} {B gd g k j : Nat} {vN vF vO u : Value} {fs : FS} {a : Nm} (hb : Blk w gd 74 #[vN, vF, vO]) (hO : FsO w B vN vF vO fs) (hg : vN.ownBlock = some g) (hk : k < fs.N.length) (hj : j < 2)
    (ha : nmV a = (nmV fs.N[k]).set j u) : Blk (w.setCell ⟨g, k * 2 + j, none⟩ u) gd 74 #[vN, vF, vO] ∧ FsO (w.setCell ⟨g, k * 2 + j, none⟩ u) B vN vF vO ⟨fs.N.set k a, fs.F, fs.O⟩ := by
  obtain ⟨N, F, O⟩ := fs
  have hgr : w.grownBy (w.setCell ⟨g, k * 2 + j, none⟩ u) vN.ownBlock := by
    rw [hg]; exact grownBy_set (World.grownBy.refl w _) _ _
  have hst := own_store hO.n hg (k * 2 + j) u
  have hrow : (nms N).set (k * 2 + j) u = nms (N.set k a) := rows_set nmV_len N k hk j hj u a ha
  rw [show nms (FS.mk N F O).N = nms N from rfl, hrow] at hst
  have hf : (w.setCell ⟨g, k * 2 + j, none⟩ u).ownsRow B 57 2 vN (N.set k a).length (nms (N.set k a)) := by rw [List.length_set]; exact hst
  have hO' : FsO (w.setCell ⟨g, k * 2 + j, none⟩ u) B vN vF vO ⟨N.set k a, F, O⟩ := hO.putN hgr hf
  have hne : gd ≠ g := fun e => own_off hO.n hb (by decide) (by rw [hg, e])
  exact ⟨hb.far (p := ⟨g, k * 2 + j, none⟩) hne u, hO'⟩
/-- What replace does. -/
def ReplaceSt (fs : FS) (c : Ch) (e : Int) (fs' : FS) : Prop :=
  ((∀ t ∈ fs.N, t.nm ≠ c.name) ∧ e = 12 ∧ fs' = fs) ∨
  ∃ (i : Nat) (hi : i < fs.N.length), fs.N[i].nm = c.name ∧ ((60000 < c.data.length ∧ e = 3 ∧ fs' = fs) ∨
    (c.data.length ≤ 60000 ∧ e = 0 ∧ ∃ (k : Nat) (dv : Value), Gap fs.F k ∧ fs' = ⟨fs.N.set i ⟨c.name, (k : Int) + 1⟩, putFile fs.F k ⟨0, dv, c.data, false, true, 0⟩, fs.O⟩))
set_option maxHeartbeats 8000000 in
set_option maxRecDepth 100000 in
theorem replace_any (gd B : Nat) (fs : FS) (c : Ch) (w : World) (hB : B ≤ w.heap.size) (h : Dir w B gd fs) (hs : NSrt fs.N) (hm : Small fs) (hc : BR w c.dv c.data) (hcl : c.data.length ≤ 1000000) :
    Calls Tryd.prog 86 #[.pointer (some ⟨gd, 0, none⟩), .agg (chV c)] w fun x w' => ∃ e fs', ReplaceSt fs c e fs' ∧ MetRes B gd e fs' w x w' := by
  obtain ⟨A, cc, hv, _, _⟩ := Sl.form hc
  obtain ⟨kind, name, dst, dv, data, n⟩ := c
  simp only at hv hcl
  subst hv
  simp only [chV]
  obtain ⟨W, hW⟩ : ∃ W, W = w.alloc (.cells #[.int .i64 kind, .string name, .string dst, .slice A data.length cc, .int .i64 n] 39) := ⟨_, rfl⟩
  have hBx : Blk W w.heap.size 39 #[.int .i64 kind, .string name, .string dst, .slice A data.length cc, .int .i64 n] := hW ▸ Blk.new _ _ _
  have hb : Below w.heap.size w W := hW ▸ (Below.refl _ w).alloc (Nat.le_refl _) _
  have k1 : W.cell? ⟨w.heap.size, 1, none⟩ = some (.string name) := (hBx.cell 1).trans rfl
  have hD := h.up hb
  have hC := hc.up hb
  obtain ⟨hBg, vN, vF, vO, hBk, hO⟩ := id hD
  have hq := name_any gd name _ fs.N W ((hBk.cell 0).trans rfl) hO.r.n hs (by have := hm.n; omega)
  have HQ := keep hq
  have HD := keep hD
  have HB := keep hb
  have HBX := keep hBx
  have HC := keep hC
  have HM := keep hm
  have HBK := keep hBk
  have HO := keep hO
  clear hq hD hBk hO hb h hBx hC hc hm
  go_enter Tryd.func86, Tryd.ntmps86
  go_wp2_with fail
  rw [← hW]
  clear hW
  go_wp2_with fail
  refine HQ.out.mono ?_
  rintro e w1 ⟨i, hA, rfl, hb1⟩
  have hB1 := bchain HB.out hb1
  by_cases hc : cfAt_nm (cfn name) fs.N i = 0
  · rw [decide_eq_true hc]
    obtain ⟨hi, hnm, _⟩ := at_rm_yes hs hc
    have HNM := keep hnm
    have hX1 := HBX.out.below hb1 HBX.out.lt
    have q3 : w1.cell? ⟨w.heap.size, 3, none⟩ = some (.slice A data.length cc) := (hX1.cell 3).trans rfl
    have HD1 := keep (HD.out.up hb1)
    have HO1 := keep (HO.out.up hb1)
    have HBK1 := keep (HBK.out.below hb1 HBK.out.lt)
    have HC1 := keep (HC.out.up hb1)
    have HB1 := keep (hB1.mono hB)
    have hB1z : B ≤ w1.heap.size := Nat.le_trans hB hB1.size
    have HX1 := keep hX1
    clear hc hA hB1 hb1 hnm hX1
    by_cases h60 : 60000 < data.length
    · have d2 : decide ((60000 : Int) < (data.length : Int)) = true := decide_eq_true (by omega)
      go_wp2_with fail
      go_ret
      exact ⟨3, _, .inr ⟨i, hi, HNM.out, .inl ⟨h60, rfl, rfl⟩⟩, rfl, HD1.out, HB1.out⟩
    · have d2 : decide ((60000 : Int) < (data.length : Int)) = false := decide_eq_false (by omega)
      obtain ⟨gN, hgN⟩ : ∃ g, vN.ownBlock = some g := by
        rcases HO1.out.n.2 with ⟨_, h0⟩ | ⟨g, cap, cur, h1, _⟩
        · omega
        · exact ⟨g, by rw [h1]; rfl⟩
      obtain ⟨cN, _, hvN, _⟩ := own_at HO1.out.n hgN
      have hgB := own_ge HO1.out.n gN hgN
      have e0 : w1.cell? ⟨gd, 0, none⟩ = some (.slice (some ⟨gN, 0, none⟩) fs.N.length cN) := by rw [← hvN]; exact (HBK1.out.cell 0).trans rfl
      have i1 : (i : Int) < (fs.N.length : Int) := by omega
      have i2 : (fs.N.length : Int) ≤ 1000 := by have := HM.out.n; omega
      have hfr := fresh_any _ data w1.drew (HC1.out.up (Below.refl _ w1).drew) hcl
      have HFR := keep hfr
      have HVN := keep hvN
      clear hfr hvN
      go_wp2_with fail
      go_cut [] (fun wd => ∃ (k : Nat) (dv : Value), Gap fs.F k ∧ Dir wd B gd ⟨fs.N.set i ⟨name, (k : Int) + 1⟩, putFile fs.F k ⟨0, dv, data, false, true, 0⟩, fs.O⟩ ∧ Below B w wd)
      case first =>
        go_region_law (first
          | (go_simp; go_at_call 90; (with_reducible refine HFR.out.mono ?_); rintro e w5 ⟨dv5, rfl, hF5, hb5⟩
             have hb5' : Below w1.heap.size w1 w5 := ⟨hb5.os, hb5.tape, hb5.output, hb5.size, hb5.block⟩
             have hD5 := HD1.out.up hb5'
             have e5 : w5.cell? ⟨gd, 0, none⟩ = some (.slice (some ⟨gN, 0, none⟩) fs.N.length cN) := by rw [← HVN.out]; exact ((HBK1.out.below hb5' HBK1.out.lt).cell 0).trans rfl
             have hB5 : B ≤ w5.heap.size := by have := hb5'.size; omega)
          | (go_simp; go_at_call 89; (with_reducible refine (addFresh gd B fs dv5 data _ hB5 hD5 hF5 HM.out).mono ?_); rintro e w6 ⟨k, hgap, rfl, hD6, hb6, ht6, he6⟩
             obtain ⟨_, vN6, vF6, vO6, hBk6, hO6⟩ := hD6
             have e6 : w6.cell? ⟨gd, 0, none⟩ = some (.slice (some ⟨gN, 0, none⟩) fs.N.length cN) := he6.trans e5
             have e7 : vN6 = .slice (some ⟨gN, 0, none⟩) fs.N.length cN := Option.some.inj (((hBk6.cell 0).trans rfl).symm.trans e6)
             subst e7
             obtain ⟨_, y6⟩ := own_nmCells hO6.n hi
             have f6 : w6.frozen? ⟨gN, i * 2 + 1, none⟩ = false := own_frozen hO6.n rfl _)
          | fail)
        all_goals
          have hset := setNameO (k := i) (j := 1) (u := .int .i64 ((k : Int) + 1)) (a := ⟨name, (k : Int) + 1⟩) hBk6 hO6 rfl hi (by omega) (by rw [← HNM.out]; rfl)
          have HSET := keep (show Dir (w6.setCell ⟨gN, i * 2 + 1, none⟩ (.int .i64 ((k : Int) + 1))) B gd ⟨fs.N.set i ⟨name, (k : Int) + 1⟩, putFile fs.F k ⟨0, dv5, data, false, true, 0⟩, fs.O⟩ from ⟨hBg, _, _, _, hset.1, hset.2⟩)
          have HBE := keep (((HB1.out.trans (hb5'.mono hB1z)).trans hb6).setCell (p := ⟨gN, i * 2 + 1, none⟩) hgB (.int .i64 ((k : Int) + 1)))
          clear hset
          go_wp2_with fail
          go_meet
          exact ⟨k, dv5, hgap, HSET.out, HBE.out⟩
      case rest =>
        obtain ⟨k, dv5, hgap, hD, hBe⟩ := hcut
        have HD := keep hD
        have HBE := keep hBe
        have HGAP := keep hgap
        clear hD hBe hgap
        go_wp2_with fail
        go_ret
        exact ⟨0, _, .inr ⟨i, hi, HNM.out, .inr ⟨Nat.not_lt.1 h60, rfl, k, dv5, HGAP.out, rfl⟩⟩, rfl, HD.out, HBE.out⟩
  · rw [decide_eq_false hc]
    have HNO := keep (at_rm_no hs hA hc)
    have HD1 := keep (HD.out.up hb1)
    have HB1 := keep (hB1.mono hB)
    clear hc hA hB1 hb1
    go_wp2_with fail
    go_ret
    exact ⟨12, _, .inl ⟨HNO.out, rfl, rfl⟩, rfl, HD1.out, HB1.out⟩
end Go.Proofs.YtgegmefnbkcdkaaDoor
