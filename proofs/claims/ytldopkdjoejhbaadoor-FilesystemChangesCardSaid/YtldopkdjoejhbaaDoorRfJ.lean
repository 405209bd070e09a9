/- The reference's Read. The reference's Same, at two directories that are alike. The reference's Same, at two directories that are alike. -/
import Derived.Test.YtldopkdjoejhbaaDoorRfH
import Derived.Test.YtldopkdjoejhbaaDoorFsRead
import Derived.Test.YtldopkdjoejhbaaDoorBytes
import Derived.Test.YtldopkdjoejhbaaDoorRfC
namespace Go.Proofs.YtldopkdjoejhbaaDoor
open Go.RowKit

set_option maxHeartbeats 8000000 in
set_option maxRecDepth 100000 in
theorem refRead_any (vN vF vO : Value) (fs : FS) (n : Int) (w : World) (h : FsT w vN vF vO fs) (hi : Inv fs) (ho : fs.O.length ≤ 800) :
    Calls Tryd.prog 28 #[.agg #[vN, vF, vO], .int .i64 n] w (ReadOut fs n w) := by
  obtain ⟨A1, c1, rfl, _, _⟩ := h.n.form
  obtain ⟨A2, c2, rfl, _, _⟩ := h.f.form
  obtain ⟨A3, c3, rfl, _, _⟩ := h.o.form
  obtain ⟨W, hW⟩ : ∃ W, W = ((w.alloc (.cells #[.slice A1 fs.N.length c1, .slice A2 fs.F.length c2, .slice A3 fs.O.length c3] 31)).alloc (.cells #[.int .i64 0, .slice none 0 0, .bool false, .bool false, .int .i64 0] 45)) := ⟨_, rfl⟩
  have hb : Below w.heap.size w W := hW ▸ ((Below.refl _ w).alloc (Nat.le_refl _) _).alloc (by simp) _
  have hF : Blk W w.heap.size 31 #[.slice A1 fs.N.length c1, .slice A2 fs.F.length c2, .slice A3 fs.O.length c3] := hW ▸ ((Blk.new w _ _).alloc _)
  have hZ : Blk W (w.heap.size + 1) 45 #[.int .i64 0, .slice none 0 0, .bool false, .bool false, .int .i64 0] := hW ▸ Blk.new_at (by simp)
  have hT := h.up hb
  have hFl : fs.F.length ≤ 840 := by have := hi.count; omega
  have HAT := keep (refAt_any _ _ _ fs n W hT (by omega))
  have HF := keep hF
  have HZ := keep hZ
  have HT := keep hT
  have HB := keep hb
  have HI := keep hi
  obtain ⟨f0, f1, f2⟩ := hF.cell3
  clear hb hF hZ hT h hi ho
  go_enter Tryd.func28, Tryd.ntmps28
  go_upto_region 1 with fail
  rw [← hW]
  clear hW
  go_wp2_with fail
  refine HAT.out.mono ?_
  rintro e w1 ⟨r, rfl, hr, hb1⟩
  have HF1 := keep (HF.out.below hb1 HF.out.lt)
  have HZ1 := keep (HZ.out.below hb1 HZ.out.lt)
  have HT1 := keep (HT.out.up hb1)
  have HB1 := keep (bchain HB.out hb1)
  clear hb1 f0 f1 f2 HF HZ HT HB HAT
  rcases hr with ⟨rfl, hno⟩ | ⟨k, hk, rfl, hino, hfirst⟩
  · have hg : readP fs.p n = none := by
      unfold readP
      rw [show fs.p.F = fs.F.map Fi.p from rfl, get_none hno]; rfl
    have HG := keep hg
    obtain ⟨z0, z1, z2, z3, z4⟩ := HZ1.out.cell5
    obtain ⟨g0, g1, g2, g3, g4⟩ := HZ1.out.froz5
    clear hno hg
    go_wp2_with fail
    refine bodyPost_ret (results_cell_row_tmp rfl _ _ (w.heap.size + 1) _ _ _ _ rfl (HZ1.out.five _ _ _ _ _) Tryd.underlying45 rfl (by kernel_rfl)) rfl ?_
    refine ⟨.slice none 0 0, ?_, ?_, below_five HB1.out (by omega) _ _ _ _ _⟩
    · rw [HG.out]; rfl
    · rw [HG.out]; exact Sl.nil _ _ _ _ _
  · obtain ⟨_, f1, _⟩ := HF1.out.cell3
    obtain ⟨b, o, rfl, _, m0, m1, m2, m3, m4⟩ := fi_cells HT1.out.f hk
    have hR := HT1.out.d _ (List.getElem_mem hk)
    obtain ⟨FA, FC, hfd⟩ := hR.form
    rw [hfd] at m1
    have i0 : decide ((k : Int) < 0) = false := decide_eq_false (by omega)
    have i00 : (0 : Int) ≤ (k : Int) := by omega
    have i1 : (k : Int) < (fs.F.length : Int) := by omega
    have hgt : readP fs.p n = some (seenP fs.F[k].p) := by
      unfold readP
      rw [← hino]
      show (getP (fs.F.map Fi.p) fs.F[k].ino).map seenP = _
      rw [get_at HI.out.f hk]; rfl
    have hl := HI.out.l _ (List.getElem_mem hk)
    have hdl := HI.out.d _ (List.getElem_mem hk)
    have HGT := keep hgt
    have HR := keep hR
    generalize fs.F[k] = t at *
    obtain ⟨ino, dv, data, cp, wh, left⟩ := t
    simp only at hfd m0 m1 m2 m3 m4 hino hl hdl
    subst hfd
    obtain ⟨m, rfl⟩ := Int.eq_ofNat_of_zero_le hl.1
    obtain ⟨hl0, hl1⟩ := hl
    have i3 : (data.length : Int) ≤ 60000 := by omega
    have hcut := sl_cut (k := data.length - m) (by have h1 := (HR.out).1; exact h1) (by omega)
    have hfc : data.length ≤ FC := by
      obtain ⟨_, A', c', hv, hcc, _⟩ := (HR.out).1
      injection hv with _ _ e3
      rw [e3]; exact hcc
    have hfc2 : data.length - m ≤ FC := by omega
    have hsub : (data.length : Int) - (m : Int) = ((data.length - m : Nat) : Int) := by omega
    have HTK : (data.take (data.length - m)).length = data.length - m := by rw [List.length_take]; omega
    have HSP : Hid (seenP (Fi.p ⟨ino, .slice FA data.length FC, data, cp, wh, (m : Int)⟩) = ⟨ino, data.take (data.length - m), cp, wh, 0⟩) := keep (by simp [seenP, Fi.p])
    generalize data.take (data.length - m) = l at hcut HTK HSP
    subst hino
    have hal : Below w1.heap.size w1 (w1.alloc (.cells #[.int .i64 ino, .slice FA data.length FC, .bool cp, .bool wh, .int .i64 (m : Int)] 45)) := (Below.refl _ w1).alloc (Nat.le_refl _) _
    have HX2 := keep (show Blk (w1.alloc (.cells #[.int .i64 ino, .slice FA data.length FC, .bool cp, .bool wh, .int .i64 (m : Int)] 45)) w1.heap.size 45 #[.int .i64 ino, .slice FA data.length FC, .bool cp, .bool wh, .int .i64 (m : Int)] from Blk.new _ _ _)
    have HGL : Hid (w.heap.size + 1 < w1.heap.size) := keep (by have := HZ1.out.lt; omega)
    have HZ2 := keep (HZ1.out.below hal HZ1.out.lt)
    have HB2 := keep (bchain HB1.out hal)
    have HC2 := keep (hcut.u8Grown (grownBy_of_below hal none) (by simp))
    clear hal hcut hgt hR HR hl0 hfirst
    go_upto_region 5 with fail
    generalize (w1.alloc (.cells #[.int .i64 ino, .slice FA data.length FC, .bool cp, .bool wh, .int .i64 (m : Int)] 45)) = w2 at *
    clear m0 m1 m2 m3 m4 f1
    obtain ⟨g, hg⟩ : ∃ g, g = w1.heap.size := ⟨_, rfl⟩
    rw [← hg] at HX2 HGL ⊢
    clear hg
    obtain ⟨x0, x1, x2, x3, x4⟩ := HX2.out.cell5
    have hsrc := HC2.out
    have hll : l.length ≤ 60000 := by omega
    rw [HTK] at hsrc
    go_upto_region 6 with (refine wpList_appendS elBy rfl _ _ rfl w2.heap.size (.slice none 0 0) 0 [] rfl (World.ownsRow_nil _ _ _ _) _ _ (data.length - m) (bys l) rfl hsrc (bys_one _) (by unfold maxLen; omega) (by omega) (Nat.le_refl _) ?_; intro vd w3 hd3 hb3 hg3; rw [Nat.zero_add, List.nil_append] at hd3; obtain ⟨E5, g5, rfl, _⟩ := own_sl hd3; have hX3 := HX2.out.below hb3 HX2.out.lt; obtain ⟨p0, p1, p2, p3, p4⟩ := hX3.cell5; obtain ⟨y0, y1, y2, y3, y4⟩ := hX3.froz5)
    have hZ3 := HZ2.out.below hb3 HZ2.out.lt
    have hS3 := own_u8 hd3
    have hgr1 := grownBy_set (World.grownBy.refl w3 (some g)) 1 (.slice E5 (data.length - m) g5)
    have hX4 := hX3.set_ 1 (.slice E5 (data.length - m) g5)
    have hS4 := hS3.u8Grown hgr1 (noU8 hX3 (by decide))
    have hZ4 := hZ3.grown hgr1 (fun e => by injection e; have := HGL.out; omega)
    have hB4 := (bchain HB2.out hb3).setCell (p := ⟨g, 1, none⟩) (show w.heap.size ≤ g by have := HGL.out; omega) (.slice E5 (data.length - m) g5)
    have hgr2 := grownBy_set (World.grownBy.refl (w3.setCell ⟨g, 1, none⟩ (.slice E5 (data.length - m) g5)) (some g)) 4 (.int .i64 0)
    have HX4 := keep hX4
    have HX6 := keep (hX4.set_ 4 (.int .i64 0))
    have HS6 := keep (hS4.u8Grown hgr2 (noU8 hX4 (by decide)))
    have HZ6 := keep (hZ4.grown hgr2 (fun e => by injection e; have := HGL.out; omega))
    have HB6 := keep (hB4.setCell (p := ⟨g, 4, none⟩) (show w.heap.size ≤ g by have := HGL.out; omega) (.int .i64 0))
    clear hd3 hb3 hg3 hZ3 hS3 hgr1 hS4 hZ4 hB4 hgr2 hX3 hX4 x0 x1 x2 x3 x4 p0 p1 p2 p3 p4 y0 y1 y2 y3 y4 hsrc
    generalize w3.setCell ⟨g, 1, none⟩ (.slice E5 (data.length - m) g5) = w4 at *
    obtain ⟨p0, p1, p2, p3, p4⟩ := HX4.out.cell5
    obtain ⟨y0, y1, y2, y3, y4⟩ := HX4.out.froz5
    go_upto_region 7 with fail
    generalize w4.setCell ⟨g, 4, none⟩ (.int .i64 0) = w6 at *
    clear p0 p1 p2 p3 p4 y0 y1 y2 y3 y4
    obtain ⟨p0, p1, p2, p3, p4⟩ := HX6.out.cell5
    obtain ⟨z0, z1, z2, z3, z4⟩ := HZ6.out.cell5
    obtain ⟨r0, r1, r2, r3, r4⟩ := HZ6.out.froz5
    go_wp2_with fail
    refine bodyPost_ret (results_cell_row_tmp rfl _ _ (w.heap.size + 1) _ _ _ _ rfl (HZ6.out.five _ _ _ _ _) Tryd.underlying45 rfl (by kernel_rfl)) rfl ?_
    exact read_done HGT.out HSP.out (by rw [HTK]; exact HS6.out) HZ6.out HB6.out
end Go.Proofs.YtldopkdjoejhbaaDoor
namespace Go.Proofs.YtldopkdjoejhbaaDoor
open Go.RowKit

set_option maxRecDepth 100000 in
theorem sameBytes_any (v1 v2 : Value) (l : List UInt8) (w : World) (S1 S2 : Nat → Prop) (h1 : Sl w S1 1 v1 l.length (bys l)) (h2 : Sl w S2 1 v2 l.length (bys l)) :
    Calls Tryd.prog 55 #[v1, v2] w fun e w' => e = .returned (.bool true) ∧ Below w.heap.size w w' := by
  have b1 : BSl w S1 v1 l := h1
  have b2 : BSl w S2 v2 l := h2
  clear h1 h2
  go_enter Tryd.func55, Tryd.ntmps55
  go_wp2_with (first
    | (refine wpList_stringB rfl _ rfl rfl b1 Tryd.underlying22 Tryd.underlying5 Tryd.underlying9 ?_)
    | (refine wpList_stringB rfl _ rfl rfl b2 Tryd.underlying22 Tryd.underlying5 Tryd.underlying9 ?_))
  go_ret
  exact ⟨ret_bool (by simp), Below.refl _ _⟩
set_option maxHeartbeats 4000000 in
set_option maxRecDepth 100000 in
theorem sameFile_any (t : PF) (d1 d2 : Value) (w : World) (S1 S2 : Nat → Prop) (h1 : Sl w S1 1 d1 t.data.length (bys t.data)) (h2 : Sl w S2 1 d2 t.data.length (bys t.data)) (hS1 : ∀ b, S1 b → b < w.heap.size) (hS2 : ∀ b, S2 b → b < w.heap.size) :
    Calls Tryd.prog 29 #[fileV t d1, fileV t d2] w fun e w' => e = .returned (.bool true) ∧ Below w.heap.size w w' := by
  obtain ⟨A1, c1, rfl, _, h1⟩ := h1.form
  obtain ⟨A2, c2, rfl, _, h2⟩ := h2.form
  obtain ⟨ino, data, cp, wh, left⟩ := t
  simp only at h1 h2
  simp only [fileV]
  obtain ⟨W, hW⟩ : ∃ W, W = ((w.alloc (.cells #[.int .i64 ino, .slice A1 data.length c1, .bool cp, .bool wh, .int .i64 left] 45)).alloc (.cells #[.int .i64 ino, .slice A2 data.length c2, .bool cp, .bool wh, .int .i64 left] 45)) := ⟨_, rfl⟩
  have hb : Below w.heap.size w W := hW ▸ ((Below.refl _ w).alloc (Nat.le_refl _) _).alloc (by simp) _
  have hX : Blk W w.heap.size 45 #[.int .i64 ino, .slice A1 data.length c1, .bool cp, .bool wh, .int .i64 left] := hW ▸ ((Blk.new w _ _).alloc _)
  have hY : Blk W (w.heap.size + 1) 45 #[.int .i64 ino, .slice A2 data.length c2, .bool cp, .bool wh, .int .i64 left] := hW ▸ Blk.new_at (by simp)
  obtain ⟨x0, x1, x2, x3, x4⟩ := hX.cell5
  obtain ⟨y0, y1, y2, y3, y4⟩ := hY.cell5
  have e1 : (ino == ino) = true := by simp
  have e2 : (cp == cp) = true := by simp
  have e3 : (wh == wh) = true := by simp
  have e4 : (left == left) = true := by simp
  have HC := keep (sameBytes_any (.slice A1 data.length c1) (.slice A2 data.length c2) data W (lt w.heap.size) (lt w.heap.size) ((h1.mono hS1).below hb (Nat.le_refl _)) ((h2.mono hS2).below hb (Nat.le_refl _)))
  have HB := keep hb
  clear h1 h2 hb hX hY hS1 hS2
  go_enter Tryd.func29, Tryd.ntmps29
  go_upto_region 1 with fail
  rw [← hW]
  clear hW
  go_wp2_with fail
  refine HC.out.mono ?_
  rintro e w1 ⟨rfl, hb1⟩
  have HB1 := keep (bchain HB.out hb1)
  clear hb1
  go_wp2_with fail
  go_ret
  exact ⟨rfl, HB1.out⟩
end Go.Proofs.YtldopkdjoejhbaaDoor
namespace Go.Proofs.YtldopkdjoejhbaaDoor
open Go.RowKit

def fr88 (x : Nat → Value) : Array Value := #[x 0, x 1, x 2, x 3, x 4, x 5, x 6, x 7, x 8, x 9, x 10, x 11, x 12, x 13, x 14, x 15, x 16, x 17, x 18, x 19, x 20, x 21, x 22, x 23, x 24, x 25, x 26, x 27, x 28, x 29, x 30, x 31, x 32, x 33, x 34, x 35, x 36, x 37, x 38, x 39, x 40, x 41, x 42, x 43, x 44, x 45, x 46, x 47, x 48, x 49, x 50, x 51, x 52, x 53, x 54, x 55, x 56, x 57, x 58, x 59, x 60, x 61, x 62, x 63, x 64, x 65, x 66, x 67, x 68, x 69, x 70, x 71, x 72, x 73, x 74, x 75, x 76, x 77, x 78, x 79, x 80, x 81, x 82, x 83, x 84, x 85, x 86, x 87]
set_option maxHeartbeats 8000000 in
set_option maxRecDepth 100000 in
theorem refSame_any (vN vF vO uN uF uO : Value) (N : List Nm) (F G : List Fi) (O : List Int) (w : World) (h : FsT w vN vF vO ⟨N, F, O⟩) (h2 : FsT w uN uF uO ⟨N, G, O⟩) (hp : F.map Fi.p = G.map Fi.p) (hm : N.length ≤ 1000000 ∧ F.length ≤ 1000000 ∧ O.length ≤ 1000000) :
    Calls Tryd.prog 25 #[.agg #[vN, vF, vO], .agg #[uN, uF, uO]] w fun e w' => e = .returned (.bool true) ∧ Below w.heap.size w w' := by
  obtain ⟨A1, c1, rfl, _, _⟩ := h.n.form
  obtain ⟨A2, c2, rfl, _, _⟩ := h.f.form
  obtain ⟨A3, c3, rfl, _, _⟩ := h.o.form
  obtain ⟨B1, d1, rfl, _, _⟩ := h2.n.form
  obtain ⟨B2, d2, rfl, _, _⟩ := h2.f.form
  obtain ⟨B3, d3, rfl, _, _⟩ := h2.o.form
  have hl : G.length = F.length := by have := congrArg List.length hp; simpa using this.symm
  simp only [hl]
  simp only at h h2
  obtain ⟨W, hW⟩ : ∃ W, W = ((w.alloc (.cells #[.slice A1 N.length c1, .slice A2 F.length c2, .slice A3 O.length c3] 31)).alloc (.cells #[.slice B1 N.length d1, .slice B2 F.length d2, .slice B3 O.length d3] 31)) := ⟨_, rfl⟩
  have hb : Below w.heap.size w W := hW ▸ ((Below.refl _ w).alloc (Nat.le_refl _) _).alloc (by simp) _
  have hX : Blk W w.heap.size 31 #[.slice A1 N.length c1, .slice A2 F.length c2, .slice A3 O.length c3] := hW ▸ ((Blk.new w _ _).alloc _)
  have hY : Blk W (w.heap.size + 1) 31 #[.slice B1 N.length d1, .slice B2 F.length d2, .slice B3 O.length d3] := hW ▸ Blk.new_at (by simp)
  have HT := keep (h.up hb)
  have HU := keep (h2.up hb)
  have HX := keep hX
  have HY := keep hY
  have HB := keep hb
  have HP := keep hp
  have HL := keep hl
  obtain ⟨x0, x1, x2⟩ := hX.cell3
  obtain ⟨y0, y1, y2⟩ := hY.cell3
  have n1 : ((N.length : Int) != (N.length : Int)) = false := by simp
  have n2 : ((F.length : Int) != (F.length : Int)) = false := by simp
  have n3 : ((O.length : Int) != (O.length : Int)) = false := by simp
  clear h h2 hb hX hY hp hl
  go_enter Tryd.func25, Tryd.ntmps25
  go_upto_region 1 with fail
  rw [← hW]
  clear hW
  go_wp2_with fail
  clear x0 x1 x2 y0 y1 y2
  go_loopw [5] (fun i wr => ∃ k : Nat, i = .int .i64 k ∧ k ≤ N.length ∧ Hid (Below W.heap.size W wr)) (fun i _ => N.length - (intOf i).toNat)
  case atStart => exact ⟨0, rfl, Nat.zero_le _, keep (Below.refl _ _)⟩
  case round =>
    obtain ⟨k, rfl, hk, HBR⟩ := hrel
    have hX := HX.out.below HBR.out HX.out.lt
    have hY := HY.out.below HBR.out HY.out.lt
    obtain ⟨x0, x1, x2⟩ := hX.cell3
    obtain ⟨y0, y1, y2⟩ := hY.cell3
    have HXR := keep hX
    have HYR := keep hY
    clear hX hY
    by_cases hlt : k < N.length
    · obtain ⟨b1, o1, rfl, _, p0, p1⟩ := nm_cells (HT.out.up HBR.out).n hlt
      obtain ⟨b2, o2, rfl, _, q0, q1⟩ := nm_cells (HU.out.up HBR.out).n hlt
      obtain ⟨t, ht⟩ : ∃ t, N[k] = t := ⟨_, rfl⟩
      rw [ht] at p0 p1 q0 q1
      obtain ⟨nm, ino⟩ := t
      simp only at p0 p1 q0 q1
      have a0 : (0 : Int) ≤ (k : Int) := by omega
      have a1 : (k : Int) < (N.length : Int) := by omega
      clear ht
      go_wp2_with fail
      go_quiet (fail)
      go_wp2_with fail
      go_roundw
      case rel => exact ⟨k + 1, by go_num, by omega, keep (HBR.out.trans (below_drewN (Below.refl _ _) _))⟩
      case measure => simp [intOf]; omega
    · obtain rfl : k = N.length := by omega
      obtain ⟨W0, hW0⟩ : ∃ W0, W0 = wr := ⟨_, rfl⟩
      have HBS := keep HBR.out
      go_wp2_with fail
      clear x0 x1 x2 y0 y1 y2 HXR HYR HBR
      go_loopw [6] (fun i wx => ∃ k : Nat, i = .int .i64 k ∧ k ≤ F.length ∧ Hid (Below W.heap.size W wx)) (fun i _ => F.length - (intOf i).toNat)
      case atStart => exact ⟨0, rfl, Nat.zero_le _, HBS⟩
      case round =>
        obtain ⟨k, rfl, hk, HBR⟩ := hrel
        by_cases hlt : k < F.length
        · have hlt2 : k < G.length := by rw [HL.out]; exact hlt
          obtain ⟨x0, x1, x2⟩ := (HX.out.below HBR.out HX.out.lt).cell3
          obtain ⟨b1, o1, rfl, _, m0, m1, m2, m3, m4⟩ := fi_cells HT.out.f hlt
          have hUF := HU.out.f
          simp only at hUF
          have hUF2 : Sl W (tyB W 45) 5 (.slice B2 G.length d2) G.length (fis G) := by rw [HL.out] at hUF ⊢; exact hUF
          obtain ⟨b2, o2, rfl, _, n0, n1', n2', n3', n4⟩ := fi_cells hUF2 hlt2
          have hR1 := HT.out.d _ (List.getElem_mem hlt)
          have hR2 := HU.out.d _ (List.getElem_mem hlt2)
          have hpk : F[k].p = G[k].p := by
            have h1 : (F.map Fi.p)[k]'(by simpa using hlt) = (G.map Fi.p)[k]'(by simpa using hlt2) := by simp only [HP.out]
            simpa using h1
          obtain ⟨FA, FC, hf1⟩ := hR1.form
          obtain ⟨GA, GC, hf2⟩ := hR2.form
          rw [hf1] at m1
          rw [hf2] at n1'
          have hr1 := hR1.1
          have hr2 := hR2.1
          rw [hf1] at hr1
          rw [hf2] at hr2
          generalize F[k] = t at *
          generalize G[k] = u at *
          obtain ⟨ino, dv, data, cp, wh, left⟩ := t
          obtain ⟨ino2, dv2, data2, cp2, wh2, left2⟩ := u
          simp only [Fi.p, PF.mk.injEq] at hpk
          obtain ⟨rfl, rfl, rfl, rfl, rfl⟩ := hpk
          simp only at m0 m1 m2 m3 m4 n0 n1' n2' n3' n4 hr1 hr2
          have a0 : (0 : Int) ≤ (k : Int) := by omega
          have a1 : (k : Int) < (F.length : Int) := by omega
          have HM1 : Hid (∀ wx, Below W.heap.size W wx → wx.cell? ⟨b1, o1 + k * 5, none⟩ = some (.int .i64 ino) ∧ wx.cell? ⟨b1, o1 + k * 5 + 1, none⟩ = some (.slice FA data.length FC) ∧ wx.cell? ⟨b1, o1 + k * 5 + 2, none⟩ = some (.bool cp) ∧ wx.cell? ⟨b1, o1 + k * 5 + 3, none⟩ = some (.bool wh) ∧ wx.cell? ⟨b1, o1 + k * 5 + 4, none⟩ = some (.int .i64 left)) := keep (fun wx hx => by
            have hbl : b1 < W.heap.size := by have := World.block_lt_of_cell? W _ m0; simpa using this
            exact ⟨(hx.cell (p := ⟨b1, o1 + k * 5, none⟩) hbl).trans m0, (hx.cell (p := ⟨b1, o1 + k * 5 + 1, none⟩) hbl).trans m1, (hx.cell (p := ⟨b1, o1 + k * 5 + 2, none⟩) hbl).trans m2, (hx.cell (p := ⟨b1, o1 + k * 5 + 3, none⟩) hbl).trans m3, (hx.cell (p := ⟨b1, o1 + k * 5 + 4, none⟩) hbl).trans m4⟩)
          have HM2 : Hid (∀ wx, Below W.heap.size W wx → wx.cell? ⟨b2, o2 + k * 5, none⟩ = some (.int .i64 ino) ∧ wx.cell? ⟨b2, o2 + k * 5 + 1, none⟩ = some (.slice GA data.length GC) ∧ wx.cell? ⟨b2, o2 + k * 5 + 2, none⟩ = some (.bool cp) ∧ wx.cell? ⟨b2, o2 + k * 5 + 3, none⟩ = some (.bool wh) ∧ wx.cell? ⟨b2, o2 + k * 5 + 4, none⟩ = some (.int .i64 left)) := keep (fun wx hx => by
            have hbl : b2 < W.heap.size := by have := World.block_lt_of_cell? W _ n0; simpa using this
            exact ⟨(hx.cell (p := ⟨b2, o2 + k * 5, none⟩) hbl).trans n0, (hx.cell (p := ⟨b2, o2 + k * 5 + 1, none⟩) hbl).trans n1', (hx.cell (p := ⟨b2, o2 + k * 5 + 2, none⟩) hbl).trans n2', (hx.cell (p := ⟨b2, o2 + k * 5 + 3, none⟩) hbl).trans n3', (hx.cell (p := ⟨b2, o2 + k * 5 + 4, none⟩) hbl).trans n4⟩)
          have HSF : Hid (∀ wx, Below W.heap.size W wx → Calls Tryd.prog 29 #[.agg #[.int .i64 ino, .slice FA data.length FC, .bool cp, .bool wh, .int .i64 left], .agg #[.int .i64 ino, .slice GA data.length GC, .bool cp, .bool wh, .int .i64 left]] wx fun e w' => e = .returned (.bool true) ∧ Below wx.heap.size wx w') := keep (fun wx hx =>
            sameFile_any ⟨ino, data, cp, wh, left⟩ _ _ wx _ _ ((show FiR W ⟨0, .slice FA data.length FC, data, false, false, 0⟩ from ⟨hr1, hR1.2⟩).up hx).1 ((show FiR W ⟨0, .slice GA data.length GC, data, false, false, 0⟩ from ⟨hr2, hR2.2⟩).up hx).1 (fun b hb => hb.lt_) (fun b hb => hb.lt_))
          clear m0 m1 m2 m3 m4 n0 n1' n2' n3' n4 hr1 hr2 hR1 hR2 hUF hUF2 hf1 hf2
          go_upto_region 11 with fail
          clear x0 x1 x2
          refine reg_start 88 fr88 (fun _ => rfl) _ rfl fun x0 hx0 => ?_
          have y2 : x0 2 = .pointer (some ⟨w.heap.size, 0, none⟩) := hx0 2
          have y3 : x0 3 = .pointer (some ⟨w.heap.size + 1, 0, none⟩) := hx0 3
          have y6 : x0 6 = .int .i64 (k : Int) := hx0 6
          refine wp_regT (by kernel_rfl) 88 (by kernel_rfl) fr88 (fun _ => rfl) x0 (Below W.heap.size W) (fun _ _ _ => True) (fun i v wa => match i with
              | 0 => v = .pointer (some ⟨w.heap.size, 1, none⟩)
              | 1 => v = .slice (some ⟨b1, o1, none⟩) F.length c2
              | 2 => v = .int .i64 (k : Int)
              | 3 => v = .pointer (some ⟨b1, o1 + k * 5, none⟩)
              | 4 => v = .agg #[.int .i64 ino, .slice FA data.length FC, .bool cp, .bool wh, .int .i64 left]
              | 5 => v = .pointer (some ⟨w.heap.size + 1, 1, none⟩)
              | 6 => v = .slice (some ⟨b2, o2, none⟩) F.length d2
              | 7 => v = .int .i64 (k : Int)
              | 8 => v = .pointer (some ⟨b2, o2 + k * 5, none⟩)
              | 9 => v = .agg #[.int .i64 ino, .slice GA data.length GC, .bool cp, .bool wh, .int .i64 left]
              | 10 => v = .bool true
              | 11 => v = .bool false
              | _ => True) (fun i j v wa wb _ _ hp => by
              match j, hp with
              | 0, hp => exact hp
              | 1, hp => exact hp
              | 2, hp => exact hp
              | 3, hp => exact hp
              | 4, hp => exact hp
              | 5, hp => exact hp
              | 6, hp => exact hp
              | 7, hp => exact hp
              | 8, hp => exact hp
              | 9, hp => exact hp
              | 10, hp => exact hp
              | 11, hp => exact hp
              | _ + 12, hp => trivial) (HBR.out.drew) ?step ?skip ?done
          case step =>
            intro i o ho x wa K hW hout hdep hgd hK
            have E2 : Hid (x 2 = .pointer (some ⟨w.heap.size, 0, none⟩)) := keep ((hout 2 (by decide)).trans y2)
            have E3 : Hid (x 3 = .pointer (some ⟨w.heap.size + 1, 0, none⟩)) := keep ((hout 3 (by decide)).trans y3)
            have E6 : Hid (x 6 = .int .i64 (k : Int)) := keep ((hout 6 (by decide)).trans y6)
            clear hout hx0 y2 y3 y6
            have hi : i < 12 := (Array.getElem?_eq_some_iff.1 ho).1
            have hcase : i = 0 ∨ i = 1 ∨ i = 2 ∨ i = 3 ∨ i = 4 ∨ i = 5 ∨ i = 6 ∨ i = 7 ∨ i = 8 ∨ i = 9 ∨ i = 10 ∨ i = 11 := by omega
            clear hi
            rcases hcase with rfl | rfl | rfl | rfl | rfl | rfl | rfl | rfl | rfl | rfl | rfl | rfl
            · -- operation 0
              simp only [List.getElem?_toArray, List.getElem?_cons_zero, Option.some.injEq] at ho
              subst ho
              clear hdep hgd
              unfold fr88
              rw [E2.out]
              go_simp
              have hk : K { tmps := #[x 0, x 1, x 2, x 3, x 4, x 5, x 6, x 7, x 8, x 9, x 10, x 11, x 12, x 13, x 14, x 15, x 16, x 17, x 18, x 19, x 20, x 21, x 22, x 23, x 24, x 25, x 26, x 27, x 28, x 29, x 30, x 31, x 32, x 33, x 34, x 35, x 36, x 37, x 38, x 39, x 40, x 41, x 42, x 43, x 44, x 45, x 46, x 47, x 48, x 49, x 50, x 51, x 52, x 53, x 54, x 55, x 56, x 57, .pointer (some ⟨w.heap.size, 1, none⟩), x 59, x 60, x 61, x 62, x 63, x 64, x 65, x 66, x 67, x 68, x 69, x 70, x 71, x 72, x 73, x 74, x 75, x 76, x 77, x 78, x 79, x 80, x 81, x 82, x 83, x 84, x 85, x 86, x 87], defers := [] } wa := hK _ _ hW trivial rfl
              rw [E2.out] at hk
              exact hk
            · -- operation 1
              simp only [List.getElem?_toArray, List.getElem?_cons_succ, List.getElem?_cons_zero, Option.some.injEq] at ho
              subst ho
              have p0 : (x 58) = .pointer (some ⟨w.heap.size, 1, none⟩) := hdep 0 (List.mem_of_elem_eq_true (by kernel_rfl))
              clear hdep hgd
              obtain ⟨x0, x1, x2⟩ := (HX.out.below hW HX.out.lt).cell3
              unfold fr88
              rw [p0]
              go_simp
              have hk : K { tmps := #[x 0, x 1, x 2, x 3, x 4, x 5, x 6, x 7, x 8, x 9, x 10, x 11, x 12, x 13, x 14, x 15, x 16, x 17, x 18, x 19, x 20, x 21, x 22, x 23, x 24, x 25, x 26, x 27, x 28, x 29, x 30, x 31, x 32, x 33, x 34, x 35, x 36, x 37, x 38, x 39, x 40, x 41, x 42, x 43, x 44, x 45, x 46, x 47, x 48, x 49, x 50, x 51, x 52, x 53, x 54, x 55, x 56, x 57, x 58, .slice (some ⟨b1, o1, none⟩) F.length c2, x 60, x 61, x 62, x 63, x 64, x 65, x 66, x 67, x 68, x 69, x 70, x 71, x 72, x 73, x 74, x 75, x 76, x 77, x 78, x 79, x 80, x 81, x 82, x 83, x 84, x 85, x 86, x 87], defers := [] } wa := hK _ _ hW trivial rfl
              rw [p0] at hk
              exact hk
            · -- operation 2
              simp only [List.getElem?_toArray, List.getElem?_cons_succ, List.getElem?_cons_zero, Option.some.injEq] at ho
              subst ho
              clear hdep hgd
              unfold fr88
              rw [E6.out]
              go_simp
              have hk : K { tmps := #[x 0, x 1, x 2, x 3, x 4, x 5, x 6, x 7, x 8, x 9, x 10, x 11, x 12, x 13, x 14, x 15, x 16, x 17, x 18, x 19, x 20, x 21, x 22, x 23, x 24, x 25, x 26, x 27, x 28, x 29, x 30, x 31, x 32, x 33, x 34, x 35, x 36, x 37, x 38, x 39, x 40, x 41, x 42, x 43, x 44, x 45, x 46, x 47, x 48, x 49, x 50, x 51, x 52, x 53, x 54, x 55, x 56, x 57, x 58, x 59, .int .i64 (k : Int), x 61, x 62, x 63, x 64, x 65, x 66, x 67, x 68, x 69, x 70, x 71, x 72, x 73, x 74, x 75, x 76, x 77, x 78, x 79, x 80, x 81, x 82, x 83, x 84, x 85, x 86, x 87], defers := [] } wa := hK _ _ hW trivial rfl
              rw [E6.out] at hk
              exact hk
            · -- operation 3
              simp only [List.getElem?_toArray, List.getElem?_cons_succ, List.getElem?_cons_zero, Option.some.injEq] at ho
              subst ho
              have p1 : (x 59) = .slice (some ⟨b1, o1, none⟩) F.length c2 := hdep 1 (List.mem_of_elem_eq_true (by kernel_rfl))
              have p2 : (x 60) = .int .i64 (k : Int) := hdep 2 (List.mem_of_elem_eq_true (by kernel_rfl))
              clear hdep hgd
              unfold fr88
              rw [p1, p2]
              go_simp
              have hk : K { tmps := #[x 0, x 1, x 2, x 3, x 4, x 5, x 6, x 7, x 8, x 9, x 10, x 11, x 12, x 13, x 14, x 15, x 16, x 17, x 18, x 19, x 20, x 21, x 22, x 23, x 24, x 25, x 26, x 27, x 28, x 29, x 30, x 31, x 32, x 33, x 34, x 35, x 36, x 37, x 38, x 39, x 40, x 41, x 42, x 43, x 44, x 45, x 46, x 47, x 48, x 49, x 50, x 51, x 52, x 53, x 54, x 55, x 56, x 57, x 58, x 59, x 60, .pointer (some ⟨b1, o1 + k * 5, none⟩), x 62, x 63, x 64, x 65, x 66, x 67, x 68, x 69, x 70, x 71, x 72, x 73, x 74, x 75, x 76, x 77, x 78, x 79, x 80, x 81, x 82, x 83, x 84, x 85, x 86, x 87], defers := [] } wa := hK _ _ hW trivial rfl
              rw [p1, p2] at hk
              exact hk
            · -- operation 4
              simp only [List.getElem?_toArray, List.getElem?_cons_succ, List.getElem?_cons_zero, Option.some.injEq] at ho
              subst ho
              have p3 : (x 61) = .pointer (some ⟨b1, o1 + k * 5, none⟩) := hdep 3 (List.mem_of_elem_eq_true (by kernel_rfl))
              clear hdep hgd
              obtain ⟨m0, m1, m2, m3, m4⟩ := HM1.out wa hW
              unfold fr88
              rw [p3]
              go_simp
              have hk : K { tmps := #[x 0, x 1, x 2, x 3, x 4, x 5, x 6, x 7, x 8, x 9, x 10, x 11, x 12, x 13, x 14, x 15, x 16, x 17, x 18, x 19, x 20, x 21, x 22, x 23, x 24, x 25, x 26, x 27, x 28, x 29, x 30, x 31, x 32, x 33, x 34, x 35, x 36, x 37, x 38, x 39, x 40, x 41, x 42, x 43, x 44, x 45, x 46, x 47, x 48, x 49, x 50, x 51, x 52, x 53, x 54, x 55, x 56, x 57, x 58, x 59, x 60, x 61, .agg #[.int .i64 ino, .slice FA data.length FC, .bool cp, .bool wh, .int .i64 left], x 63, x 64, x 65, x 66, x 67, x 68, x 69, x 70, x 71, x 72, x 73, x 74, x 75, x 76, x 77, x 78, x 79, x 80, x 81, x 82, x 83, x 84, x 85, x 86, x 87], defers := [] } wa := hK _ _ hW trivial rfl
              rw [p3] at hk
              exact hk
            · -- operation 5
              simp only [List.getElem?_toArray, List.getElem?_cons_succ, List.getElem?_cons_zero, Option.some.injEq] at ho
              subst ho
              clear hdep hgd
              unfold fr88
              rw [E3.out]
              go_simp
              have hk : K { tmps := #[x 0, x 1, x 2, x 3, x 4, x 5, x 6, x 7, x 8, x 9, x 10, x 11, x 12, x 13, x 14, x 15, x 16, x 17, x 18, x 19, x 20, x 21, x 22, x 23, x 24, x 25, x 26, x 27, x 28, x 29, x 30, x 31, x 32, x 33, x 34, x 35, x 36, x 37, x 38, x 39, x 40, x 41, x 42, x 43, x 44, x 45, x 46, x 47, x 48, x 49, x 50, x 51, x 52, x 53, x 54, x 55, x 56, x 57, x 58, x 59, x 60, x 61, x 62, .pointer (some ⟨w.heap.size + 1, 1, none⟩), x 64, x 65, x 66, x 67, x 68, x 69, x 70, x 71, x 72, x 73, x 74, x 75, x 76, x 77, x 78, x 79, x 80, x 81, x 82, x 83, x 84, x 85, x 86, x 87], defers := [] } wa := hK _ _ hW trivial rfl
              rw [E3.out] at hk
              exact hk
            · -- operation 6
              simp only [List.getElem?_toArray, List.getElem?_cons_succ, List.getElem?_cons_zero, Option.some.injEq] at ho
              subst ho
              have p5 : (x 63) = .pointer (some ⟨w.heap.size + 1, 1, none⟩) := hdep 5 (List.mem_of_elem_eq_true (by kernel_rfl))
              clear hdep hgd
              obtain ⟨y0, y1, y2⟩ := (HY.out.below hW HY.out.lt).cell3
              unfold fr88
              rw [p5]
              go_simp
              have hk : K { tmps := #[x 0, x 1, x 2, x 3, x 4, x 5, x 6, x 7, x 8, x 9, x 10, x 11, x 12, x 13, x 14, x 15, x 16, x 17, x 18, x 19, x 20, x 21, x 22, x 23, x 24, x 25, x 26, x 27, x 28, x 29, x 30, x 31, x 32, x 33, x 34, x 35, x 36, x 37, x 38, x 39, x 40, x 41, x 42, x 43, x 44, x 45, x 46, x 47, x 48, x 49, x 50, x 51, x 52, x 53, x 54, x 55, x 56, x 57, x 58, x 59, x 60, x 61, x 62, x 63, .slice (some ⟨b2, o2, none⟩) F.length d2, x 65, x 66, x 67, x 68, x 69, x 70, x 71, x 72, x 73, x 74, x 75, x 76, x 77, x 78, x 79, x 80, x 81, x 82, x 83, x 84, x 85, x 86, x 87], defers := [] } wa := hK _ _ hW trivial rfl
              rw [p5] at hk
              exact hk
            · -- operation 7
              simp only [List.getElem?_toArray, List.getElem?_cons_succ, List.getElem?_cons_zero, Option.some.injEq] at ho
              subst ho
              clear hdep hgd
              unfold fr88
              rw [E6.out]
              go_simp
              have hk : K { tmps := #[x 0, x 1, x 2, x 3, x 4, x 5, x 6, x 7, x 8, x 9, x 10, x 11, x 12, x 13, x 14, x 15, x 16, x 17, x 18, x 19, x 20, x 21, x 22, x 23, x 24, x 25, x 26, x 27, x 28, x 29, x 30, x 31, x 32, x 33, x 34, x 35, x 36, x 37, x 38, x 39, x 40, x 41, x 42, x 43, x 44, x 45, x 46, x 47, x 48, x 49, x 50, x 51, x 52, x 53, x 54, x 55, x 56, x 57, x 58, x 59, x 60, x 61, x 62, x 63, x 64, .int .i64 (k : Int), x 66, x 67, x 68, x 69, x 70, x 71, x 72, x 73, x 74, x 75, x 76, x 77, x 78, x 79, x 80, x 81, x 82, x 83, x 84, x 85, x 86, x 87], defers := [] } wa := hK _ _ hW trivial rfl
              rw [E6.out] at hk
              exact hk
            · -- operation 8
              simp only [List.getElem?_toArray, List.getElem?_cons_succ, List.getElem?_cons_zero, Option.some.injEq] at ho
              subst ho
              have p6 : (x 64) = .slice (some ⟨b2, o2, none⟩) F.length d2 := hdep 6 (List.mem_of_elem_eq_true (by kernel_rfl))
              have p7 : (x 65) = .int .i64 (k : Int) := hdep 7 (List.mem_of_elem_eq_true (by kernel_rfl))
              clear hdep hgd
              unfold fr88
              rw [p6, p7]
              go_simp
              have hk : K { tmps := #[x 0, x 1, x 2, x 3, x 4, x 5, x 6, x 7, x 8, x 9, x 10, x 11, x 12, x 13, x 14, x 15, x 16, x 17, x 18, x 19, x 20, x 21, x 22, x 23, x 24, x 25, x 26, x 27, x 28, x 29, x 30, x 31, x 32, x 33, x 34, x 35, x 36, x 37, x 38, x 39, x 40, x 41, x 42, x 43, x 44, x 45, x 46, x 47, x 48, x 49, x 50, x 51, x 52, x 53, x 54, x 55, x 56, x 57, x 58, x 59, x 60, x 61, x 62, x 63, x 64, x 65, .pointer (some ⟨b2, o2 + k * 5, none⟩), x 67, x 68, x 69, x 70, x 71, x 72, x 73, x 74, x 75, x 76, x 77, x 78, x 79, x 80, x 81, x 82, x 83, x 84, x 85, x 86, x 87], defers := [] } wa := hK _ _ hW trivial rfl
              rw [p6, p7] at hk
              exact hk
            · -- operation 9
              simp only [List.getElem?_toArray, List.getElem?_cons_succ, List.getElem?_cons_zero, Option.some.injEq] at ho
              subst ho
              have p8 : (x 66) = .pointer (some ⟨b2, o2 + k * 5, none⟩) := hdep 8 (List.mem_of_elem_eq_true (by kernel_rfl))
              clear hdep hgd
              obtain ⟨m0, m1, m2, m3, m4⟩ := HM2.out wa hW
              unfold fr88
              rw [p8]
              go_simp
              have hk : K { tmps := #[x 0, x 1, x 2, x 3, x 4, x 5, x 6, x 7, x 8, x 9, x 10, x 11, x 12, x 13, x 14, x 15, x 16, x 17, x 18, x 19, x 20, x 21, x 22, x 23, x 24, x 25, x 26, x 27, x 28, x 29, x 30, x 31, x 32, x 33, x 34, x 35, x 36, x 37, x 38, x 39, x 40, x 41, x 42, x 43, x 44, x 45, x 46, x 47, x 48, x 49, x 50, x 51, x 52, x 53, x 54, x 55, x 56, x 57, x 58, x 59, x 60, x 61, x 62, x 63, x 64, x 65, x 66, .agg #[.int .i64 ino, .slice GA data.length GC, .bool cp, .bool wh, .int .i64 left], x 68, x 69, x 70, x 71, x 72, x 73, x 74, x 75, x 76, x 77, x 78, x 79, x 80, x 81, x 82, x 83, x 84, x 85, x 86, x 87], defers := [] } wa := hK _ _ hW trivial rfl
              rw [p8] at hk
              exact hk
            · -- operation 10
              simp only [List.getElem?_toArray, List.getElem?_cons_succ, List.getElem?_cons_zero, Option.some.injEq] at ho
              subst ho
              have p4 : (x 62) = .agg #[.int .i64 ino, .slice FA data.length FC, .bool cp, .bool wh, .int .i64 left] := hdep 4 (List.mem_of_elem_eq_true (by kernel_rfl))
              have p9 : (x 67) = .agg #[.int .i64 ino, .slice GA data.length GC, .bool cp, .bool wh, .int .i64 left] := hdep 9 (List.mem_of_elem_eq_true (by kernel_rfl))
              clear hdep hgd
              unfold fr88
              rw [p4, p9]
              go_simp
              refine (HSF.out wa hW).mono ?_
              rintro e w5 ⟨rfl, hb5⟩
              have hk : K { tmps := #[x 0, x 1, x 2, x 3, x 4, x 5, x 6, x 7, x 8, x 9, x 10, x 11, x 12, x 13, x 14, x 15, x 16, x 17, x 18, x 19, x 20, x 21, x 22, x 23, x 24, x 25, x 26, x 27, x 28, x 29, x 30, x 31, x 32, x 33, x 34, x 35, x 36, x 37, x 38, x 39, x 40, x 41, x 42, x 43, x 44, x 45, x 46, x 47, x 48, x 49, x 50, x 51, x 52, x 53, x 54, x 55, x 56, x 57, x 58, x 59, x 60, x 61, x 62, x 63, x 64, x 65, x 66, x 67, .bool true, x 69, x 70, x 71, x 72, x 73, x 74, x 75, x 76, x 77, x 78, x 79, x 80, x 81, x 82, x 83, x 84, x 85, x 86, x 87], defers := [] } w5 := hK _ _ (bchain hW hb5) trivial rfl
              rw [p4, p9] at hk
              exact hk
            · -- operation 11
              simp only [List.getElem?_toArray, List.getElem?_cons_succ, List.getElem?_cons_zero, Option.some.injEq] at ho
              subst ho
              have p10 : (x 68) = .bool true := hdep 10 (List.mem_of_elem_eq_true (by kernel_rfl))
              clear hdep hgd
              unfold fr88
              rw [p10]
              go_simp
              have hk : K { tmps := #[x 0, x 1, x 2, x 3, x 4, x 5, x 6, x 7, x 8, x 9, x 10, x 11, x 12, x 13, x 14, x 15, x 16, x 17, x 18, x 19, x 20, x 21, x 22, x 23, x 24, x 25, x 26, x 27, x 28, x 29, x 30, x 31, x 32, x 33, x 34, x 35, x 36, x 37, x 38, x 39, x 40, x 41, x 42, x 43, x 44, x 45, x 46, x 47, x 48, x 49, x 50, x 51, x 52, x 53, x 54, x 55, x 56, x 57, x 58, x 59, x 60, x 61, x 62, x 63, x 64, x 65, x 66, x 67, x 68, .bool false, x 70, x 71, x 72, x 73, x 74, x 75, x 76, x 77, x 78, x 79, x 80, x 81, x 82, x 83, x 84, x 85, x 86, x 87], defers := [] } wa := hK _ _ hW trivial rfl
              rw [p10] at hk
              exact hk
          case skip =>
            intro i o j b ho hgd
            have hi : i < 12 := (Array.getElem?_eq_some_iff.1 ho).1
            have hcase : i = 0 ∨ i = 1 ∨ i = 2 ∨ i = 3 ∨ i = 4 ∨ i = 5 ∨ i = 6 ∨ i = 7 ∨ i = 8 ∨ i = 9 ∨ i = 10 ∨ i = 11 := by omega
            rcases hcase with rfl | rfl | rfl | rfl | rfl | rfl | rfl | rfl | rfl | rfl | rfl | rfl <;> (simp only [List.getElem?_toArray, List.getElem?_cons_succ, List.getElem?_cons_zero, Option.some.injEq] at ho; subst ho; cases hgd)
          case done =>
            intro x wd hout hW hall
            have p11 : x 69 = .bool false := hall 11 (by decide)
            unfold fr88
            rw [(hout 0 (by decide)).trans (hx0 0), (hout 1 (by decide)).trans (hx0 1), (hout 2 (by decide)).trans (hx0 2), (hout 3 (by decide)).trans (hx0 3), (hout 4 (by decide)).trans (hx0 4), (hout 5 (by decide)).trans (hx0 5), (hout 6 (by decide)).trans (hx0 6), (hout 7 (by decide)).trans (hx0 7), (hout 8 (by decide)).trans (hx0 8), (hout 9 (by decide)).trans (hx0 9), (hout 10 (by decide)).trans (hx0 10), (hout 11 (by decide)).trans (hx0 11), (hout 12 (by decide)).trans (hx0 12), (hout 13 (by decide)).trans (hx0 13), (hout 14 (by decide)).trans (hx0 14), (hout 15 (by decide)).trans (hx0 15), (hout 16 (by decide)).trans (hx0 16), (hout 17 (by decide)).trans (hx0 17), (hout 18 (by decide)).trans (hx0 18), (hout 19 (by decide)).trans (hx0 19), (hout 20 (by decide)).trans (hx0 20), (hout 21 (by decide)).trans (hx0 21), (hout 22 (by decide)).trans (hx0 22), (hout 23 (by decide)).trans (hx0 23), (hout 24 (by decide)).trans (hx0 24), (hout 25 (by decide)).trans (hx0 25), (hout 26 (by decide)).trans (hx0 26), (hout 27 (by decide)).trans (hx0 27), (hout 28 (by decide)).trans (hx0 28), (hout 29 (by decide)).trans (hx0 29), (hout 30 (by decide)).trans (hx0 30), (hout 31 (by decide)).trans (hx0 31), (hout 32 (by decide)).trans (hx0 32), (hout 33 (by decide)).trans (hx0 33), (hout 34 (by decide)).trans (hx0 34), (hout 35 (by decide)).trans (hx0 35), (hout 36 (by decide)).trans (hx0 36), (hout 37 (by decide)).trans (hx0 37), (hout 38 (by decide)).trans (hx0 38), (hout 39 (by decide)).trans (hx0 39), (hout 40 (by decide)).trans (hx0 40), (hout 41 (by decide)).trans (hx0 41), (hout 42 (by decide)).trans (hx0 42), (hout 43 (by decide)).trans (hx0 43), (hout 44 (by decide)).trans (hx0 44), (hout 45 (by decide)).trans (hx0 45), (hout 46 (by decide)).trans (hx0 46), (hout 47 (by decide)).trans (hx0 47), (hout 48 (by decide)).trans (hx0 48), (hout 49 (by decide)).trans (hx0 49), (hout 50 (by decide)).trans (hx0 50), (hout 51 (by decide)).trans (hx0 51), (hout 52 (by decide)).trans (hx0 52), (hout 53 (by decide)).trans (hx0 53), (hout 54 (by decide)).trans (hx0 54), (hout 55 (by decide)).trans (hx0 55), (hout 56 (by decide)).trans (hx0 56), (hout 57 (by decide)).trans (hx0 57), (hout 70 (by decide)).trans (hx0 70), (hout 71 (by decide)).trans (hx0 71), (hout 72 (by decide)).trans (hx0 72), (hout 73 (by decide)).trans (hx0 73), (hout 74 (by decide)).trans (hx0 74), (hout 75 (by decide)).trans (hx0 75), (hout 76 (by decide)).trans (hx0 76), (hout 77 (by decide)).trans (hx0 77), (hout 78 (by decide)).trans (hx0 78), (hout 79 (by decide)).trans (hx0 79), (hout 80 (by decide)).trans (hx0 80), (hout 81 (by decide)).trans (hx0 81), (hout 82 (by decide)).trans (hx0 82), (hout 83 (by decide)).trans (hx0 83), (hout 84 (by decide)).trans (hx0 84), (hout 85 (by decide)).trans (hx0 85), (hout 86 (by decide)).trans (hx0 86), (hout 87 (by decide)).trans (hx0 87)]
            simp only [Array.getD_eq_getD_getElem?, List.getElem?_toArray, List.getElem?_cons_succ, List.getElem?_cons_zero, Option.getD_some]
            rw [p11]
            have HBR := keep hW
            clear hall hout hx0 y2 y3 y6 hW
            go_wp2_with fail
            go_roundw
            case rel => exact ⟨k + 1, by go_num, by omega, HBR⟩
            case measure => simp [intOf]; omega
        · obtain rfl : k = F.length := by omega
          obtain ⟨x0, x1, x2⟩ := (HX.out.below HBR.out HX.out.lt).cell3
          have HBS := keep HBR.out
          go_wp2_with fail
          clear x0 x1 x2 HBR
          go_loopw [7] (fun i wx => ∃ k : Nat, i = .int .i64 k ∧ k ≤ O.length ∧ Hid (Below W.heap.size W wx)) (fun i _ => O.length - (intOf i).toNat)
          case atStart => exact ⟨0, rfl, Nat.zero_le _, HBS⟩
          case round =>
            obtain ⟨k, rfl, hk, HBR⟩ := hrel
            obtain ⟨x0, x1, x2⟩ := (HX.out.below HBR.out HX.out.lt).cell3
            obtain ⟨y0, y1, y2⟩ := (HY.out.below HBR.out HY.out.lt).cell3
            by_cases hlt : k < O.length
            · obtain ⟨b1, o1, u1, rfl, _, hu1, m1⟩ := (HT.out.up HBR.out).o.at_ hlt
              obtain ⟨b2, o2, u2, rfl, _, hu2, m2⟩ := (HU.out.up HBR.out).o.at_ hlt
              obtain ⟨z, hz⟩ : ∃ z, O[k] = z := ⟨_, rfl⟩
              obtain rfl : u1 = .int .i64 z := by
                rw [ints, List.getElem?_map, List.getElem?_eq_getElem hlt, hz] at hu1
                exact (Option.some.inj hu1).symm
              obtain rfl : u2 = .int .i64 z := by
                rw [ints, List.getElem?_map, List.getElem?_eq_getElem hlt, hz] at hu2
                exact (Option.some.inj hu2).symm
              have a0 : (0 : Int) ≤ (k : Int) := by omega
              have a1 : (k : Int) < (O.length : Int) := by omega
              clear hu1 hu2 hz
              go_wp2_with fail
              go_quiet (fail)
              go_wp2_with fail
              go_roundw
              case rel => exact ⟨k + 1, by go_num, by omega, keep (HBR.out.trans (below_drewN (Below.refl _ _) _))⟩
              case measure => simp [intOf]; omega
            · obtain rfl : k = O.length := by omega
              have HBE := keep (bchain HB.out HBR.out)
              go_wp2_with fail
              go_ret
              exact ⟨rfl, HBE.out⟩
end Go.Proofs.YtldopkdjoejhbaaDoor
