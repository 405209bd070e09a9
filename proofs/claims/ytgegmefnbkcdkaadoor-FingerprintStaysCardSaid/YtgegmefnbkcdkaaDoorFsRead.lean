/- Read: what it gives. -/
import Derived.Test.YtgegmefnbkcdkaaDoorFsLook
namespace Go.Proofs.YtgegmefnbkcdkaaDoor
open Go.RowKit
/-- A file as it is read. -/
def seenP (t : PF) : PF := ⟨t.ino, t.data.take (t.data.length - t.left.toNat), t.cp, t.wh, 0⟩
def readP (d : PD) (i : Int) : Option PF := (getP d.F i).map seenP
def fileV (t : PF) (dv : Value) : Value := .agg #[.int .i64 t.ino, dv, .bool t.cp, .bool t.wh, .int .i64 t.left]
def zeroF : PF := ⟨0, [], false, false, 0⟩
def ReadOut (fs : FS) (i : Int) (w : World) (x : Ending) (w' : World) : Prop := ∃ dv, x = .returned (.tuple #[fileV ((readP fs.p i).getD zeroF) dv, .bool (readP fs.p i).isSome]) ∧ Sl w' (u8B w') 1 dv ((readP fs.p i).getD zeroF).data.length (bys ((readP fs.p i).getD zeroF).data) ∧ Below w.heap.size w w'
theorem get_none {F : List Fi} {i : Int} (h : ∀ t ∈ F, t.ino ≠ i) : getP (F.map Fi.p) i = none := by
  unfold getP
  rw [List.find?_eq_none]
  intro x hx
  obtain ⟨t, ht, rfl⟩ := List.mem_map.1 hx
  have := h t ht
  simp [Fi.p, this]
theorem sl_cut {w : World} {S : Nat → Prop} {A : Option Addr} {c k : Nat} {l : List UInt8} (h : Sl w S 1 (.slice A l.length c) l.length (bys l)) (hk : k ≤ l.length) : Sl w S 1 (.slice A k c) (l.take k).length (bys (l.take k)) := by
  have := h.take hk
  rw [List.length_take, Nat.min_eq_left hk]
  unfold bys at this ⊢
  rwa [Nat.mul_one, ← List.map_take] at this
theorem Sl.u8Grown {w w' : World} {n : Nat} {v : Value} {xs : List Value} {row : Option Nat} (h : Sl w (u8B w) 1 v n xs) (hg : w.grownBy w' row) (hr : ∀ b, u8B w b → some b ≠ row) : Sl w' (u8B w') 1 v n xs := by
  obtain ⟨hl, A, c, hv, hc, hrr⟩ := h
  refine ⟨hl, A, c, hv, hc, fun hn => ?_⟩
  obtain ⟨b, o, hA, hb, hrow⟩ := hrr hn
  exact ⟨b, o, hA, hb.grown hg (hr b hb), hrow.keep fun p hp => World.cell?_of_block (hg.block p.block (hp ▸ hb.lt_) (hp ▸ hr b hb))⟩
theorem read_done {fs : FS} {n : Int} {w w6 : World} {t u : PF} {dv : Value} {cs : Array Value} (hg : readP fs.p n = some t) (hs : t = u) (h : Sl w6 (u8B w6) 1 dv u.data.length (bys u.data)) (hz : Blk w6 (w.heap.size + 1) 60 cs) (hb : Below w.heap.size w w6) :
    ReadOut fs n w (.returned (.tuple #[.agg #[.int .i64 u.ino, dv, .bool u.cp, .bool u.wh, .int .i64 u.left], .bool true])) (((((w6.setCell ⟨w.heap.size + 1, 0, none⟩ (.int .i64 u.ino)).setCell ⟨w.heap.size + 1, 1, none⟩ dv).setCell ⟨w.heap.size + 1, 2, none⟩ (.bool u.cp)).setCell ⟨w.heap.size + 1, 3, none⟩ (.bool u.wh)).setCell ⟨w.heap.size + 1, 4, none⟩ (.int .i64 u.left)) := by
  refine ⟨dv, by rw [hg, hs]; rfl, ?_, below_five hb (by omega) _ _ _ _ _⟩
  rw [hg, hs]
  exact h.u8Grown (grown_five _ _ _ _ _ _ _) (noU8 hz (by decide))
set_option maxHeartbeats 8000000 in
set_option maxRecDepth 100000 in
theorem read_any (vN vF vO : Value) (fs : FS) (n : Int) (w : World) (h : FsT w vN vF vO fs) (hi : Inv fs) (ho : fs.O.length ≤ 800) :
    Calls Tryd.prog 17 #[.agg #[vN, vF, vO], .int .i64 n] w (ReadOut fs n w) := by
  obtain ⟨A1, c1, rfl, _, _⟩ := h.n.form
  obtain ⟨A2, c2, rfl, _, _⟩ := h.f.form
  obtain ⟨A3, c3, rfl, _, _⟩ := h.o.form
  obtain ⟨W, hW⟩ : ∃ W, W = (((w.alloc (.cells #[.slice A1 fs.N.length c1, .slice A2 fs.F.length c2, .slice A3 fs.O.length c3] 33)).alloc (.cells #[.int .i64 0, .slice none 0 0, .bool false, .bool false, .int .i64 0] 60)).alloc (.cells #[.slice A1 fs.N.length c1, .slice A2 fs.F.length c2, .slice A3 fs.O.length c3] 74)) := ⟨_, rfl⟩
  have hb : Below w.heap.size w W := hW ▸ (((Below.refl _ w).alloc (Nat.le_refl _) _).alloc (by simp) _).alloc (by simp; omega) _
  have hF : Blk W w.heap.size 33 #[.slice A1 fs.N.length c1, .slice A2 fs.F.length c2, .slice A3 fs.O.length c3] := hW ▸ (((Blk.new w _ _).alloc _).alloc _)
  have hZ : Blk W (w.heap.size + 1) 60 #[.int .i64 0, .slice none 0 0, .bool false, .bool false, .int .i64 0] := hW ▸ (Blk.new_at (by simp)).alloc _
  have hX : Blk W (w.heap.size + 1 + 1) 74 #[.slice A1 fs.N.length c1, .slice A2 fs.F.length c2, .slice A3 fs.O.length c3] := hW ▸ Blk.new_at (by simp)
  have hT := h.up hb
  have HQ := keep (inode_any (w.heap.size + 1 + 1) n _ fs.F W ((hX.cell 1).trans rfl) hT.r.f hT.d hi.f (by have := hi.count; omega))
  have HF := keep hF
  have HZ := keep hZ
  have HT := keep hT
  have HB := keep hb
  have HI := keep hi
  have hFl : fs.F.length ≤ 840 := by have := hi.count; omega
  clear hb hF hX hZ hT h hi ho
  go_enter Tryd.func17, Tryd.ntmps17
  go_wp2_with fail
  rw [← hW]
  clear hW
  refine HQ.out.mono ?_
  rintro e w1 ⟨k, hA, rfl, hb1⟩
  have hB1 := bchain HB.out hb1
  have hZ1 := HZ.out.below hb1 HZ.out.lt
  have HB1 := keep hB1
  have HZ1 := keep hZ1
  by_cases hc : cfAt_fi (cfi n) fs.F k = 0
  · rw [decide_eq_true hc]
    obtain ⟨hk, hino⟩ := at_ino_yes hc
    have hF1 := HF.out.below hb1 HF.out.lt
    have hT1 := HT.out.up hb1
    obtain ⟨_, f1, _⟩ := hF1.cell3
    obtain ⟨b, o, rfl, _, m0, m1, m2, m3, m4⟩ := fi_cells hT1.f hk
    have hR := hT1.d _ (List.getElem_mem hk)
    obtain ⟨FA, FC, hfd⟩ := hR.form
    rw [hfd] at m1
    have i1 : (k : Int) < (fs.F.length : Int) := by omega
    have i2 : (fs.F.length : Int) ≤ 840 := by omega
    have hgt : readP fs.p n = some (seenP fs.F[k].p) := by
      unfold readP
      rw [← hino]
      show (getP (fs.F.map Fi.p) fs.F[k].ino).map seenP = _
      rw [get_at HI.out.f hk]; rfl
    have hl := HI.out.l _ (List.getElem_mem hk)
    have hwl := HI.out.w _ (List.getElem_mem hk)
    have hcw := HI.out.c _ (List.getElem_mem hk)
    have hdl := HI.out.d _ (List.getElem_mem hk)
    have HGT := keep hgt
    have HR := keep hR
    obtain ⟨z0, z1, z2, z3, z4⟩ := hZ1.cell5
    obtain ⟨g0, g1, g2, g3, g4⟩ := hZ1.froz5
    generalize fs.F[k] = t at *
    obtain ⟨ino, dv, data, cp, wh, left⟩ := t
    simp only at hfd m0 m1 m2 m3 m4 hino hl hwl hcw hdl
    subst hfd
    obtain ⟨m, rfl⟩ := Int.eq_ofNat_of_zero_le hl.1
    obtain ⟨hl0, hl1⟩ := hl
    have hmx : max (m : Int) 0 = (m : Int) := by omega
    have hmn : min (m : Int) (data.length : Int) = (m : Int) := by omega
    have i3 : (data.length : Int) ≤ 60000 := by omega
    have hcut := sl_cut (k := data.length - m) (by have h1 := (HR.out).1; exact h1) (by omega)
    have hfc : data.length ≤ FC := by
      obtain ⟨_, A', c', hv, hcc, _⟩ := (HR.out).1
      injection hv with _ _ e3
      rw [e3]; exact hcc
    have hfc2 : data.length - m ≤ FC := by omega
    have HCUT := keep hcut
    have HWL := keep hwl
    clear hc hA hb1 hgt hR hwl hF1 hT1 hcut hB1 hZ1
    have HTK : Hid ((data.take (data.length - m)).length = data.length - m) := keep (by rw [List.length_take]; omega)
    subst hino
    cases wh with
    | true =>
      have hm0 : m = 0 := by
        have := HWL.out rfl
        omega
      subst hm0
      have HTK : Hid (data.length = data.length) := keep rfl
      have hcut2 := HCUT.out
      rw [Nat.sub_zero, List.take_length] at hcut2
      have HCUT := keep hcut2
      have HSP : Hid (seenP (Fi.p ⟨ino, .slice FA data.length FC, data, cp, true, ((0 : Nat) : Int)⟩) = ⟨ino, data, cp, true, 0⟩) := keep (by simp [seenP, Fi.p])
      clear hcut2
      cases cp
      · have hal : Below w1.heap.size w1 (w1.alloc (.cells #[.int .i64 ino, .slice FA data.length FC, .bool false, .bool true, .int .i64 0] 60)) := (Below.refl _ w1).alloc (Nat.le_refl _) _
        have HCL := keep (clone_bytes (.slice FA data.length FC) data (w1.alloc (.cells #[.int .i64 ino, .slice FA data.length FC, .bool false, .bool true, .int .i64 0] 60)) (BR.up (HCUT.out.mono fun _ hb => hb.lt_) hal) (by rw [HTK.out]; omega))
        have HX2 := keep (show Blk (w1.alloc (.cells #[.int .i64 ino, .slice FA data.length FC, .bool false, .bool true, .int .i64 0] 60)) w1.heap.size 60 #[.int .i64 ino, .slice FA data.length FC, .bool false, .bool true, .int .i64 0] from Blk.new _ _ _)
        have HZ2 := keep (HZ1.out.below hal HZ1.out.lt)
        have HB2 := keep (bchain HB1.out hal)
        have hz2 := hal.size
        clear hal hmx hmn
        go_wp2_with fail
        refine HCL.out.mono ?_
        rintro e w5 ⟨v5, rfl, ho5, hb5⟩
        obtain ⟨E5, g5, rfl, _⟩ := own_sl ho5
        have hX5 := HX2.out.below hb5 HX2.out.lt
        have hZ5 := HZ2.out.below hb5 HZ2.out.lt
        obtain ⟨x0, x1, x2, x3, x4⟩ := hX5.cell5
        obtain ⟨y0, y1, y2, y3, y4⟩ := hX5.froz5
        obtain ⟨p0, p1, p2, p3, p4⟩ := hZ5.cell5
        obtain ⟨r0, r1, r2, r3, r4⟩ := hZ5.froz5
        have hS5 := own_u8 ho5
        have hgr1 := grownBy_set (World.grownBy.refl w5 (some w1.heap.size)) 1 (.slice E5 data.length g5)
        have hX6 := hX5.set_ 1 (.slice E5 data.length g5)
        have hS6 := hS5.u8Grown hgr1 (noU8 hX5 (by decide))
        have hzx : w.heap.size + 1 ≠ w1.heap.size := by have := HZ1.out.lt; omega
        have hZ6 := hZ5.grown hgr1 (by simp [hzx])
        have hB6 := (bchain HB2.out hb5).setCell (p := ⟨w1.heap.size, 1, none⟩) (show w.heap.size ≤ w1.heap.size by have := HB1.out.size; omega) (.slice E5 data.length g5)
        have HX6 := keep hX6
        have HS6 := keep hS6
        have HZ6 := keep hZ6
        have HB6 := keep hB6
        clear hX5 hZ5 hS5 hgr1 hX6 hS6 hZ6 hB6 ho5 hb5 z0 z1 z2 z3 z4 g0 g1 g2 g3 g4
        go_wp2_with fail
        refine bodyPost_ret (results_cell_row_tmp rfl _ _ (w.heap.size + 1) _ _ _ _ rfl (HZ6.out.five _ _ _ _ _) Tryd.underlying60 rfl (by kernel_rfl)) rfl ?_
        exact read_done HGT.out HSP.out HS6.out HZ6.out HB6.out
      · have hal : Below w1.heap.size w1 (w1.alloc (.cells #[.int .i64 ino, .slice FA data.length FC, .bool true, .bool true, .int .i64 0] 60)) := (Below.refl _ w1).alloc (Nat.le_refl _) _
        have HCL := keep (clone_bytes (.slice FA data.length FC) data (w1.alloc (.cells #[.int .i64 ino, .slice FA data.length FC, .bool true, .bool true, .int .i64 0] 60)) (BR.up (HCUT.out.mono fun _ hb => hb.lt_) hal) (by rw [HTK.out]; omega))
        have HX2 := keep (show Blk (w1.alloc (.cells #[.int .i64 ino, .slice FA data.length FC, .bool true, .bool true, .int .i64 0] 60)) w1.heap.size 60 #[.int .i64 ino, .slice FA data.length FC, .bool true, .bool true, .int .i64 0] from Blk.new _ _ _)
        have HZ2 := keep (HZ1.out.below hal HZ1.out.lt)
        have HB2 := keep (bchain HB1.out hal)
        have hz2 := hal.size
        clear hal hmx hmn
        go_wp2_with fail
        refine HCL.out.mono ?_
        rintro e w5 ⟨v5, rfl, ho5, hb5⟩
        obtain ⟨E5, g5, rfl, _⟩ := own_sl ho5
        have hX5 := HX2.out.below hb5 HX2.out.lt
        have hZ5 := HZ2.out.below hb5 HZ2.out.lt
        obtain ⟨x0, x1, x2, x3, x4⟩ := hX5.cell5
        obtain ⟨y0, y1, y2, y3, y4⟩ := hX5.froz5
        obtain ⟨p0, p1, p2, p3, p4⟩ := hZ5.cell5
        obtain ⟨r0, r1, r2, r3, r4⟩ := hZ5.froz5
        have hS5 := own_u8 ho5
        have hgr1 := grownBy_set (World.grownBy.refl w5 (some w1.heap.size)) 1 (.slice E5 data.length g5)
        have hX6 := hX5.set_ 1 (.slice E5 data.length g5)
        have hS6 := hS5.u8Grown hgr1 (noU8 hX5 (by decide))
        have hzx : w.heap.size + 1 ≠ w1.heap.size := by have := HZ1.out.lt; omega
        have hZ6 := hZ5.grown hgr1 (by simp [hzx])
        have hB6 := (bchain HB2.out hb5).setCell (p := ⟨w1.heap.size, 1, none⟩) (show w.heap.size ≤ w1.heap.size by have := HB1.out.size; omega) (.slice E5 data.length g5)
        have HX6 := keep hX6
        have HS6 := keep hS6
        have HZ6 := keep hZ6
        have HB6 := keep hB6
        clear hX5 hZ5 hS5 hgr1 hX6 hS6 hZ6 hB6 ho5 hb5 z0 z1 z2 z3 z4 g0 g1 g2 g3 g4
        go_wp2_with fail
        refine bodyPost_ret (results_cell_row_tmp rfl _ _ (w.heap.size + 1) _ _ _ _ rfl (HZ6.out.five _ _ _ _ _) Tryd.underlying60 rfl (by kernel_rfl)) rfl ?_
        exact read_done HGT.out HSP.out HS6.out HZ6.out HB6.out
    | false =>
      have hcp : cp = true := by simpa using hcw
      subst hcp
      have HSP : Hid (seenP (Fi.p ⟨ino, .slice FA data.length FC, data, true, false, (m : Int)⟩) = ⟨ino, data.take (data.length - m), true, false, 0⟩) := keep (by simp [seenP, Fi.p])
      clear hcw
      have hcut2 := HCUT.out
      have htk := HTK.out
      have hsp := HSP.out
      clear HCUT HTK HSP
      generalize data.take (data.length - m) = l at hcut2 htk hsp
      have HCUT := keep hcut2
      have HTK := keep htk
      have HSP := keep hsp
      clear hcut2 htk hsp
      have hal : Below w1.heap.size w1 (w1.alloc (.cells #[.int .i64 ino, .slice FA (data.length - m) FC, .bool true, .bool false, .int .i64 0] 60)) := (Below.refl _ w1).alloc (Nat.le_refl _) _
      have HCL := keep (clone_bytes (.slice FA (data.length - m) FC) l (w1.alloc (.cells #[.int .i64 ino, .slice FA (data.length - m) FC, .bool true, .bool false, .int .i64 0] 60)) (BR.up (HCUT.out.mono fun _ hb => hb.lt_) hal) (by rw [HTK.out]; omega))
      have HX2 := keep (show Blk (w1.alloc (.cells #[.int .i64 ino, .slice FA (data.length - m) FC, .bool true, .bool false, .int .i64 0] 60)) w1.heap.size 60 #[.int .i64 ino, .slice FA (data.length - m) FC, .bool true, .bool false, .int .i64 0] from Blk.new _ _ _)
      have HZ2 := keep (HZ1.out.below hal HZ1.out.lt)
      have HB2 := keep (bchain HB1.out hal)
      have hz2 := hal.size
      clear hal
      go_wp2_with fail
      refine HCL.out.mono ?_
      rintro e w5 ⟨v5, rfl, ho5, hb5⟩
      obtain ⟨E5, g5, rfl, _⟩ := own_sl ho5
      have hX5 := HX2.out.below hb5 HX2.out.lt
      have hZ5 := HZ2.out.below hb5 HZ2.out.lt
      obtain ⟨x0, x1, x2, x3, x4⟩ := hX5.cell5
      obtain ⟨y0, y1, y2, y3, y4⟩ := hX5.froz5
      obtain ⟨p0, p1, p2, p3, p4⟩ := hZ5.cell5
      obtain ⟨r0, r1, r2, r3, r4⟩ := hZ5.froz5
      have hS5 := own_u8 ho5
      have hgr1 := grownBy_set (World.grownBy.refl w5 (some w1.heap.size)) 1 (.slice E5 l.length g5)
      have hX6 := hX5.set_ 1 (.slice E5 l.length g5)
      have hS6 := hS5.u8Grown hgr1 (noU8 hX5 (by decide))
      have hzx : w.heap.size + 1 ≠ w1.heap.size := by have := HZ1.out.lt; omega
      have hZ6 := hZ5.grown hgr1 (by simp [hzx])
      have hB6 := (bchain HB2.out hb5).setCell (p := ⟨w1.heap.size, 1, none⟩) (show w.heap.size ≤ w1.heap.size by have := HB1.out.size; omega) (.slice E5 l.length g5)
      have HX6 := keep hX6
      have HS6 := keep hS6
      have HZ6 := keep hZ6
      have HB6 := keep hB6
      clear hX5 hZ5 hS5 hgr1 hX6 hS6 hZ6 hB6 ho5 hb5 z0 z1 z2 z3 z4 g0 g1 g2 g3 g4
      go_wp2_with fail
      refine bodyPost_ret (results_cell_row_tmp rfl _ _ (w.heap.size + 1) _ _ _ _ rfl (HZ6.out.five _ _ _ _ _) Tryd.underlying60 rfl (by kernel_rfl)) rfl ?_
      exact read_done HGT.out HSP.out HS6.out HZ6.out HB6.out
  · rw [decide_eq_false hc]
    have hno := at_ino_no HI.out.f hA hc
    have hg : readP fs.p n = none := by
      unfold readP
      rw [show fs.p.F = fs.F.map Fi.p from rfl, get_none hno]; rfl
    have HG := keep hg
    obtain ⟨z0, z1, z2, z3, z4⟩ := hZ1.cell5
    obtain ⟨g0, g1, g2, g3, g4⟩ := hZ1.froz5
    clear hc hA hb1 hno hg hB1 hZ1
    go_wp2_with fail
    refine bodyPost_ret (results_cell_row_tmp rfl _ _ (w.heap.size + 1) _ _ _ _ rfl (HZ1.out.five _ _ _ _ _) Tryd.underlying60 rfl (by kernel_rfl)) rfl ?_
    refine ⟨.slice none 0 0, ?_, ?_, below_five HB1.out (by omega) _ _ _ _ _⟩
    · rw [HG.out]; rfl
    · rw [HG.out]; exact Sl.nil _ _ _ _ _
end Go.Proofs.YtgegmefnbkcdkaaDoor
