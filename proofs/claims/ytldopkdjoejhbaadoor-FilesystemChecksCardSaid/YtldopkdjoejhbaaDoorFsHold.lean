/- Hold: what it gives. -/
import Derived.Test.YtldopkdjoejhbaaDoorFsRead
namespace Go.Proofs.YtldopkdjoejhbaaDoor
open Go.RowKit

def heldP (F : List PF) (is : List Int) : List Int := (F.map (·.ino)).filter fun i => is.contains i
def holdP (d : PD) (is : List Int) : PD := purgeP ⟨d.N, d.F, heldP d.F is⟩
/-- The list of held files was edited. -/
theorem FsO.putO {w w' : World} {B : Nat} {vN vF vO v' : Value} {N : List Nm} {F : List Fi} {O O' : List Int} (h : FsO w B vN vF vO ⟨N, F, O⟩) (hg : w.grownBy w' vO.ownBlock) (ho : w'.ownsRow B 3 1 v' O'.length (ints O')) : FsO w' B vN vF v' ⟨N, F, O'⟩ :=
  ⟨h.n.kept hg (own_apart h.n h.o (by decide)), h.f.kept hg (own_apart h.f h.o (by decide)), ho, fun t ht => (h.d t ht).grown hg (own_noU8 h.o (by decide))⟩
theorem one_litI (w : World) (x : Int) (t : TypeId) : Sl (w.alloc (.cells #[.int .i64 x] t)).drew (fun k => k = w.heap.size) 1 (.slice (some ⟨w.heap.size, 0, none⟩) 1 1) 1 [.int .i64 x] := by
  refine ⟨rfl, _, 1, rfl, Nat.le_refl _, fun _ => ⟨w.heap.size, 0, rfl, rfl, fun j u hu => ?_⟩⟩
  rw [Nat.zero_add]
  refine ((Blk.new w t #[.int .i64 x]).cell j).trans ?_
  simpa using hu
/-- What is held behind k rounds. -/
def hk_ (F : List Fi) (is : List Int) (k : Nat) : List Int := ((F.take k).map (·.ino)).filter fun i => is.contains i
theorem hk_yes {F : List Fi} {is : List Int} {k : Nat} (h : k < F.length) (hc : is.contains F[k].ino = true) : hk_ F is (k + 1) = hk_ F is k ++ [F[k].ino] := by
  unfold hk_
  rw [take_succ_get F k h, List.map_append, List.filter_append, List.map_singleton, List.filter_cons, if_pos hc, List.filter_nil]
theorem hk_no {F : List Fi} {is : List Int} {k : Nat} (h : k < F.length) (hc : is.contains F[k].ino = false) : hk_ F is (k + 1) = hk_ F is k := by
  unfold hk_
  rw [take_succ_get F k h, List.map_append, List.filter_append, List.map_singleton, List.filter_cons, if_neg (by rw [hc]; simp), List.filter_nil, List.append_nil]
theorem hk_len (F : List Fi) (is : List Int) (k : Nat) (h : k ≤ F.length) : (hk_ F is k).length ≤ k := by
  unfold hk_
  refine Nat.le_trans (List.length_filter_le _ _) ?_
  rw [List.length_map, List.length_take]; omega
theorem hk_all (F : List Fi) (is : List Int) : hk_ F is F.length = heldP (F.map Fi.p) is := by
  unfold hk_ heldP
  rw [List.take_length, List.map_map]
  rfl
theorem PInv.held {fs : FS} (h : Inv fs) (is : List Int) : PInv ⟨fs.N, fs.F, hk_ fs.F is fs.F.length⟩ := by
  refine ⟨h.n, h.f, h.a, h.v, h.p, h.d, h.l, h.w, h.c, ?_, h.b⟩
  show (hk_ fs.F is fs.F.length).Pairwise (· < ·)
  unfold hk_
  refine List.Pairwise.filter _ ?_
  rw [List.take_length, List.pairwise_map]
  exact h.f
def HoldOut (fs : FS) (is : List Int) (w : World) (x : Ending) (w' : World) : Prop := ∃ (fs' : FS) (vN vF vO : Value), x = .returned (.agg #[vN, vF, vO]) ∧ FsT w' vN vF vO fs' ∧ fs'.p = holdP fs.p is ∧ Inv fs' ∧ fs'.O.length ≤ fs.F.length ∧ Below w.heap.size w w'
set_option maxHeartbeats 8000000 in
set_option maxRecDepth 100000 in
theorem hold_any (vN vF vO v : Value) (fs : FS) (is : List Int) (w : World) (h : FsT w vN vF vO fs) (hi : Inv fs) (ho : fs.O.length ≤ 800) (hs : Sl w (lt w.heap.size) 1 v is.length (ints is)) (hm : is.length ≤ 1000000) :
    Calls Tryd.prog 20 #[.agg #[vN, vF, vO], v] w (HoldOut fs is w) := by
  obtain ⟨A1, c1, rfl, _, _⟩ := h.n.form
  obtain ⟨A2, c2, rfl, _, _⟩ := h.f.form
  obtain ⟨A3, c3, rfl, _, _⟩ := h.o.form
  obtain ⟨AL, cL, rfl, _, _⟩ := hs.form
  obtain ⟨W, hW⟩ : ∃ W, W = ((w.alloc (.cells #[.slice A1 fs.N.length c1, .slice A2 fs.F.length c2, .slice A3 fs.O.length c3] 31)).alloc (.cells #[.slice none 0 0, .slice none 0 0, .slice none 0 0] 31)) := ⟨_, rfl⟩
  have hb : Below w.heap.size w W := hW ▸ ((Below.refl _ w).alloc (Nat.le_refl _) _).alloc (by simp) _
  have hF : Blk W w.heap.size 31 #[.slice A1 fs.N.length c1, .slice A2 fs.F.length c2, .slice A3 fs.O.length c3] := hW ▸ ((Blk.new w _ _).alloc _)
  have hZ : Blk W (w.heap.size + 1) 31 #[.slice none 0 0, .slice none 0 0, .slice none 0 0] := hW ▸ Blk.new_at (by simp)
  have hD := hi.dinv ho
  have hT := h.up hb
  have HQ := keep (clone_any _ _ _ fs W hT.r hD.small)
  have HH := keep hT
  have HS := keep (hs.upW hb)
  have HB := keep hb
  have HF := keep hF
  have HZ := keep hZ
  have HI := keep hi
  have HDI := keep hD
  have HWS : Hid (W.heap.size = w.heap.size + 1 + 1) := keep (by rw [hW]; simp)
  clear h hs hb hF hZ hi ho hT hD
  go_enter Tryd.func20, Tryd.ntmps20
  go_wp2_with fail
  rw [← hW]
  clear hW
  obtain ⟨f0, f1, f2⟩ := HF.out.cell3
  go_wp2_with fail
  refine HQ.out.mono ?_
  rintro e w1 ⟨gd, rfl, hD1, hb1⟩
  obtain ⟨hBg, vN1, vF1, vO1, hBk1, hO1⟩ := hD1
  have hF1 := HF.out.below hb1 HF.out.lt
  have HF1 := keep hF1
  have HZ1 := keep (HZ.out.below hb1 HZ.out.lt)
  have HH1 := keep (HH.out.up hb1)
  have HS1 := keep (HS.out.upW hb1)
  have HB1 := keep (bchain HB.out hb1)
  have HWB := keep hb1
  obtain ⟨q0, q1, q2⟩ := hBk1.cell3
  have p2 := hBk1.frozen 2
  have hgr := grownBy_set (World.grownBy.refl w1 (some gd)) 2 (.slice none 0 0)
  have hO2 : FsO (w1.setCell ⟨gd, 2, none⟩ (.slice none 0 0)) W.heap.size vN1 vF1 (.slice none 0 0) ⟨fs.N, fs.F, []⟩ := by
    have h1 := hO1.set_ hBk1 2 (.slice none 0 0)
    exact ⟨h1.n, h1.f, World.ownsRow_nil _ _ _ _, h1.d⟩
  have hD2 : Dir (w1.setCell ⟨gd, 2, none⟩ (.slice none 0 0)) W.heap.size gd ⟨fs.N, fs.F, []⟩ := ⟨hBg, vN1, vF1, _, hBk1.set_ 2 _, hO2⟩
  have hBW : Below W.heap.size w1 (w1.setCell ⟨gd, 2, none⟩ (.slice none 0 0)) := (Below.refl _ w1).setCell (p := ⟨gd, 2, none⟩) hBg _
  have HD2 := keep hD2
  have HBW := keep hBW
  have hb1z := hb1.size
  obtain ⟨s0, s1, s2⟩ := hF1.cell3
  have hgW : w.heap.size ≠ gd := by have := HWS.out; omega
  clear hF1 hBk1 hO1 hO2 hD2 hBW hgr hb1 f0 f1 f2
  go_wp2_with fail
  go_loopw [17] (fun i wr => ∃ k : Nat, i = .int .i64 k ∧ k ≤ fs.F.length ∧ Hid (Dir wr W.heap.size gd ⟨fs.N, fs.F, hk_ fs.F is k⟩) ∧ Hid (Below W.heap.size w1 wr)) (fun i _ => fs.F.length - (intOf i).toNat)
  case atStart => exact ⟨0, rfl, Nat.zero_le _, HD2, HBW⟩
  case round =>
    obtain ⟨k, rfl, hk, HDk, HBk⟩ := hrel
    obtain ⟨wo, rfl⟩ : ∃ wo : World, wo = wr := ⟨_, rfl⟩
    clear s0 s1 s2 q0 q1 q2 p2 HD2 HBW
    have hbo : Below w.heap.size w wo := HB1.out.trans (HBk.out.mono (by rw [HWS.out]; omega))
    have hzo := HBk.out.size
    have hl900 := HDI.out.bf
    by_cases hlt : k < fs.F.length
    · have hWo := HWB.out.trans HBk.out
      have hHo := HH.out.up hWo
      obtain ⟨b, o, rfl, _, m0, m1, m2, m3, m4⟩ := fi_cells hHo.f hlt
      obtain ⟨FA, FC, hfd⟩ := (hHo.d _ (List.getElem_mem hlt)).form
      rw [hfd] at m1
      obtain ⟨y, hy⟩ : ∃ y, fs.F[k].ino = y := ⟨_, rfl⟩
      rw [hy] at m0
      have hal : Below wo.heap.size wo (wo.alloc (.cells #[.int .i64 y, .slice FA fs.F[k].data.length FC, .bool fs.F[k].cp, .bool fs.F[k].wh, .int .i64 fs.F[k].left] 45)) := (Below.refl _ wo).alloc (Nat.le_refl _) _
      have HCT := keep (containsI (.slice AL is.length cL) is y (wo.alloc (.cells #[.int .i64 y, .slice FA fs.F[k].data.length FC, .bool fs.F[k].cp, .bool fs.F[k].wh, .int .i64 fs.F[k].left] 45)) ((HS.out.upW hWo).upW hal) hm)
      have hX2 : Blk (wo.alloc (.cells #[.int .i64 y, .slice FA fs.F[k].data.length FC, .bool fs.F[k].cp, .bool fs.F[k].wh, .int .i64 fs.F[k].left] 45)) wo.heap.size 45 #[.int .i64 y, .slice FA fs.F[k].data.length FC, .bool fs.F[k].cp, .bool fs.F[k].wh, .int .i64 fs.F[k].left] := Blk.new _ _ _
      have HD2 := keep (HDk.out.up hal)
      have HB2 := keep (HBk.out.trans (hal.mono (Nat.le_trans HWB.out.size hzo)))
      have HX2 := keep hX2
      have i1 : (k : Int) < (fs.F.length : Int) := by omega
      have i2 : (fs.F.length : Int) ≤ 900 := by omega
      have HHY := keep hy
      clear hWo hHo hal hX2 hfd hy hbo
      go_wp2_with fail
      refine HCT.out.mono ?_
      rintro e w5 ⟨rfl, hw5⟩
      have hw5' := hw5.symm
      clear hw5
      have hX5 : Blk w5 wo.heap.size 45 #[.int .i64 y, .slice FA fs.F[k].data.length FC, .bool fs.F[k].cp, .bool fs.F[k].wh, .int .i64 fs.F[k].left] := hw5' ▸ HX2.out
      have hD5 : Dir w5 W.heap.size gd ⟨fs.N, fs.F, hk_ fs.F is k⟩ := hw5' ▸ HD2.out
      have hB5 : Below W.heap.size w1 w5 := hw5' ▸ HB2.out
      have HD5 := keep hD5
      have HB5 := keep hB5
      clear hw5' HX2 HD2 HB2 m0 m1 m2 m3 m4
      cases hct : is.contains y with
      | false =>
        have HNO := keep (hk_no (is := is) hlt (by rw [HHY.out]; exact hct))
        clear hct hX5 hD5 hB5
        go_wp2_with fail
        go_roundw
        case rel => exact ⟨k + 1, by go_num, by omega, keep (by rw [HNO.out]; exact HD5.out), HB5⟩
        case measure => simp [intOf]; omega
      | true =>
        have HYES := keep (hk_yes (is := is) hlt (by rw [HHY.out]; exact hct))
        have hlen := hk_len fs.F is k hk
        generalize hk_ fs.F is k = O at *
        obtain ⟨hBg5, vN5, vF5, vO5, hBk5, hO5⟩ := hD5
        obtain ⟨A5, C5, rfl, _⟩ := own_sl hO5.o
        obtain ⟨_, _, t2⟩ := hBk5.cell3
        obtain ⟨x0, _, _, _, _⟩ := hX5.cell5
        have hal : Below w5.heap.size w5 (w5.alloc (.cells #[.int .i64 y] 3)).drew := ((Below.refl _ w5).alloc (Nat.le_refl _) _).drew
        have HO6 := keep (hO5.up hal)
        have HK6 := keep (hBk5.below hal hBk5.lt)
        have HB6 := keep (hB5.trans (hal.mono (Nat.le_trans HWB.out.size hB5.size)))
        have hz6 := hal.size
        have hg5 : gd < w5.heap.size := hBk5.lt
        have hne : gd ≠ w5.heap.size := by omega
        have hx5 : wo.heap.size < w5.heap.size := hX5.lt
        have hwB : W.heap.size ≤ w5.heap.size := Nat.le_trans hb1z hB5.size
        clear hct hX5 hBk5 hO5 hal hB5
        go_wp2_with fail
        have HLM : Hid (O.length + 1 ≤ maxLen) := keep (by unfold maxLen; omega)
        have HLB : Hid ((O.length + 1) * 8 ≤ 140737488355328) := keep (by omega)
        have HLW : Hid (W.heap.size ≤ (w5.alloc (.cells #[.int .i64 y] 3)).drew.heap.size) := keep (Nat.le_trans hwB hz6)
        go_region_law (first
          | (refine step_appendS elIn rfl _ _ rfl W.heap.size (.slice A5 O.length C5) O.length (ints O) rfl HO6.out.o _ (.slice (some ⟨w5.heap.size, 0, none⟩) 1 1) 1 [.int .i64 y] rfl (one_litI w5 y _) (by intro u hu; simp at hu; rw [hu]; rfl) HLM.out HLB.out HLW.out ?_; intro v7 w7 ho7 hb7 hg7
             obtain ⟨A7, C7, rfl, _⟩ := own_sl ho7
             have hK7 := HK6.out.grown hg7 (fun e => own_off HO6.out.o HK6.out (by decide) e.symm)
             obtain ⟨_, _, u2⟩ := hK7.cell3
             have fz := hK7.frozen 2)
          | fail)
        all_goals
          have ho8 : w7.ownsRow W.heap.size 3 1 (.slice A7 (O.length + 1) C7) (O ++ [y]).length (ints (O ++ [y])) := by
            rw [List.length_append, show ints (O ++ [y]) = ints O ++ [.int .i64 y] by simp [ints]]
            exact ho7
          have hO7 := HO6.out.putO hg7 ho8
          have hD8 : Dir (w7.setCell ⟨gd, 2, none⟩ (.slice A7 (O.length + 1) C7)) W.heap.size gd ⟨fs.N, fs.F, O ++ [y]⟩ := ⟨hBg5, _, _, _, hK7.set_ 2 _, hO7.set_ hK7 2 _⟩
          have hB8 : Below W.heap.size w1 (w7.setCell ⟨gd, 2, none⟩ (.slice A7 (O.length + 1) C7)) := (HB6.out.trans hb7).setCell (p := ⟨gd, 2, none⟩) hBg5 _
          have HD8 := keep hD8
          have HB8 := keep hB8
          clear ho7 ho8 hO7 hD8 hB8 hK7 hb7 hg7
          go_wp2_with fail
          go_roundw
          case rel => exact ⟨k + 1, by go_num, by omega, keep (by rw [HYES.out, HHY.out]; exact HD8.out), HB8⟩
          case measure => simp [intOf]; omega
    · obtain rfl : k = fs.F.length := by omega
      have hpi := PInv.held HI.out is
      have hlen := hk_len fs.F is fs.F.length (Nat.le_refl _)
      have HPU := keep (purge_any gd W.heap.size _ wo (Nat.le_trans HWB.out.size hzo) HDk.out ⟨by have := HDI.out.bn; show fs.N.length ≤ 1000; omega, by show fs.F.length ≤ 1000; omega, by show (hk_ fs.F is fs.F.length).length ≤ 100000; omega⟩)
      have HPI := keep hpi
      have HLEN := keep hlen
      have HZo := keep (HZ1.out.below HBk.out HZ.out.lt)
      have HBo := keep hbo
      have hwB : W.heap.size ≤ wo.heap.size := Nat.le_trans HWB.out.size hzo
      clear hpi hlen hbo
      go_wp2_with fail
      refine HPU.out.mono ?_
      rintro e w6 ⟨rfl, hD6, hb6, _⟩
      have hZ6 := HZo.out.below hb6 HZ.out.lt
      have hB6 : Below w.heap.size w w6 := HBo.out.trans (hb6.mono (by rw [HWS.out]; omega))
      obtain ⟨_, vN6, vF6, vO6, hBk6, hO6⟩ := hD6
      obtain ⟨_, _, rfl, _⟩ := own_sl hO6.n
      obtain ⟨_, _, rfl, _⟩ := own_sl hO6.f
      obtain ⟨_, _, rfl, _⟩ := own_sl hO6.o
      obtain ⟨q0, q1, q2⟩ := hBk6.cell3
      obtain ⟨z0, z1, z2⟩ := hZ6.cell3
      obtain ⟨g0, g1, g2⟩ := hZ6.froz3
      have HZ6 := keep hZ6
      have HB6 := keep hB6
      have HO6 := keep hO6
      clear hZ6 hB6 hO6 hb6 hBk6
      go_wp2_with fail
      refine bodyPost_ret (results_cell_row rfl _ _ (w.heap.size + 1) _ _ _ _ rfl (HZ6.out.three _ _ _) Tryd.underlying31 rfl (by kernel_rfl)) rfl ?_
      refine ⟨_, _, _, _, rfl, FsT.grown HO6.out.t HZ6.out (grown_three _ _ _ _ _) (by decide) (by decide) (by decide) (by decide), ?_, HPI.out.purged, HLEN.out, below_three HB6.out (by omega) _ _ _⟩
      rw [purged_p]
      unfold holdP FS.p
      rw [← hk_all]
end Go.Proofs.YtldopkdjoejhbaaDoor
