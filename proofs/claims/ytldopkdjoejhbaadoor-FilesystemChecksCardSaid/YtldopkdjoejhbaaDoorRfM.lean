/- The reference's New and Hold. The reference's Run. -/
import Derived.Test.YtldopkdjoejhbaaDoorRfH
import Derived.Test.YtldopkdjoejhbaaDoorFsHold
import Derived.Test.YtldopkdjoejhbaaDoorRfI
namespace Go.Proofs.YtldopkdjoejhbaaDoor
open Go.RowKit

theorem refNew_any (w : World) : Calls Tryd.prog 35 #[] w fun x w' => x = .returned (.agg #[.slice none 0 0, .slice none 0 0, .slice none 0 0]) ∧ Below w.heap.size w w' := by
  have hb : Below w.heap.size w (w.alloc (.cells #[.slice none 0 0, .slice none 0 0, .slice none 0 0] 31)) := (Below.refl _ w).alloc (Nat.le_refl _) _
  have HB := keep hb
  clear hb
  go_enter Tryd.func35, Tryd.ntmps35
  go_wp2_with fail
  refine bodyPost_ret (results_cell_row rfl _ _ w.heap.size _ _ _ _ rfl (Blk.new _ _ _) Tryd.underlying31 rfl (by kernel_rfl)) rfl ?_
  exact ⟨rfl, HB.out⟩
/-- A directory in a box of its own. -/
def Box (w : World) (B g : Nat) (fs : FS) : Prop := ∃ vN vF vO, Blk w g 31 #[vN, vF, vO] ∧ FsO w B vN vF vO fs
theorem Box.up {w w' : World} {B g : Nat} {fs : FS} (h : Box w B g fs) (hb : Below w.heap.size w w') : Box w' B g fs := by
  obtain ⟨vN, vF, vO, h1, h2⟩ := h
  exact ⟨vN, vF, vO, h1.below hb h1.lt, h2.up hb⟩
theorem FsO.fbox {w w' : World} {B g : Nat} {vN vF vO : Value} {fs : FS} {cs : Array Value} (h : FsO w B vN vF vO fs) (hb : Blk w g 31 cs) (hg : w.grownBy w' (some g)) : FsO w' B vN vF vO fs :=
  ⟨h.n.kept hg (.inr (own_off h.n hb (by decide))), h.f.kept hg (.inr (own_off h.f hb (by decide))), h.o.kept hg (.inr (own_off h.o hb (by decide))), fun t ht => (h.d t ht).grown hg (noU8 hb (by decide))⟩
set_option maxHeartbeats 8000000 in
set_option maxRecDepth 100000 in
theorem refHold_any (vN vF vO v : Value) (fs : FS) (is : List Int) (w : World) (h : FsT w vN vF vO fs) (hi : Inv fs) (ho : fs.O.length ≤ 800) (hs : Sl w (lt w.heap.size) 1 v is.length (ints is)) (hm : is.length ≤ 1000000) :
    Calls Tryd.prog 36 #[.agg #[vN, vF, vO], v] w (HoldOut fs is w) := by
  obtain ⟨A1, c1, rfl, _, _⟩ := h.n.form
  obtain ⟨A2, c2, rfl, _, _⟩ := h.f.form
  obtain ⟨A3, c3, rfl, _, _⟩ := h.o.form
  obtain ⟨AL, cL, rfl, _, _⟩ := hs.form
  have hcnt := hi.count
  have hbn := hi.b
  obtain ⟨W, hW⟩ : ∃ W, W = ((w.alloc (.cells #[.slice A1 fs.N.length c1, .slice A2 fs.F.length c2, .slice A3 fs.O.length c3] 31)).alloc (.cells #[.slice none 0 0, .slice none 0 0, .slice none 0 0] 31)) := ⟨_, rfl⟩
  have hb : Below w.heap.size w W := hW ▸ ((Below.refl _ w).alloc (Nat.le_refl _) _).alloc (by simp) _
  have hF : Blk W w.heap.size 31 #[.slice A1 fs.N.length c1, .slice A2 fs.F.length c2, .slice A3 fs.O.length c3] := hW ▸ ((Blk.new w _ _).alloc _)
  have hZ : Blk W (w.heap.size + 1) 31 #[.slice none 0 0, .slice none 0 0, .slice none 0 0] := hW ▸ Blk.new_at (by simp)
  have hT := h.up hb
  have HQ := keep (refCopy_any _ _ _ fs W hT (by omega) (by omega) (by omega))
  have hs0 := hs
  have HB := keep hb
  have HF := keep hF
  have HZ := keep hZ
  have HI := keep hi
  have HWS : Hid (W.heap.size = w.heap.size + 1 + 1) := keep (by rw [hW]; simp)
  have HCN : Hid (fs.F.length ≤ 840) := keep (by omega)
  clear h hs hb hZ hi ho hT hcnt hbn
  go_enter Tryd.func36, Tryd.ntmps36
  go_wp2_with fail
  rw [← hW]
  clear hW
  obtain ⟨f0, f1, f2⟩ := hF.cell3
  clear hF
  go_wp2_with fail
  refine HQ.out.mono ?_
  rintro e w1 ⟨vN1, vF1, vO1, rfl, hO1, hb1⟩
  obtain ⟨B1, d1, rfl, _⟩ := own_sl hO1.n
  obtain ⟨B2, d2, rfl, _⟩ := own_sl hO1.f
  obtain ⟨B3, d3, rfl, _⟩ := own_sl hO1.o
  have hF1 := HF.out.below hb1 HF.out.lt
  have hZ1 := HZ.out.below hb1 HZ.out.lt
  have hgr := grown_three w1 w.heap.size (.slice B1 fs.N.length d1) (.slice B2 fs.F.length d2) (.slice B3 fs.O.length d3)
  have hF2 := hF1.three (.slice B1 fs.N.length d1) (.slice B2 fs.F.length d2) (.slice B3 fs.O.length d3)
  have hO2 := hO1.fbox hF1 hgr
  have hZ2 := hZ1.grown hgr (by simp)
  obtain ⟨q0, q1, q2⟩ := hF1.cell3
  obtain ⟨p0, p1, p2⟩ := hF1.froz3
  have HS0 := keep hs0
  have HF2 := keep hF2
  have HO2 := keep hO2
  have HZ2 := keep hZ2
  have hB2 : Below w.heap.size w (((w1.setCell ⟨w.heap.size, 0, none⟩ (.slice B1 fs.N.length d1)).setCell ⟨w.heap.size, 1, none⟩ (.slice B2 fs.F.length d2)).setCell ⟨w.heap.size, 2, none⟩ (.slice B3 fs.O.length d3)) := below_three (bchain HB.out hb1) (Nat.le_refl _) _ _ _
  have HB2 := keep hB2
  have hz1 : W.heap.size ≤ w1.heap.size := hb1.size
  have hz2 : w1.heap.size ≤ (((w1.setCell ⟨w.heap.size, 0, none⟩ (.slice B1 fs.N.length d1)).setCell ⟨w.heap.size, 1, none⟩ (.slice B2 fs.F.length d2)).setCell ⟨w.heap.size, 2, none⟩ (.slice B3 fs.O.length d3)).heap.size := hgr.size
  clear hF1 hZ1 hgr hO1 hB2 hb1 f0 f1 f2 hO2 hZ2 hF2
  go_upto_region 2 with fail
  generalize (((w1.setCell ⟨w.heap.size, 0, none⟩ (.slice B1 fs.N.length d1)).setCell ⟨w.heap.size, 1, none⟩ (.slice B2 fs.F.length d2)).setCell ⟨w.heap.size, 2, none⟩ (.slice B3 fs.O.length d3)) = w2 at *
  clear q0 q1 q2 p0 p1 p2
  have hF3 := HF2.out.set_ 2 (.slice none 0 0)
  have hg3 := grownBy_set (World.grownBy.refl w2 (some w.heap.size)) 2 (.slice none 0 0)
  have hO3 := HO2.out.fbox HF2.out hg3
  have hO3' : FsO (w2.setCell ⟨w.heap.size, 2, none⟩ (.slice none 0 0)) W.heap.size (.slice B1 fs.N.length d1) (.slice B2 fs.F.length d2) (.slice none 0 0) ⟨fs.N, fs.F, []⟩ := ⟨hO3.n, hO3.f, World.ownsRow_nil _ _ _ _, hO3.d⟩
  have HF3 : Hid (Blk (w2.setCell ⟨w.heap.size, 2, none⟩ (.slice none 0 0)) w.heap.size 31 #[.slice B1 fs.N.length d1, .slice B2 fs.F.length d2, .slice none 0 0]) := keep hF3
  have HO3 := keep hO3'
  have HZ3 := keep (HZ2.out.grown hg3 (by simp))
  have HB3 := keep (HB2.out.setCell (p := ⟨w.heap.size, 2, none⟩) (Nat.le_refl _) (.slice none 0 0))
  have hz3 : W.heap.size ≤ (w2.setCell ⟨w.heap.size, 2, none⟩ (.slice none 0 0)).heap.size := Nat.le_trans hz1 (Nat.le_trans hz2 hg3.size)
  have p2 := HF2.out.frozen 2
  obtain ⟨_, _, q2⟩ := HF2.out.cell3
  clear hF3 hg3 hO3 hO3'
  go_wp2_with fail
  clear q2 p2
  generalize (w2.setCell ⟨w.heap.size, 2, none⟩ (.slice none 0 0)) = w3 at *
  go_loopw [5] (fun i wr => ∃ (k : Nat) (vN vF vO : Value), i = .int .i64 k ∧ k ≤ fs.F.length ∧ Hid (Blk wr w.heap.size 31 #[vN, vF, vO]) ∧ Hid (FsO wr W.heap.size vN vF vO ⟨fs.N, fs.F, hk_ fs.F is k⟩) ∧ Hid (Blk wr (w.heap.size + 1) 31 #[.slice none 0 0, .slice none 0 0, .slice none 0 0]) ∧ Hid (Below w.heap.size w wr) ∧ Hid (W.heap.size ≤ wr.heap.size)) (fun i _ => fs.F.length - (intOf i).toNat)
  case atStart => exact ⟨0, _, _, _, rfl, Nat.zero_le _, HF3, HO3, HZ3, HB3, keep hz3⟩
  case round =>
    obtain ⟨k, vNk, vFk, vOk, rfl, hk, HFk, HOk, HZk, HBk, HWk⟩ := hrel
    obtain ⟨wo, rfl⟩ : ∃ wo : World, wo = wr := ⟨_, rfl⟩
    obtain ⟨C1, e1, rfl, _⟩ := own_sl HOk.out.n
    obtain ⟨C2, e2, rfl, _⟩ := own_sl HOk.out.f
    obtain ⟨C3, e3, rfl, _⟩ := own_sl HOk.out.o
    obtain ⟨f0, f1, f2⟩ := HFk.out.cell3
    have i9 : (fs.F.length : Int) ≤ 840 := by have := HCN.out; omega
    by_cases hlt : k < fs.F.length
    · have i1 : (k : Int) < (fs.F.length : Int) := by omega
      obtain ⟨y, hy⟩ : ∃ y, fs.F[k].ino = y := ⟨_, rfl⟩
      have HY := keep hy
      clear hy
      go_wp2_with fail
      go_loopw [6] (fun i wr => ∃ (j : Nat), i = .int .i64 j ∧ j ≤ is.length ∧ Hid (NoO is y j) ∧ Hid (Blk wr w.heap.size 31 #[.slice C1 fs.N.length e1, .slice C2 fs.F.length e2, .slice C3 (hk_ fs.F is k).length e3]) ∧ Hid (FsO wr W.heap.size (.slice C1 fs.N.length e1) (.slice C2 fs.F.length e2) (.slice C3 (hk_ fs.F is k).length e3) ⟨fs.N, fs.F, hk_ fs.F is k⟩) ∧ Hid (Blk wr (w.heap.size + 1) 31 #[.slice none 0 0, .slice none 0 0, .slice none 0 0]) ∧ Hid (Below w.heap.size w wr) ∧ Hid (W.heap.size ≤ wr.heap.size)) (fun i _ => is.length - (intOf i).toNat)
      case atStart => exact ⟨0, rfl, Nat.zero_le _, keep (fun j hj => absurd hj (Nat.not_lt_zero _)), HFk, HOk, HZk, HBk, HWk⟩
      case round =>
        obtain ⟨j, rfl, hj, HNj, HFj, HOj, HZj, HBj, HWj⟩ := hrel
        clear f0 f1 f2 HFk HOk HZk HBk HWk
        obtain ⟨wq, rfl⟩ : ∃ wq : World, wq = wr := ⟨_, rfl⟩
        obtain ⟨f0, f1, f2⟩ := HFj.out.cell3
        by_cases hjl : j < is.length
        · have hSj := HS0.out.below HBj.out (Nat.le_refl _)
          obtain ⟨b, o, u, rfl, hbl, hu, n0⟩ := hSj.at_ hjl
          obtain ⟨z, hz⟩ : ∃ z, is[j] = z := ⟨_, rfl⟩
          obtain rfl : u = .int .i64 z := by
            rw [ints, List.getElem?_map, List.getElem?_eq_getElem hjl, hz] at hu
            exact (Option.some.inj hu).symm
          obtain ⟨b2, o2, rfl, _, m0, m1, m2, m3, m4⟩ := fi_cells (Sl.of_own HOj.out.f) hlt
          rw [HY.out] at m0
          have j0 : (0 : Int) ≤ (j : Int) := by omega
          have j1 : (j : Int) < (is.length : Int) := by omega
          have j9 : (is.length : Int) ≤ 1000000 := by omega
          have hbl' : b < w.heap.size := hbl
          have HZZ := keep hz
          have HN0 := keep n0
          clear hz hu hSj m1 m2 m3 m4
          go_upto_region 9 with fail
          go_cut [33] (fun q wd => q = .bool (z == y) ∧ Hid (Below wq.heap.size wq wd))
          case first =>
            go_quiet (fail)
            go_wp2_with fail
            go_meet
            case rel => exact ⟨rfl, keep (below_drewN (Below.refl _ _) _)⟩
          case rest =>
            obtain ⟨rfl, hcb⟩ := hcut
            obtain ⟨wv, rfl⟩ : ∃ wv : World, wv = wc := ⟨_, rfl⟩
            have hFv := HFj.out.below hcb.out HFj.out.lt
            have hOv := HOj.out.up hcb.out
            have hZv := HZj.out.below hcb.out HZj.out.lt
            have hBv := bchain HBj.out hcb.out
            have hWv : W.heap.size ≤ wv.heap.size := Nat.le_trans HWj.out hcb.out.size
            clear f0 f1 f2 m0 n0
            by_cases he : z = y
            · have eb1 : (z == y) = true := by simpa using he
              have hmem : is.contains y = true := by simpa using (he ▸ HZZ.out ▸ List.getElem_mem hjl : y ∈ is)
              have HYES := keep (hk_yes (is := is) hlt (by rw [HY.out]; exact hmem))
              have hlen := hk_len fs.F is k hk
              have HEZ := keep he
              clear hmem he
              generalize hk_ fs.F is k = O at *
              obtain ⟨h0, h1, h2⟩ := hFv.cell3
              have nv := (hcb.out.cell (p := ⟨b, o + j, none⟩) (World.block_lt_of_cell? wq _ HN0.out)).trans HN0.out
              have hal : Below wv.heap.size wv (wv.alloc (.cells #[.int .i64 z] 3)).drew := ((Below.refl _ wv).alloc (Nat.le_refl _) _).drew
              have HO6 := keep (hOv.up hal)
              have HK6 := keep (hFv.below hal hFv.lt)
              have HZ6 := keep (hZv.below hal hZv.lt)
              have HB6 := keep (bchain hBv hal)
              have hz6 := hal.size
              have hg5 : w.heap.size < wv.heap.size := hFv.lt
              have hne : w.heap.size ≠ wv.heap.size := by omega
              have hbv : b < wv.heap.size := by omega
              have hbne : b ≠ wv.heap.size := by omega
              have HLM : Hid (O.length + 1 ≤ maxLen) := keep (by unfold maxLen; omega)
              have HLB : Hid ((O.length + 1) * 8 ≤ 140737488355328) := keep (by omega)
              have HLW : Hid (W.heap.size ≤ (wv.alloc (.cells #[.int .i64 z] 3)).drew.heap.size) := keep (Nat.le_trans hWv hz6)
              have HWV := keep hWv
              clear hFv hOv hZv hBv hal hWv HFj HOj HZj HBj HWj hcb HN0
              go_wp2_with fail
              go_region_law (first
                | (refine step_appendS elIn rfl _ _ rfl W.heap.size (.slice C3 O.length e3) O.length (ints O) rfl HO6.out.o _ (.slice (some ⟨wv.heap.size, 0, none⟩) 1 1) 1 [.int .i64 z] rfl (one_litI wv z _) (by intro u hu; simp at hu; rw [hu]; rfl) HLM.out HLB.out HLW.out ?_; intro v7 w7 ho7 hb7 hg7
                   obtain ⟨A7, C7, rfl, _⟩ := own_sl ho7
                   have hK7 := HK6.out.grown hg7 (fun e => own_off HO6.out.o HK6.out (by decide) e.symm)
                   obtain ⟨_, _, u2⟩ := hK7.cell3
                   have fz := hK7.frozen 2)
                | fail)
              all_goals
                have ho8 : w7.ownsRow W.heap.size 3 1 (.slice A7 (O.length + 1) C7) (O ++ [z]).length (ints (O ++ [z])) := by
                  rw [List.length_append, show ints (O ++ [z]) = ints O ++ [.int .i64 z] by simp [ints]]
                  exact ho7
                have hO7 := HO6.out.putO hg7 ho8
                have hg8 := grownBy_set (World.grownBy.refl w7 (some w.heap.size)) 2 (.slice A7 (O.length + 1) C7)
                have HO8 := keep (hO7.fbox hK7 hg8)
                have HF8 : Hid (Blk (w7.setCell ⟨w.heap.size, 2, none⟩ (.slice A7 (O.length + 1) C7)) w.heap.size 31 #[.slice C1 fs.N.length e1, .slice (some ⟨b2, o2, none⟩) fs.F.length e2, .slice A7 (O.length + 1) C7]) := keep (hK7.set_ 2 _)
                have HZ8 := keep ((HZ6.out.grown hg7 (fun e => own_off HO6.out.o HZ6.out (by decide) e.symm)).grown hg8 (by simp))
                have HB8 := keep ((HB6.out.trans (hb7.mono (Nat.le_trans HB.out.size (by have := HWS.out; omega)))).setCell (p := ⟨w.heap.size, 2, none⟩) (Nat.le_refl _) (.slice A7 (O.length + 1) C7))
                have HW8 : Hid (W.heap.size ≤ (w7.setCell ⟨w.heap.size, 2, none⟩ (.slice A7 (O.length + 1) C7)).heap.size) := keep (Nat.le_trans (Nat.le_trans HLW.out hg7.size) hg8.size)
                clear ho7 ho8 hO7 hK7 hb7 hg7 hg8
                go_wp2_with fail
                go_roundw
                case rel => exact ⟨k + 1, _, _, _, by go_num, by omega, HF8, (by rw [HYES.out, HY.out, ← HEZ.out]; exact HO8), HZ8, HB8, HW8⟩
                case measure => simp [intOf]; omega
            · have eb1 : (z == y) = false := by simpa using he
              have HN1 := keep (HNj.out.step (fun _ => HZZ.out ▸ he))
              have HFv := keep hFv
              have HOv := keep hOv
              have HZv := keep hZv
              have HBv := keep hBv
              have HWv := keep hWv
              clear he hFv hOv hZv hBv hWv
              go_wp2_with fail
              go_roundw
              case rel => exact ⟨j + 1, by go_num, by omega, HN1, HFv, HOv, HZv, HBv, HWv⟩
              case measure => simp [intOf]; omega
        · obtain rfl : j = is.length := by omega
          have hno : is.contains y = false := by
            have := HNj.out.all
            simpa using this
          have HNO := keep (hk_no (is := is) hlt (by rw [HY.out]; exact hno))
          clear hno
          go_wp2_with fail
          go_roundw
          case rel => exact ⟨k + 1, _, _, _, by go_num, by omega, HFj, (by rw [HNO.out]; exact HOj), HZj, HBj, HWj⟩
          case measure => simp [intOf]; omega
    · obtain rfl : k = fs.F.length := by omega
      have hpi := PInv.held HI.out is
      have hlen := hk_len fs.F is fs.F.length (Nat.le_refl _)
      have HPU := keep (refSweep_any _ _ _ _ wo HOk.out.t (by show fs.F.length ≤ 1000000; have := HCN.out; omega) (by have := HI.out.b; show fs.N.length ≤ 1000000; omega) (by have := HCN.out; show (hk_ fs.F is fs.F.length).length ≤ 1000000; omega))
      have HPI := keep hpi
      have HLEN := keep hlen
      clear hpi hlen
      go_wp2_with fail
      refine HPU.out.mono ?_
      rintro e w6 ⟨vF6, rfl, hO6, hb6⟩
      obtain ⟨_, _, rfl, _⟩ := own_sl hO6
      have hZ6 := HZk.out.below hb6 HZk.out.lt
      have hB6 : Below w.heap.size w w6 := bchain HBk.out hb6
      have hO := HOk.out.up hb6
      rw [← stays_goes] at hO6
      have hOo : FsO w6 w.heap.size (.slice C1 fs.N.length e1) _ (.slice C3 (hk_ fs.F is fs.F.length).length e3) (purged ⟨fs.N, fs.F, hk_ fs.F is fs.F.length⟩) := ⟨own_mono hO.n HB.out.size, own_mono hO6 HBk.out.size, own_mono hO.o HB.out.size, fun t ht => hO.d t (List.mem_filter.1 ht).1⟩
      obtain ⟨z0, z1, z2⟩ := hZ6.cell3
      obtain ⟨g0, g1, g2⟩ := hZ6.froz3
      have HZ6 := keep hZ6
      have HB6 := keep hB6
      have HO6 := keep hOo
      clear hZ6 hB6 hO6 hb6 hO hOo
      rw [← stays_goes]
      go_wp2_with fail
      refine bodyPost_ret (results_cell_row rfl _ _ (w.heap.size + 1) _ _ _ _ rfl (HZ6.out.three _ _ _) Tryd.underlying31 rfl (by kernel_rfl)) rfl ?_
      refine ⟨_, _, _, _, rfl, FsT.grown HO6.out.t HZ6.out (grown_three _ _ _ _ _) (by decide) (by decide) (by decide) (by decide), ?_, HPI.out.purged, HLEN.out, below_three HB6.out (by omega) _ _ _⟩
      rw [purged_p]
      unfold holdP FS.p
      rw [← hk_all]
end Go.Proofs.YtldopkdjoejhbaaDoor
namespace Go.Proofs.YtldopkdjoejhbaaDoor
open Go.RowKit

set_option maxHeartbeats 8000000 in
set_option maxRecDepth 100000 in
theorem refRun_any (vN vF vO v : Value) (fs : FS) (L : List Ch) (w : World) (h : FsT w vN vF vO fs) (hi : Inv fs) (ho : fs.O.length ≤ 800) (hL : ChsR w v L) (hl : L.length ≤ 1000000) :
    Calls Tryd.prog 34 #[.agg #[vN, vF, vO], v] w (RunOut fs L w) := by
  obtain ⟨A1, c1, rfl, _, _⟩ := h.n.form
  obtain ⟨A2, c2, rfl, _, _⟩ := h.f.form
  obtain ⟨A3, c3, rfl, _, _⟩ := h.o.form
  obtain ⟨AL, cL, rfl, _, _⟩ := hL.s.form
  obtain ⟨W, hW⟩ : ∃ W, W = ((w.alloc (.cells #[.slice A1 fs.N.length c1, .slice A2 fs.F.length c2, .slice A3 fs.O.length c3] 31)).alloc (.cells #[.slice none 0 0, .slice none 0 0, .slice none 0 0] 31)) := ⟨_, rfl⟩
  have hb : Below w.heap.size w W := hW ▸ ((Below.refl _ w).alloc (Nat.le_refl _) _).alloc (by simp) _
  have hF : Blk W w.heap.size 31 #[.slice A1 fs.N.length c1, .slice A2 fs.F.length c2, .slice A3 fs.O.length c3] := hW ▸ ((Blk.new w _ _).alloc _)
  have hZ : Blk W (w.heap.size + 1) 31 #[.slice none 0 0, .slice none 0 0, .slice none 0 0] := hW ▸ Blk.new_at (by simp)
  have HH := keep (h.up hb)
  have HL := keep hL
  have HB := keep hb
  have HF := keep hF
  have HZ := keep hZ
  have HI := keep hi
  have HO := keep ho
  have hWs : W.heap.size = w.heap.size + 1 + 1 := by rw [hW]; simp
  have HWS := keep hWs
  clear h hL hb hF hZ hi ho hWs
  go_enter Tryd.func34, Tryd.ntmps34
  go_wp2_with fail
  rw [← hW]
  clear hW
  go_loopw [6, 7] (fun v6 i wr => ∃ (k : Nat) (fk : FS) (vN vF vO : Value), i = .int .i64 k ∧ k ≤ L.length ∧ Hid (Blk wr w.heap.size 31 #[vN, vF, vO]) ∧ Hid (FsT wr vN vF vO fk) ∧ Hid (wr.ownsRow W.heap.size 39 1 v6 k (ints (runP fs.p ((L.take k).map Ch.p)).2)) ∧ Hid (fk.p = (runP fs.p ((L.take k).map Ch.p)).1) ∧ Hid (Inv fk) ∧ Hid (fk.O = fs.O) ∧ Hid (Below w.heap.size w wr) ∧ Hid (W.heap.size ≤ wr.heap.size) ∧ Hid (Blk wr (w.heap.size + 1) 31 #[.slice none 0 0, .slice none 0 0, .slice none 0 0])) (fun _ i _ => L.length - (intOf i).toNat)
  case atStart => exact ⟨0, fs, _, _, _, rfl, Nat.zero_le _, HF, HH, keep (World.ownsRow_nil _ _ _ _), keep rfl, HI, keep rfl, HB, keep (Nat.le_refl _), HZ⟩
  case round =>
    obtain ⟨k, fk, vN, vF, vO, rfl, hk, HFk, HTk, HOk, HPk, HIk, HFO, HBk, HZS, HZk⟩ := hrel
    obtain ⟨wo, rfl⟩ : ∃ wo : World, wo = wr := ⟨_, rfl⟩
    have hzk := HZS.out
    by_cases hlt : k < L.length
    · obtain ⟨B1, d1, rfl, _, _⟩ := HTk.out.n.form
      obtain ⟨B2, d2, rfl, _, _⟩ := HTk.out.f.form
      obtain ⟨B3, d3, rfl, _, _⟩ := HTk.out.o.form
      have hLk := HL.out.up HBk.out
      obtain ⟨b, o, rfl, _, x0, x1, x2, x3, x4⟩ := ch_cells hLk.s hlt
      have hck := hLk.c _ (List.getElem_mem hlt)
      obtain ⟨c, hcc⟩ : ∃ c, L[k] = c := ⟨_, rfl⟩
      have hrs : runP fs.p ((L.take (k + 1)).map Ch.p) = ((doP fk.p c.p).2, (runP fs.p ((L.take k).map Ch.p)).2 ++ [(doP fk.p c.p).1]) := by
        rw [take_succ_get L k hlt, List.map_append, List.map_singleton, runP_snoc, HPk.out, hcc]
      have HRS := keep hrs
      rw [hcc] at x0 x1 x2 x3 x4 hck
      clear hcc hrs
      obtain ⟨A, cc, hdv, _, _⟩ := hck.r.form
      obtain ⟨kind, name, dst, dv, data, n⟩ := c
      simp only at hdv x0 x1 x2 x3 x4
      subst hdv
      obtain ⟨f0, f1, f2⟩ := HFk.out.cell3
      have hal : Below wo.heap.size wo wo.drew := (Below.refl _ wo).drew
      have HDO := keep (refDo_any _ _ _ fk ⟨kind, name, dst, .slice A data.length cc, data, n⟩ wo.drew (HTk.out.up hal) HIk.out (by rw [HFO.out]; exact HO.out) (hck.up hal))
      have HFA := keep (HFk.out.below hal HFk.out.lt)
      have HZA := keep (HZk.out.below hal HZk.out.lt)
      have HOA := keep (own_bel HOk.out hal)
      have HBA := keep ((HBk.out.trans (hal.mono HBk.out.size)))
      have hzA := hal.size
      have hwlt : w.heap.size < wo.heap.size := HFk.out.lt
      have i1 : (k : Int) < (L.length : Int) := by omega
      have i2 : (L.length : Int) ≤ 1000000 := by omega
      clear hLk hck hal
      go_upto_region 6 with fail
      go_cut [8] (fun s8 wd => ∃ (ee : Int) (fs5 : FS) (vN vF vO : Value), s8 = .int .i64 ee ∧ Hid (ee = (doP fk.p (Ch.p ⟨kind, name, dst, .slice A data.length cc, data, n⟩)).1) ∧ Hid (fs5.p = (doP fk.p (Ch.p ⟨kind, name, dst, .slice A data.length cc, data, n⟩)).2) ∧ Hid (Blk wd w.heap.size 31 #[vN, vF, vO]) ∧ Hid (FsT wd vN vF vO fs5) ∧ Hid (Inv fs5) ∧ Hid (fs5.O = fs.O) ∧ Hid (Below w.heap.size w wd) ∧ Hid (W.heap.size ≤ wd.heap.size) ∧ Hid (wd.ownsRow W.heap.size 39 1 u6 k (ints (runP fs.p ((L.take k).map Ch.p)).2)) ∧ Hid (Blk wd (w.heap.size + 1) 31 #[.slice none 0 0, .slice none 0 0, .slice none 0 0]))
      case first =>
        go_region_with ((go_at_call 24; refine HDO.out.mono ?_; rintro e w5 ⟨fs5, vN5, vF5, vO5, rfl, hT5, hP5, hI5, hO5, hb5⟩
                         have HO5 := keep (hO5.trans HFO.out)
                         have HP5 := keep hP5
                         clear hO5 hP5
                         obtain ⟨E1, g1, rfl, _, _⟩ := hT5.n.form
                         obtain ⟨E2, g2, rfl, _, _⟩ := hT5.f.form
                         obtain ⟨E3, g3, rfl, _, _⟩ := hT5.o.form
                         have hF5 := HFA.out.below hb5 HFA.out.lt
                         obtain ⟨q0, q1, q2⟩ := hF5.cell3
                         obtain ⟨p0, p1, p2⟩ := hF5.froz3))
        all_goals
          have hZ5 := HZA.out.below hb5 HZA.out.lt
          have hW5 := own_bel HOA.out hb5
          have hB5 := HBA.out.trans (hb5.mono HBA.out.size)
          have hz5 := hb5.size
          have hgr := grown_three w5 w.heap.size (.slice E1 fs5.N.length g1) (.slice E2 fs5.F.length g2) (.slice E3 fs5.O.length g3)
          have HF6 := keep (hF5.three (.slice E1 fs5.N.length g1) (.slice E2 fs5.F.length g2) (.slice E3 fs5.O.length g3))
          have HT6 := keep (hT5.grown hF5 hgr (by decide) (by decide) (by decide) (by decide))
          have HZ6 := keep (hZ5.grown hgr (by simp))
          have HW6 := keep (hW5.kept hgr (.inr (fun e => by have := (hW5.lt _ e).1; rw [HWS.out] at this; omega)))
          have HB6 := keep (below_three hB5 (Nat.le_refl _) (.slice E1 fs5.N.length g1) (.slice E2 fs5.F.length g2) (.slice E3 fs5.O.length g3))
          have hz6 := hgr.size
          simp only [World.size_drew] at hz5
          have HS6 : Hid (W.heap.size ≤ (((w5.setCell ⟨w.heap.size, 0, none⟩ (.slice E1 fs5.N.length g1)).setCell ⟨w.heap.size, 1, none⟩ (.slice E2 fs5.F.length g2)).setCell ⟨w.heap.size, 2, none⟩ (.slice E3 fs5.O.length g3)).heap.size) := keep (by omega)
          have HI5 := keep hI5
          clear hF5 hZ5 hW5 hB5 hb5 hT5 hI5 hgr x0 x1 x2 x3 x4
          go_wp2_with fail
          go_meet
          case rel => exact ⟨_, fs5, _, _, _, rfl, keep rfl, HP5, HF6, HT6, HI5, HO5, HB6, HS6, HW6, HZ6⟩
      case rest =>
        obtain ⟨ee, fs5, vN5, vF5, vO5, rfl, HEE, HP5, HF6, HT6, HI5, HO5, HB6, HS6, HW6, HZ6⟩ := hcut
        obtain ⟨wv, rfl⟩ : ∃ wv : World, wv = wc := ⟨_, rfl⟩
        clear HFk HTk HIk HFO HBk HZS HZk HDO HFA HZA HOA HBA HOk f0 f1 f2 x0 x1 x2 x3 x4 hzA hzk hwlt
        obtain ⟨xs, hxs⟩ : ∃ xs, ints (runP fs.p ((L.take k).map Ch.p)).2 = xs := ⟨_, rfl⟩
        rw [hxs] at HW6
        have HXS := keep hxs
        clear hxs
        go_wp2_with (refine wpList_push1 elErr rfl rfl _ _ _ rfl rfl rfl W.heap.size _ (.int .i64 ee) k _ rfl (fun _ => rfl) (fun _ => rfl) HW6.out rfl (by unfold maxLen; omega) (by omega) HS6.out ?_; intro g8 cap8 w8 hown8 hb8 hg8 hor8 _)
        have hT8 := HT6.out.grownOwn HW6.out hg8 (by decide) (by decide) (by decide) (by decide)
        have hF8 := HF6.out.grown hg8 (fun e => own_off HW6.out HF6.out (by decide) e.symm)
        have hZ8 := HZ6.out.grown hg8 (fun e => own_off HW6.out HZ6.out (by decide) e.symm)
        have hB8 := HB6.out.trans (hb8.mono (show w.heap.size ≤ W.heap.size by rw [HWS.out]; omega))
        have hz8 := hb8.size
        have hw8 : w8.ownsRow W.heap.size 39 1 (.slice (some ⟨g8, 0, none⟩) (k + 1) cap8) (k + 1) (ints (runP fs.p ((L.take (k + 1)).map Ch.p)).2) := by
          rw [HRS.out]
          have e1 : ∀ (l : List Int) (x : Int), ints (l ++ [x]) = ints l ++ [.int .i64 x] := fun l x => by simp [ints]
          rw [e1, HXS.out, ← HEE.out]
          exact hown8
        go_roundw
        case rel => exact ⟨k + 1, fs5, _, _, _, by go_num, by omega, keep hF8, keep hT8, keep hw8, keep (by rw [HRS.out]; exact HP5.out), HI5, HO5, keep hB8, keep (Nat.le_trans HS6.out hz8), keep hZ8⟩
        case measure => simp [intOf]; omega
    · obtain rfl : k = L.length := by omega
      obtain ⟨B1, d1, rfl, _, _⟩ := HTk.out.n.form
      obtain ⟨B2, d2, rfl, _, _⟩ := HTk.out.f.form
      obtain ⟨B3, d3, rfl, _, _⟩ := HTk.out.o.form
      obtain ⟨f0, f1, f2⟩ := HFk.out.cell3
      obtain ⟨z0, z1, z2⟩ := HZk.out.cell3
      obtain ⟨g0, g1, g2⟩ := HZk.out.froz3
      have hgr := grown_three wo (w.heap.size + 1) (.slice B1 fk.N.length d1) (.slice B2 fk.F.length d2) (.slice B3 fk.O.length d3)
      have HT6 := keep (HTk.out.grown HZk.out hgr (by decide) (by decide) (by decide) (by decide))
      have HW6 := keep (HOk.out.kept hgr (.inr (own_off HOk.out HZk.out (by decide))))
      have HB6 := keep (below_three HBk.out (show w.heap.size ≤ w.heap.size + 1 by omega) (.slice B1 fk.N.length d1) (.slice B2 fk.F.length d2) (.slice B3 fk.O.length d3))
      clear hgr
      go_wp2_with fail
      refine bodyPost_ret (results_cell_row_tmp rfl _ _ (w.heap.size + 1) _ _ _ _ rfl (HZk.out.three _ _ _) Tryd.underlying31 rfl (by kernel_rfl)) rfl ?_
      have hP := HPk.out
      have hw := own_ty HW6.out
      rw [List.take_length] at hP hw
      exact ⟨fk, _, _, _, _, rfl, HT6.out, hP, HIk.out, HFO.out, hw, HB6.out⟩
end Go.Proofs.YtldopkdjoejhbaaDoor
