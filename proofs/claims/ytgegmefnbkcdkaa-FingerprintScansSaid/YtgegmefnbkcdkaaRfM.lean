/- The reference's New and Hold. The reference's Run. -/
import Derived.Test.YtgegmefnbkcdkaaRfH
import Derived.Test.YtgegmefnbkcdkaaFsHold
import Derived.Test.YtgegmefnbkcdkaaRfI
namespace Go.Proofs.Ytgegmefnbkcdkaa
open Go.RowKit
theorem refNew_any (w : World) : Calls Try.prog 16 #[] w fun x w' => x = .returned (.agg #[.slice none 0 0, .slice none 0 0, .slice none 0 0]) ∧ Below w.heap.size w w' := by
  have hb : Below w.heap.size w (w.alloc (.cells #[.slice none 0 0, .slice none 0 0, .slice none 0 0] 40)) := (Below.refl _ w).alloc (Nat.le_refl _) _
  have HB := keep hb
  clear hb
  go_enter Try.func16, Try.ntmps16
  go_wp2_with fail
  refine bodyPost_ret (results_cell_row rfl _ _ w.heap.size _ _ _ _ rfl (Blk.new _ _ _) Try.underlying40 rfl (by kernel_rfl)) rfl ?_
  exact ⟨rfl, HB.out⟩
/-- A directory in a box of its own. -/
def Box (w : World) (B g : Nat) (fs : FS) : Prop := ∃ vN vF vO, Blk w g 40 #[vN, vF, vO] ∧ FsO w B vN vF vO fs
theorem Box.up {w w' : World} {B g : Nat} {fs : FS} (h : Box w B g fs) (hb : Below w.heap.size w w') : Box w' B g fs := by
  obtain ⟨vN, vF, vO, h1, h2⟩ := h
  exact ⟨vN, vF, vO, h1.below hb h1.lt, h2.up hb⟩
theorem FsO.fbox {w w' : World} {B g : Nat} {vN vF vO : Value} {fs : FS} {cs : Array Value} (h : FsO w B vN vF vO fs) (hb : Blk w g 40 cs) (hg : w.grownBy w' (some g)) : FsO w' B vN vF vO fs :=
  ⟨h.n.kept hg (.inr (own_off h.n hb (by decide))), h.f.kept hg (.inr (own_off h.f hb (by decide))), h.o.kept hg (.inr (own_off h.o hb (by decide))), fun t ht => (h.d t ht).grown hg (noU8 hb (by decide))⟩
set_option maxHeartbeats 8000000 in
set_option maxRecDepth 100000 in
theorem refHold_any (vN vF vO v : Value) (fs : FS) (is : List Int) (w : World) (h : FsT w vN vF vO fs) (hi : Inv fs) (ho : fs.O.length ≤ 800) (hs : Sl w (lt w.heap.size) 1 v is.length (ints is)) (hm : is.length ≤ 1000000) :
    Calls Try.prog 19 #[.agg #[vN, vF, vO], v] w (HoldOut fs is w) := by
  obtain ⟨A1, c1, rfl, _, _⟩ := h.n.form
  obtain ⟨A2, c2, rfl, _, _⟩ := h.f.form
  obtain ⟨A3, c3, rfl, _, _⟩ := h.o.form
  obtain ⟨AL, cL, rfl, _, _⟩ := hs.form
  have hcnt := hi.count
  have hbn := hi.b
  obtain ⟨W, hW⟩ : ∃ W, W = ((w.alloc (.cells #[.slice A1 fs.N.length c1, .slice A2 fs.F.length c2, .slice A3 fs.O.length c3] 40)).alloc (.cells #[.slice none 0 0, .slice none 0 0, .slice none 0 0] 40)) := ⟨_, rfl⟩
  have hb : Below w.heap.size w W := hW ▸ ((Below.refl _ w).alloc (Nat.le_refl _) _).alloc (by simp) _
  have hF : Blk W w.heap.size 40 #[.slice A1 fs.N.length c1, .slice A2 fs.F.length c2, .slice A3 fs.O.length c3] := hW ▸ ((Blk.new w _ _).alloc _)
  have hZ : Blk W (w.heap.size + 1) 40 #[.slice none 0 0, .slice none 0 0, .slice none 0 0] := hW ▸ Blk.new_at (by simp)
  have hT := h.up hb
  have HQ := keep (refCopy_any _ _ _ fs W hT (by omega) (by omega) (by omega))
  have hs0 := hs
  have HB := keep hb
  have HF := keep hF
  have HZ := keep hZ
  have HI := keep hi
  have HWS : Hid (W.heap.size = w.heap.size + 1 + 1) := keep (by rw [hW]; simp)
  have HCN : Hid (fs.F.length ≤ 840) := keep (by omega)
  clear h hs hb hZ hi ho hT hcnt hbn
  go_enter Try.func19, Try.ntmps19
  go_wp2_with fail
  rw [← hW]
  clear hW
  obtain ⟨f0, f1, f2⟩ := hF.cell3
  clear hF
  go_wp2_with fail
  refine HQ.out.mono ?_
  rintro e w1 ⟨vN1, vF1, vO1, rfl, hO1, hb1⟩
  obtain ⟨B1, d1, rfl, _⟩ := own_sl hO1.n
  obtain ⟨B2, d2, rfl, _⟩ := own_sl hO1.f
  obtain ⟨B3, d3, rfl, _⟩ := own_sl hO1.o
  have hF1 := HF.out.below hb1 HF.out.lt
  have hZ1 := HZ.out.below hb1 HZ.out.lt
  have hgr := grown_three w1 w.heap.size (.slice B1 fs.N.length d1) (.slice B2 fs.F.length d2) (.slice B3 fs.O.length d3)
  have hF2 := hF1.three (.slice B1 fs.N.length d1) (.slice B2 fs.F.length d2) (.slice B3 fs.O.length d3)
  have hO2 := hO1.fbox hF1 hgr
  have hZ2 := hZ1.grown hgr (by simp)
  obtain ⟨q0, q1, q2⟩ := hF1.cell3
  obtain ⟨p0, p1, p2⟩ := hF1.froz3
  have HS0 := keep hs0
  have HF2 := keep hF2
  have HO2 := keep hO2
  have HZ2 := keep hZ2
  have hB2 : Below w.heap.size w (((w1.setCell ⟨w.heap.size, 0, none⟩ (.slice B1 fs.N.length d1)).setCell ⟨w.heap.size, 1, none⟩ (.slice B2 fs.F.length d2)).setCell ⟨w.heap.size, 2, none⟩ (.slice B3 fs.O.length d3)) := below_three (bchain HB.out hb1) (Nat.le_refl _) _ _ _
  have HB2 := keep hB2
  have hz1 : W.heap.size ≤ w1.heap.size := hb1.size
  have hz2 : w1.heap.size ≤ (((w1.setCell ⟨w.heap.size, 0, none⟩ (.slice B1 fs.N.length d1)).setCell ⟨w.heap.size, 1, none⟩ (.slice B2 fs.F.length d2)).setCell ⟨w.heap.size, 2, none⟩ (.slice B3 fs.O.length d3)).heap.size := hgr.size
  clear hF1 hZ1 hgr hO1 hB2 hb1 f0 f1 f2 hO2 hZ2 hF2
  go_upto_region 2 with fail
  generalize (((w1.setCell ⟨w.heap.size, 0, none⟩ (.slice B1 fs.N.length d1)).setCell ⟨w.heap.size, 1, none⟩ (.slice B2 fs.F.length d2)).setCell ⟨w.heap.size, 2, none⟩ (.slice B3 fs.O.length d3)) = w2 at *
  clear q0 q1 q2 p0 p1 p2
  have hF3 := HF2.out.set_ 2 (.slice none 0 0)
  have hg3 := grownBy_set (World.grownBy.refl w2 (some w.heap.size)) 2 (.slice none 0 0)
  have hO3 := HO2.out.fbox HF2.out hg3
  have hO3' : FsO (w2.setCell ⟨w.heap.size, 2, none⟩ (.slice none 0 0)) W.heap.size (.slice B1 fs.N.length d1) (.slice B2 fs.F.length d2) (.slice none 0 0) ⟨fs.N, fs.F, []⟩ := ⟨hO3.n, hO3.f, World.ownsRow_nil _ _ _ _, hO3.d⟩
  have HF3 : Hid (Blk (w2.setCell ⟨w.heap.size, 2, none⟩ (.slice none 0 0)) w.heap.size 40 #[.slice B1 fs.N.length d1, .slice B2 fs.F.length d2, .slice none 0 0]) := keep hF3
  have HO3 := keep hO3'
  have HZ3 := keep (HZ2.out.grown hg3 (by simp))
  have HB3 := keep (HB2.out.setCell (p := ⟨w.heap.size, 2, none⟩) (Nat.le_refl _) (.slice none 0 0))
  have hz3 : W.heap.size ≤ (w2.setCell ⟨w.heap.size, 2, none⟩ (.slice none 0 0)).heap.size := Nat.le_trans hz1 (Nat.le_trans hz2 hg3.size)
  have p2 := HF2.out.frozen 2
  obtain ⟨_, _, q2⟩ := HF2.out.cell3
  clear hF3 hg3 hO3 hO3'
  go_wp2_with fail
  clear q2 p2
  generalize (w2.setCell ⟨w.heap.size, 2, none⟩ (.slice none 0 0)) = w3 at *
  go_loopw [5] (fun i wr => ∃ (k : Nat) (vN vF vO : Value), i = .int .i64 k ∧ k ≤ fs.F.length ∧ Hid (Blk wr w.heap.size 40 #[vN, vF, vO]) ∧ Hid (FsO wr W.heap.size vN vF vO ⟨fs.N, fs.F, hk_ fs.F is k⟩) ∧ Hid (Blk wr (w.heap.size + 1) 40 #[.slice none 0 0, .slice none 0 0, .slice none 0 0]) ∧ Hid (Below w.heap.size w wr) ∧ Hid (W.heap.size ≤ wr.heap.size)) (fun i _ => fs.F.length - (intOf i).toNat)
  case atStart => exact ⟨0, _, _, _, rfl, Nat.zero_le _, HF3, HO3, HZ3, HB3, keep hz3⟩
  case round =>
    obtain ⟨k, vNk, vFk, vOk, rfl, hk, HFk, HOk, HZk, HBk, HWk⟩ := hrel
    obtain ⟨wo, rfl⟩ : ∃ wo : World, wo = wr := ⟨_, rfl⟩
    obtain ⟨C1, e1, rfl, _⟩ := own_sl HOk.out.n
    obtain ⟨C2, e2, rfl, _⟩ := own_sl HOk.out.f
    obtain ⟨C3, e3, rfl, _⟩ := own_sl HOk.out.o
    obtain ⟨f0, f1, f2⟩ := HFk.out.cell3
    have i9 : (fs.F.length : Int) ≤ 840 := by have := HCN.out; omega
    by_cases hlt : k < fs.F.length
    · have i1 : (k : Int) < (fs.F.length : Int) := by omega
      obtain ⟨y, hy⟩ : ∃ y, fs.F[k].ino = y := ⟨_, rfl⟩
      have HY := keep hy
      clear hy
      go_wp2_with fail
      go_loopw [6] (fun i wr => ∃ (j : Nat), i = .int .i64 j ∧ j ≤ is.length ∧ Hid (NoO is y j) ∧ Hid (Blk wr w.heap.size 40 #[.slice C1 fs.N.length e1, .slice C2 fs.F.length e2, .slice C3 (hk_ fs.F is k).length e3]) ∧ Hid (FsO wr W.heap.size (.slice C1 fs.N.length e1) (.slice C2 fs.F.length e2) (.slice C3 (hk_ fs.F is k).length e3) ⟨fs.N, fs.F, hk_ fs.F is k⟩) ∧ Hid (Blk wr (w.heap.size + 1) 40 #[.slice none 0 0, .slice none 0 0, .slice none 0 0]) ∧ Hid (Below w.heap.size w wr) ∧ Hid (W.heap.size ≤ wr.heap.size)) (fun i _ => is.length - (intOf i).toNat)
      case atStart => exact ⟨0, rfl, Nat.zero_le _, keep (fun j hj => absurd hj (Nat.not_lt_zero _)), HFk, HOk, HZk, HBk, HWk⟩
      case round =>
        obtain ⟨j, rfl, hj, HNj, HFj, HOj, HZj, HBj, HWj⟩ := hrel
        clear f0 f1 f2 HFk HOk HZk HBk HWk
        obtain ⟨wq, rfl⟩ : ∃ wq : World, wq = wr := ⟨_, rfl⟩
        obtain ⟨f0, f1, f2⟩ := HFj.out.cell3
        by_cases hjl : j < is.length
        · have hSj := HS0.out.below HBj.out (Nat.le_refl _)
          obtain ⟨b, o, u, rfl, hbl, hu, n0⟩ := hSj.at_ hjl
          obtain ⟨z, hz⟩ : ∃ z, is[j] = z := ⟨_, rfl⟩
          obtain rfl : u = .int .i64 z := by
            rw [ints, List.getElem?_map, List.getElem?_eq_getElem hjl, hz] at hu
            exact (Option.some.inj hu).symm
          obtain ⟨b2, o2, rfl, _, m0, m1, m2, m3, m4⟩ := fi_cells (Sl.of_own HOj.out.f) hlt
          rw [HY.out] at m0
          have j0 : (0 : Int) ≤ (j : Int) := by omega
          have j1 : (j : Int) < (is.length : Int) := by omega
          have j9 : (is.length : Int) ≤ 1000000 := by omega
          have hbl' : b < w.heap.size := hbl
          have HZZ := keep hz
          have HN0 := keep n0
          clear hz hu hSj m1 m2 m3 m4
          go_upto_region 9 with fail
          go_cut [33] (fun q wd => q = .bool (z == y) ∧ Hid (Below wq.heap.size wq wd))
          case first =>
            go_quiet (fail)
            go_wp2_with fail
            go_meet
            case rel => exact ⟨rfl, keep (below_drewN (Below.refl _ _) _)⟩
          case rest =>
            obtain ⟨rfl, hcb⟩ := hcut
            obtain ⟨wv, rfl⟩ : ∃ wv : World, wv = wc := ⟨_, rfl⟩
            have hFv := HFj.out.below hcb.out HFj.out.lt
            have hOv := HOj.out.up hcb.out
            have hZv := HZj.out.below hcb.out HZj.out.lt
            have hBv := bchain HBj.out hcb.out
            have hWv : W.heap.size ≤ wv.heap.size := Nat.le_trans HWj.out hcb.out.size
            clear f0 f1 f2 m0 n0
            by_cases he : z = y
            · have eb1 : (z == y) = true := by simpa using he
              have hmem : is.contains y = true := by simpa using (he ▸ HZZ.out ▸ List.getElem_mem hjl : y ∈ is)
              have HYES := keep (hk_yes (is := is) hlt (by rw [HY.out]; exact hmem))
              have hlen := hk_len fs.F is k hk
              have HEZ := keep he
              clear hmem he
              generalize hk_ fs.F is k = O at *
              obtain ⟨h0, h1, h2⟩ := hFv.cell3
              have nv := (hcb.out.cell (p := ⟨b, o + j, none⟩) (World.block_lt_of_cell? wq _ HN0.out)).trans HN0.out
              have hal : Below wv.heap.size wv (wv.alloc (.cells #[.int .i64 z] 3)).drew := ((Below.refl _ wv).alloc (Nat.le_refl _) _).drew
              have HO6 := keep (hOv.up hal)
              have HK6 := keep (hFv.below hal hFv.lt)
              have HZ6 := keep (hZv.below hal hZv.lt)
              have HB6 := keep (bchain hBv hal)
              have hz6 := hal.size
              have hg5 : w.heap.size < wv.heap.size := hFv.lt
              have hne : w.heap.size ≠ wv.heap.size := by omega
              have hbv : b < wv.heap.size := by omega
              have hbne : b ≠ wv.heap.size := by omega
              have HLM : Hid (O.length + 1 ≤ maxLen) := keep (by unfold maxLen; omega)
              have HLB : Hid ((O.length + 1) * 8 ≤ 140737488355328) := keep (by omega)
              have HLW : Hid (W.heap.size ≤ (wv.alloc (.cells #[.int .i64 z] 3)).drew.heap.size) := keep (Nat.le_trans hWv hz6)
              have HWV := keep hWv
              clear hFv hOv hZv hBv hal hWv HFj HOj HZj HBj HWj hcb HN0
              go_wp2_with fail
              go_region_law (first
                | (refine step_appendS elIn rfl _ _ rfl W.heap.size (.slice C3 O.length e3) O.length (ints O) rfl HO6.out.o _ (.slice (some ⟨wv.heap.size, 0, none⟩) 1 1) 1 [.int .i64 z] rfl (one_litI wv z _) (by intro u hu; simp at hu; rw [hu]; rfl) HLM.out HLB.out HLW.out ?_; intro v7 w7 ho7 hb7 hg7
                   obtain ⟨A7, C7, rfl, _⟩ := own_sl ho7
                   have hK7 := HK6.out.grown hg7 (fun e => own_off HO6.out.o HK6.out (by decide) e.symm)
                   obtain ⟨_, _, u2⟩ := hK7.cell3
                   have fz := hK7.frozen 2)
                | fail)
              all_goals
                have ho8 : w7.ownsRow W.heap.size 3 1 (.slice A7 (O.length + 1) C7) (O ++ [z]).length (ints (O ++ [z])) := by
                  rw [List.length_append, show ints (O ++ [z]) = ints O ++ [.int .i64 z] by simp [ints]]
                  exact ho7
                have hO7 := HO6.out.putO hg7 ho8
                have hg8 := grownBy_set (World.grownBy.refl w7 (some w.heap.size)) 2 (.slice A7 (O.length + 1) C7)
                have HO8 := keep (hO7.fbox hK7 hg8)
                have HF8 : Hid (Blk (w7.setCell ⟨w.heap.size, 2, none⟩ (.slice A7 (O.length + 1) C7)) w.heap.size 40 #[.slice C1 fs.N.length e1, .slice (some ⟨b2, o2, none⟩) fs.F.length e2, .slice A7 (O.length + 1) C7]) := keep (hK7.set_ 2 _)
                have HZ8 := keep ((HZ6.out.grown hg7 (fun e => own_off HO6.out.o HZ6.out (by decide) e.symm)).grown hg8 (by simp))
                have HB8 := keep ((HB6.out.trans (hb7.mono (Nat.le_trans HB.out.size (by have := HWS.out; omega)))).setCell (p := ⟨w.heap.size, 2, none⟩) (Nat.le_refl _) (.slice A7 (O.length + 1) C7))
                have HW8 : Hid (W.heap.size ≤ (w7.setCell ⟨w.heap.size, 2, none⟩ (.slice A7 (O.length + 1) C7)).heap.size) := keep (Nat.le_trans (Nat.le_trans HLW.out hg7.size) hg8.size)
                clear ho7 ho8 hO7 hK7 hb7 hg7 hg8
                go_wp2_with fail
                go_roundw
                case rel => exact ⟨k + 1, _, _, _, by go_num, by omega, HF8, (by rw [HYES.out, HY.out, ← HEZ.out]; exact HO8), HZ8, HB8, HW8⟩
                case measure => simp [intOf]; omega
            · have eb1 : (z == y) = false := by simpa using he
              have HN1 := keep (HNj.out.step (fun _ => HZZ.out ▸ he))
              have HFv := keep hFv
              have HOv := keep hOv
              have HZv := keep hZv
              have HBv := keep hBv
              have HWv := keep hWv
              clear he hFv hOv hZv hBv hWv
              go_wp2_with fail
              go_roundw
              case rel => exact ⟨j + 1, by go_num, by omega, HN1, HFv, HOv, HZv, HBv, HWv⟩
              case measure => simp [intOf]; omega
        · obtain rfl : j = is.length := by omega
          have hno : is.contains y = false := by
            have := HNj.out.all
            simpa using this
          have HNO := keep (hk_no (is := is) hlt (by rw [HY.out]; exact hno))
          clear hno
          go_wp2_with fail
          go_roundw
          case rel => exact ⟨k + 1, _, _, _, by go_num, by omega, HFj, (by rw [HNO.out]; exact HOj), HZj, HBj, HWj⟩
          case measure => simp [intOf]; omega
    · obtain rfl : k = fs.F.length := by omega
      have hpi := PInv.held HI.out is
      have hlen := hk_len fs.F is fs.F.length (Nat.le_refl _)
      have HPU := keep (refSweep_any _ _ _ _ wo HOk.out.t (by show fs.F.length ≤ 1000000; have := HCN.out; omega) (by have := HI.out.b; show fs.N.length ≤ 1000000; omega) (by have := HCN.out; show (hk_ fs.F is fs.F.length).length ≤ 1000000; omega))
      have HPI := keep hpi
      have HLEN := keep hlen
      clear hpi hlen
      go_wp2_with fail
      refine HPU.out.mono ?_
      rintro e w6 ⟨vF6, rfl, hO6, hb6⟩
      obtain ⟨_, _, rfl, _⟩ := own_sl hO6
      have hZ6 := HZk.out.below hb6 HZk.out.lt
      have hB6 : Below w.heap.size w w6 := bchain HBk.out hb6
      have hO := HOk.out.up hb6
      rw [← stays_goes] at hO6
      have hOo : FsO w6 w.heap.size (.slice C1 fs.N.length e1) _ (.slice C3 (hk_ fs.F is fs.F.length).length e3) (purged ⟨fs.N, fs.F, hk_ fs.F is fs.F.length⟩) := ⟨own_mono hO.n HB.out.size, own_mono hO6 HBk.out.size, own_mono hO.o HB.out.size, fun t ht => hO.d t (List.mem_filter.1 ht).1⟩
      obtain ⟨z0, z1, z2⟩ := hZ6.cell3
      obtain ⟨g0, g1, g2⟩ := hZ6.froz3
      have HZ6 := keep hZ6
      have HB6 := keep hB6
      have HO6 := keep hOo
      clear hZ6 hB6 hO6 hb6 hO hOo
      rw [← stays_goes]
      go_wp2_with fail
      refine bodyPost_ret (results_cell_row rfl _ _ (w.heap.size + 1) _ _ _ _ rfl (HZ6.out.three _ _ _) Try.underlying40 rfl (by kernel_rfl)) rfl ?_
      refine ⟨_, _, _, _, rfl, FsT.grown HO6.out.t HZ6.out (grown_three _ _ _ _ _) (by decide) (by decide) (by decide) (by decide), ?_, HPI.out.purged, HLEN.out, below_three HB6.out (by omega) _ _ _⟩
      rw [purged_p]
      unfold holdP FS.p
      rw [← hk_all]
end Go.Proofs.Ytgegmefnbkcdkaa
namespace Go.Proofs.Ytgegmefnbkcdkaa
open Go.RowKit
end Go.Proofs.Ytgegmefnbkcdkaa
