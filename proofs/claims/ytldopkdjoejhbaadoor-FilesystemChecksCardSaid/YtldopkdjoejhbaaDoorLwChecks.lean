/- FilesystemChecks: the walk of the statement. Printed by wip/gen/lwchecks.py. -/
import Derived.Test.YtldopkdjoejhbaaDoorFsAwake
import Derived.Test.YtldopkdjoejhbaaDoorLwDraw
import Derived.Test.YtldopkdjoejhbaaDoorRfO
import Derived.Deep.CutBlock
namespace Go.Proofs.YtldopkdjoejhbaaDoor
open Go.RowKit

/-- The directory of which one thing was changed. -/
def Spo (w0 wd : World) (gf : Nat) : Prop := ∃ (fk : FS) (vN vF vO : Value), Blk wd gf 31 #[vN, vF, vO] ∧ FsT wd vN vF vO fk ∧ (fk.N.length ≤ 50 ∧ fk.F.length ≤ 50 ∧ fk.O.length ≤ 50) ∧ (∀ n ∈ fk.N, n.nm.size ≤ 9223372036854775807) ∧ Below w0.heap.size w0 wd
theorem nset {w : World} {B g k j : Nat} {vN vF vO u : Value} {fs : FS} {a : Nm} (hO : FsO w B vN vF vO fs) (hg : vN.ownBlock = some g) (hk : k < fs.N.length) (hj : j < 2)
    (ha : nmV a = (nmV fs.N[k]).set j u) : FsO (w.setCell ⟨g, k * 2 + j, none⟩ u) B vN vF vO ⟨fs.N.set k a, fs.F, fs.O⟩ := by
  obtain ⟨N, F, O⟩ := fs
  have hgr : w.grownBy (w.setCell ⟨g, k * 2 + j, none⟩ u) vN.ownBlock := by
    rw [hg]; exact grownBy_set (World.grownBy.refl w _) _ _
  have hst := own_store hO.n hg (k * 2 + j) u
  have hrow : (nms N).set (k * 2 + j) u = nms (N.set k a) := rows_set nmV_len N k hk j hj u a ha
  rw [show nms (FS.mk N F O).N = nms N from rfl, hrow] at hst
  have hn : (w.setCell ⟨g, k * 2 + j, none⟩ u).ownsRow B 69 2 vN (N.set k a).length (nms (N.set k a)) := by rw [List.length_set]; exact hst
  exact hO.putN hgr hn
theorem FsO.grownC {w w' : World} {B gc : Nat} {vN vF vO : Value} {fs : FS} (h : FsO w B vN vF vO fs) (hC : Codes w gc) (hg : w.grownBy w' (some gc)) (hB : gc < B) : FsO w' B vN vF vO fs := by
  obtain ⟨_, _, _, _, _, hb, _⟩ := hC
  exact ⟨own_grown h.n hg hB, own_grown h.f hg hB, own_grown h.o hg hB, fun t ht => (h.d t ht).grown hg (noU8 hb (by decide))⟩
theorem own_blk {w : World} {B e size n : Nat} {v : Value} {xs : List Value} (h : w.ownsRow B e size v n xs) (hn : 0 < n) : ∃ g cap, v = .slice (some ⟨g, 0, none⟩) n cap ∧ B ≤ g := by
  rcases h.2 with ⟨hv, hn'⟩ | ⟨g, cap, cur, hv, hb, _⟩
  · omega
  · exact ⟨g, cap, hv, hb⟩
theorem one_litN (w : World) (x : Int) (t : TypeId) : Sl (w.alloc (.cells #[.int .i64 x] t)) (fun k => k = w.heap.size) 1 (.slice (some ⟨w.heap.size, 0, none⟩) 1 1) 1 [.int .i64 x] := by
  refine ⟨rfl, _, 1, rfl, Nat.le_refl _, fun _ => ⟨w.heap.size, 0, rfl, rfl, fun j u hu => ?_⟩⟩
  rw [Nat.zero_add]
  refine ((Blk.new w t #[.int .i64 x]).cell j).trans ?_
  simpa using hu
theorem nm_litN (w : World) (s : ByteArray) (x : Int) (t : TypeId) : Sl (w.alloc (.cells #[.string s, .int .i64 x] t)).drew (fun k => k = w.heap.size) 2 (.slice (some ⟨w.heap.size, 0, none⟩) 1 1) 1 [.string s, .int .i64 x] := by
  refine ⟨rfl, _, 1, rfl, Nat.le_refl _, fun _ => ⟨w.heap.size, 0, rfl, rfl, fun j u hu => ?_⟩⟩
  rw [Nat.zero_add]
  refine ((Blk.new w t #[.string s, .int .i64 x]).cell j).trans ?_
  simpa using hu
set_option maxHeartbeats 16000000 in
set_option maxRecDepth 100000 in
theorem law_checks (vc : Value) (bs : List Int) (num : Int) (name : ByteArray) (w : World) (hg : Chg w) (hsc : Sl w (lt w.heap.size) 1 vc bs.length (bs.map (.int .u8))) (hr : ∀ x ∈ bs, 0 ≤ x ∧ x ≤ 255) (hm : bs.length ≤ maxLen)
    (hnm : name.size ≤ 9223372036854775807) :
    Calls Tryd.prog 7 #[vc, .int .i64 num, .string name] w fun e w' => e = .returned (.bool true) ∧ Below w.heap.size w w' := by
  obtain ⟨Ac, cc, rfl, hcc, hsc⟩ := hsc.form
  have HG := keep hg
  have HNM := keep hnm
  clear hg hnm
  go_enter Tryd.func7, Tryd.ntmps7
  go_wp2_with fail
  refine (awake_any w HG.out).mono ?_
  rintro e w1 ⟨rfl, hb1⟩
  have HB1 := keep hb1
  have hsc1 := (hsc.below hb1 (Nat.le_refl _)).more hb1.size
  clear hb1 hsc
  go_wp2_with fail
  refine (drawNew _ bs 240 _ hsc1 hr (by omega) hm).mono ?_
  rintro e w2 ⟨gc, rfl, hgc, hC, hb2⟩
  have HC2 := keep hC
  have hgw : w.heap.size ≤ gc := Nat.le_trans HB1.out.size hgc
  have HB2 := keep (bchain HB1.out hb2)
  clear hsc1 hr hm hcc hb2 hC hgc HB1 HG
  go_wp2_with fail
  refine (lawDraw gc 12 w2 HC2.out (by omega)).mono ?_
  rintro e w3 ⟨fs, vN, vF, vO, rfl, hT3, hI3, hO3, hC3, hg3⟩
  obtain ⟨A1, c1, rfl, _, _⟩ := hT3.n.form
  obtain ⟨A2, c2, rfl, _, _⟩ := hT3.f.form
  obtain ⟨A3, c3, rfl, _, _⟩ := hT3.o.form
  have hcnt := hI3.count
  have hbn := hI3.b
  have HT3 := keep hT3
  have HC3 := keep hC3
  have HB3 := keep (below_grown HB2.out hg3 HB2.out.size hgw)
  have hgc3 : gc < w3.heap.size := hC3.lt_
  have HVN : Hid (∀ n ∈ fs.N, n.nm.size ≤ 9223372036854775807) := keep (fun n hn => by
    have := hI3.v n hn
    unfold vld at this
    simp only [Bool.and_eq_true, decide_eq_true_eq] at this
    omega)
  have HSZ : Hid (fs.N.length ≤ 40 ∧ fs.F.length ≤ 43 ∧ fs.O.length ≤ 3) := keep (by omega)
  clear hT3 hI3 hO3 hC3 hg3 HC2 HB2 hcnt hbn
  go_wp2_with fail
  refine (refCopy_any _ _ _ fs w3 HT3.out (by have := HSZ.out; omega) (by have := HSZ.out; omega) (by have := HSZ.out; omega)).mono ?_
  rintro e w4 ⟨vN4, vF4, vO4, rfl, hO4, hb4⟩
  obtain ⟨B1, d1, rfl, _⟩ := own_sl hO4.n
  obtain ⟨B2, d2, rfl, _⟩ := own_sl hO4.f
  obtain ⟨B3, d3, rfl, _⟩ := own_sl hO4.o
  have hal : Below w4.heap.size w4 (w4.alloc (.cells #[.slice B1 fs.N.length d1, .slice B2 fs.F.length d2, .slice B3 fs.O.length d3] 31)) := (Below.refl _ w4).alloc (Nat.le_refl _) _
  have HF : Hid (Blk (w4.alloc (.cells #[.slice B1 fs.N.length d1, .slice B2 fs.F.length d2, .slice B3 fs.O.length d3] 31)) w4.heap.size 31 #[.slice B1 fs.N.length d1, .slice B2 fs.F.length d2, .slice B3 fs.O.length d3]) := keep (Blk.new w4 _ _)
  have HO := keep (hO4.up hal)
  have HC := keep ((HC3.out.under hb4 HC3.out.lt_).under hal (Nat.lt_of_lt_of_le HC3.out.lt_ hb4.size))
  have HB := keep (bchain (bchain HB3.out hb4) hal)
  have hz4 := hb4.size
  have hz3 := HB3.out.size
  clear hO4 hb4 hal HT3 HC3 HB3
  go_upto_region 5 with fail
  generalize w4.alloc (.cells #[.slice B1 fs.N.length d1, .slice B2 fs.F.length d2, .slice B3 fs.O.length d3] 31) = W at *
  generalize w4.heap.size = gf at *
  go_wp2_with fail
  refine (makeMod num 8 _ (by omega)).mono ?_
  rintro e w5 ⟨kd, rfl, k0, k1, rfl⟩
  have k2 := k1 (by omega)
  have hgf : w3.heap.size ≤ gf := hz4
  have hgfl : gf < W.heap.size := HF.out.lt
  clear k1
  go_upto_block 0 with (fail)
  go_cut [] (fun wd => Hid (Spo w wd gf))
  case first =>
    have SAME : Hid (Spo w W gf) := keep ⟨fs, _, _, _, HF.out, HO.out.t, by have := HSZ.out; omega, HVN.out, HB.out⟩
    have HFC := keep HF.out.cell3
    obtain ⟨f0, f1, f2⟩ := HF.out.cell3
    have hcs : kd = 0 ∨ kd = 1 ∨ kd = 2 ∨ kd = 3 ∨ kd = 4 ∨ kd = 5 ∨ kd = 6 ∨ kd = 7 := by omega
    rcases hcs with rfl | rfl | rfl | rfl | rfl | rfl | rfl | rfl
    · by_cases h0 : 0 < fs.N.length
      · have hd : decide (0 < (fs.N.length : Int)) = true := decide_eq_true (by omega)
        obtain ⟨gN, cN, hvN, hgB⟩ := own_blk HO.out.n h0
        injection hvN with e1 _ e3
        subst e1 e3
        have hgNf : gN ≠ gf := fun e => own_off HO.out.n HF.out (by decide) (by rw [e]; rfl)
        have hgfN : gf ≠ gN := fun e => hgNf e.symm
        have hd5 : Below W.heap.size W W.drew := (Below.refl _ W).drew
        have hJ0 : Codes W.drew gc := HC.out.under hd5 HC.out.lt_
        have HOd := keep (HO.out.up hd5)
        have HFd := keep (HF.out.below hd5 HF.out.lt)
        have HBd := keep (bchain HB.out hd5)
        clear hd5 hgNf
        have hln : (fs.N.length : Int) ≤ 43 := by have := HSZ.out; omega
        go_upto_region 7 with fail
        go_region_with (first
          | (go_at_call 17; (with_reducible refine (drawNext gc _ _ hJ0 (by omega) (by omega)).mono ?_); rintro e w6 ⟨r, rfl, r0, r1, _, hJ1, hg6⟩
             obtain ⟨j, rfl⟩ := Int.eq_ofNat_of_zero_le r0
             have hj : j < fs.N.length := by have := r1 (by omega); omega
             have j0 : (0 : Int) ≤ (j : Int) := by omega
             have j1 : (j : Int) < (fs.N.length : Int) := by omega
             have HO6 := keep (HOd.out.grownC hJ0 hg6 (by omega))
             have HF6 := keep (HFd.out.grown hg6 (fun e => by injection e; omega))
             have HB6 := keep (below_grown HBd.out hg6 HBd.out.size hgw)
             obtain ⟨l0, l1, l2⟩ := HF6.out.cell3
             obtain ⟨lc0, lc1⟩ := own_nmCells HO6.out.n hj
             have lz : w6.frozen? ⟨gN, j * 2, none⟩ = false := own_frozen HO6.out.n rfl _
             clear r1)
          | fail)
        all_goals
          have hset := nset (j := 0) (u := .string name) (a := ⟨name, fs.N[j].ino⟩) HO6.out rfl hj (by omega) rfl
          have HS : Hid (Spo w (w6.setCell ⟨gN, j * 2, none⟩ (.string name)) gf) := keep ⟨_, _, _, _, HF6.out.far (p := ⟨gN, j * 2, none⟩) hgfN _, hset.t, (by show (fs.N.set j ⟨name, fs.N[j].ino⟩).length ≤ 50 ∧ fs.F.length ≤ 50 ∧ fs.O.length ≤ 50; rw [List.length_set]; have := HSZ.out; omega), (fun n hn => by
              rcases List.mem_or_eq_of_mem_set hn with h | rfl
              · exact HVN.out n h
              · exact HNM.out), HB6.out.setCell (p := ⟨gN, j * 2, none⟩) (by show w.heap.size ≤ gN; omega) _⟩
          clear hset
          go_wp2_with fail
          go_meet
          case rel => exact HS
      · have hd : decide (0 < (fs.N.length : Int)) = false := decide_eq_false (by omega)
        go_wp2_with fail
        go_meet
        case rel => exact SAME
    · by_cases h0 : 0 < fs.N.length
      · have hd : decide (0 < (fs.N.length : Int)) = true := decide_eq_true (by omega)
        obtain ⟨gN, cN, hvN, hgB⟩ := own_blk HO.out.n h0
        injection hvN with e1 _ e3
        subst e1 e3
        have hgNf : gN ≠ gf := fun e => own_off HO.out.n HF.out (by decide) (by rw [e]; rfl)
        have hgfN : gf ≠ gN := fun e => hgNf e.symm
        have hd5 : Below W.heap.size W W.drew := (Below.refl _ W).drew
        have hJ0 : Codes W.drew gc := HC.out.under hd5 HC.out.lt_
        have HOd := keep (HO.out.up hd5)
        have HFd := keep (HF.out.below hd5 HF.out.lt)
        have HBd := keep (bchain HB.out hd5)
        clear hd5 hgNf
        have hln : (fs.N.length : Int) ≤ 43 := by have := HSZ.out; omega
        go_upto_region 9 with fail
        go_region_with (first
          | (go_at_call 32; (with_reducible refine (makeInt gc _ hJ1).mono ?_); rintro e w7 ⟨y, rfl, y0, y1, hC7, hg7⟩
             have HO7 := keep (HO6.out.grownC hJ1 hg7 (by omega))
             have HF7 := keep (HF6.out.grown hg7 (fun e => by injection e; omega))
             have HB7 := keep (below_grown HB6.out hg7 HB6.out.size hgw)
             obtain ⟨m0, m1, m2⟩ := HF7.out.cell3
             obtain ⟨mc0, mc1⟩ := own_nmCells HO7.out.n hj
             have mz : w7.frozen? ⟨gN, j * 2 + 1, none⟩ = false := own_frozen HO7.out.n rfl _
          )
          | (go_at_call 17; (with_reducible refine (drawNext gc _ _ hJ0 (by omega) (by omega)).mono ?_); rintro e w6 ⟨r, rfl, r0, r1, _, hJ1, hg6⟩
             obtain ⟨j, rfl⟩ := Int.eq_ofNat_of_zero_le r0
             have hj : j < fs.N.length := by have := r1 (by omega); omega
             have j0 : (0 : Int) ≤ (j : Int) := by omega
             have j1 : (j : Int) < (fs.N.length : Int) := by omega
             have HO6 := keep (HOd.out.grownC hJ0 hg6 (by omega))
             have HF6 := keep (HFd.out.grown hg6 (fun e => by injection e; omega))
             have HB6 := keep (below_grown HBd.out hg6 HBd.out.size hgw)
             obtain ⟨l0, l1, l2⟩ := HF6.out.cell3
             obtain ⟨lc0, lc1⟩ := own_nmCells HO6.out.n hj
             have lz : w6.frozen? ⟨gN, j * 2 + 1, none⟩ = false := own_frozen HO6.out.n rfl _
             clear r1)
          | fail)
        all_goals
          have hset := nset (j := 1) (u := .int .i64 y) (a := ⟨fs.N[j].nm, y⟩) HO7.out rfl hj (by omega) rfl
          have HS : Hid (Spo w (w7.setCell ⟨gN, j * 2 + 1, none⟩ (.int .i64 y)) gf) := keep ⟨_, _, _, _, HF7.out.far (p := ⟨gN, j * 2 + 1, none⟩) hgfN _, hset.t, (by show (fs.N.set j ⟨fs.N[j].nm, y⟩).length ≤ 50 ∧ fs.F.length ≤ 50 ∧ fs.O.length ≤ 50; rw [List.length_set]; have := HSZ.out; omega), (fun n hn => by
              rcases List.mem_or_eq_of_mem_set hn with h | rfl
              · exact HVN.out n h
              · exact HVN.out fs.N[j] (List.getElem_mem hj)), HB7.out.setCell (p := ⟨gN, j * 2 + 1, none⟩) (by show w.heap.size ≤ gN; omega) _⟩
          clear hset
          go_wp2_with fail
          go_meet
          case rel => exact HS
      · have hd : decide (0 < (fs.N.length : Int)) = false := decide_eq_false (by omega)
        go_wp2_with fail
        go_meet
        case rel => exact SAME
    · by_cases h0 : 0 < fs.F.length
      · have hd : decide (0 < (fs.F.length : Int)) = true := decide_eq_true (by omega)
        obtain ⟨gN, cN, hvN, hgB⟩ := own_blk HO.out.f h0
        injection hvN with e1 _ e3
        subst e1 e3
        have hgNf : gN ≠ gf := fun e => own_off HO.out.f HF.out (by decide) (by rw [e]; rfl)
        have hgfN : gf ≠ gN := fun e => hgNf e.symm
        have hd5 : Below W.heap.size W W.drew := (Below.refl _ W).drew
        have hJ0 : Codes W.drew gc := HC.out.under hd5 HC.out.lt_
        have HOd := keep (HO.out.up hd5)
        have HFd := keep (HF.out.below hd5 HF.out.lt)
        have HBd := keep (bchain HB.out hd5)
        clear hd5 hgNf
        have hln : (fs.F.length : Int) ≤ 43 := by have := HSZ.out; omega
        go_upto_region 11 with fail
        go_region_with (first
          | (go_at_call 32; (with_reducible refine (makeInt gc _ hJ1).mono ?_); rintro e w7 ⟨y, rfl, y0, y1, hC7, hg7⟩
             have HO7 := keep (HO6.out.grownC hJ1 hg7 (by omega))
             have HF7 := keep (HF6.out.grown hg7 (fun e => by injection e; omega))
             have HB7 := keep (below_grown HB6.out hg7 HB6.out.size hgw)
             obtain ⟨m0, m1, m2⟩ := HF7.out.cell3
             obtain ⟨mc0, mc1, mc2, mc3, mc4⟩ := own_fiCells HO7.out.f rfl hj
             have mz : w7.frozen? ⟨gN, j * 5, none⟩ = false := own_frozen HO7.out.f rfl _
          )
          | (go_at_call 17; (with_reducible refine (drawNext gc _ _ hJ0 (by omega) (by omega)).mono ?_); rintro e w6 ⟨r, rfl, r0, r1, _, hJ1, hg6⟩
             obtain ⟨j, rfl⟩ := Int.eq_ofNat_of_zero_le r0
             have hj : j < fs.F.length := by have := r1 (by omega); omega
             have j0 : (0 : Int) ≤ (j : Int) := by omega
             have j1 : (j : Int) < (fs.F.length : Int) := by omega
             have HO6 := keep (HOd.out.grownC hJ0 hg6 (by omega))
             have HF6 := keep (HFd.out.grown hg6 (fun e => by injection e; omega))
             have HB6 := keep (below_grown HBd.out hg6 HBd.out.size hgw)
             obtain ⟨l0, l1, l2⟩ := HF6.out.cell3
             obtain ⟨lc0, lc1, lc2, lc3, lc4⟩ := own_fiCells HO6.out.f rfl hj
             have lz : w6.frozen? ⟨gN, j * 5, none⟩ = false := own_frozen HO6.out.f rfl _
             clear r1)
          | fail)
        all_goals
          have hset := fset (j := 0) (u := .int .i64 y) (a := ⟨y, fs.F[j].dv, fs.F[j].data, fs.F[j].cp, fs.F[j].wh, fs.F[j].left⟩) HO7.out rfl hj (by omega) rfl (by have h := HO7.out.d _ (List.getElem_mem hj); exact ⟨h.1, h.2⟩)
          have HS : Hid (Spo w (w7.setCell ⟨gN, j * 5, none⟩ (.int .i64 y)) gf) := keep ⟨_, _, _, _, HF7.out.far (p := ⟨gN, j * 5, none⟩) hgfN _, hset.t, (by show fs.N.length ≤ 50 ∧ (fs.F.set j ⟨y, fs.F[j].dv, fs.F[j].data, fs.F[j].cp, fs.F[j].wh, fs.F[j].left⟩).length ≤ 50 ∧ fs.O.length ≤ 50; rw [List.length_set]; have := HSZ.out; omega), HVN.out, HB7.out.setCell (p := ⟨gN, j * 5, none⟩) (by show w.heap.size ≤ gN; omega) _⟩
          clear hset
          go_wp2_with fail
          go_meet
          case rel => exact HS
      · have hd : decide (0 < (fs.F.length : Int)) = false := decide_eq_false (by omega)
        go_wp2_with fail
        go_meet
        case rel => exact SAME
    · by_cases h0 : 0 < fs.F.length
      · have hd : decide (0 < (fs.F.length : Int)) = true := decide_eq_true (by omega)
        obtain ⟨gN, cN, hvN, hgB⟩ := own_blk HO.out.f h0
        injection hvN with e1 _ e3
        subst e1 e3
        have hgNf : gN ≠ gf := fun e => own_off HO.out.f HF.out (by decide) (by rw [e]; rfl)
        have hgfN : gf ≠ gN := fun e => hgNf e.symm
        have hd5 : Below W.heap.size W W.drew := (Below.refl _ W).drew
        have hJ0 : Codes W.drew gc := HC.out.under hd5 HC.out.lt_
        have HOd := keep (HO.out.up hd5)
        have HFd := keep (HF.out.below hd5 HF.out.lt)
        have HBd := keep (bchain HB.out hd5)
        clear hd5 hgNf
        have hln : (fs.F.length : Int) ≤ 43 := by have := HSZ.out; omega
        go_upto_region 13 with fail
        go_region_with (first
          | (go_at_call 32; (with_reducible refine (makeInt gc _ hJ1).mono ?_); rintro e w7 ⟨y, rfl, y0, y1, hC7, hg7⟩
             have HO7 := keep (HO6.out.grownC hJ1 hg7 (by omega))
             have HF7 := keep (HF6.out.grown hg7 (fun e => by injection e; omega))
             have HB7 := keep (below_grown HB6.out hg7 HB6.out.size hgw)
             obtain ⟨m0, m1, m2⟩ := HF7.out.cell3
             obtain ⟨mc0, mc1, mc2, mc3, mc4⟩ := own_fiCells HO7.out.f rfl hj
             have mz : w7.frozen? ⟨gN, j * 5 + 4, none⟩ = false := own_frozen HO7.out.f rfl _
          )
          | (go_at_call 17; (with_reducible refine (drawNext gc _ _ hJ0 (by omega) (by omega)).mono ?_); rintro e w6 ⟨r, rfl, r0, r1, _, hJ1, hg6⟩
             obtain ⟨j, rfl⟩ := Int.eq_ofNat_of_zero_le r0
             have hj : j < fs.F.length := by have := r1 (by omega); omega
             have j0 : (0 : Int) ≤ (j : Int) := by omega
             have j1 : (j : Int) < (fs.F.length : Int) := by omega
             have HO6 := keep (HOd.out.grownC hJ0 hg6 (by omega))
             have HF6 := keep (HFd.out.grown hg6 (fun e => by injection e; omega))
             have HB6 := keep (below_grown HBd.out hg6 HBd.out.size hgw)
             obtain ⟨l0, l1, l2⟩ := HF6.out.cell3
             obtain ⟨lc0, lc1, lc2, lc3, lc4⟩ := own_fiCells HO6.out.f rfl hj
             have lz : w6.frozen? ⟨gN, j * 5 + 4, none⟩ = false := own_frozen HO6.out.f rfl _
             clear r1)
          | fail)
        all_goals
          have hset := fset (j := 4) (u := .int .i64 y) (a := ⟨fs.F[j].ino, fs.F[j].dv, fs.F[j].data, fs.F[j].cp, fs.F[j].wh, y⟩) HO7.out rfl hj (by omega) rfl (by have h := HO7.out.d _ (List.getElem_mem hj); exact ⟨h.1, h.2⟩)
          have HS : Hid (Spo w (w7.setCell ⟨gN, j * 5 + 4, none⟩ (.int .i64 y)) gf) := keep ⟨_, _, _, _, HF7.out.far (p := ⟨gN, j * 5 + 4, none⟩) hgfN _, hset.t, (by show fs.N.length ≤ 50 ∧ (fs.F.set j ⟨fs.F[j].ino, fs.F[j].dv, fs.F[j].data, fs.F[j].cp, fs.F[j].wh, y⟩).length ≤ 50 ∧ fs.O.length ≤ 50; rw [List.length_set]; have := HSZ.out; omega), HVN.out, HB7.out.setCell (p := ⟨gN, j * 5 + 4, none⟩) (by show w.heap.size ≤ gN; omega) _⟩
          clear hset
          go_wp2_with fail
          go_meet
          case rel => exact HS
      · have hd : decide (0 < (fs.F.length : Int)) = false := decide_eq_false (by omega)
        go_wp2_with fail
        go_meet
        case rel => exact SAME
    · by_cases h0 : 0 < fs.F.length
      · have hd : decide (0 < (fs.F.length : Int)) = true := decide_eq_true (by omega)
        obtain ⟨gN, cN, hvN, hgB⟩ := own_blk HO.out.f h0
        injection hvN with e1 _ e3
        subst e1 e3
        have hgNf : gN ≠ gf := fun e => own_off HO.out.f HF.out (by decide) (by rw [e]; rfl)
        have hgfN : gf ≠ gN := fun e => hgNf e.symm
        have hd5 : Below W.heap.size W W.drew := (Below.refl _ W).drew
        have hJ0 : Codes W.drew gc := HC.out.under hd5 HC.out.lt_
        have HOd := keep (HO.out.up hd5)
        have HFd := keep (HF.out.below hd5 HF.out.lt)
        have HBd := keep (bchain HB.out hd5)
        clear hd5 hgNf
        have hln : (fs.F.length : Int) ≤ 43 := by have := HSZ.out; omega
        go_upto_region 15 with fail
        go_region_with (first
          | (go_at_call 17; (with_reducible refine (drawNext gc _ _ hJ0 (by omega) (by omega)).mono ?_); rintro e w6 ⟨r, rfl, r0, r1, _, hJ1, hg6⟩
             obtain ⟨j, rfl⟩ := Int.eq_ofNat_of_zero_le r0
             have hj : j < fs.F.length := by have := r1 (by omega); omega
             have j0 : (0 : Int) ≤ (j : Int) := by omega
             have j1 : (j : Int) < (fs.F.length : Int) := by omega
             have HO6 := keep (HOd.out.grownC hJ0 hg6 (by omega))
             have HF6 := keep (HFd.out.grown hg6 (fun e => by injection e; omega))
             have HB6 := keep (below_grown HBd.out hg6 HBd.out.size hgw)
             obtain ⟨l0, l1, l2⟩ := HF6.out.cell3
             obtain ⟨lc0, lc1, lc2, lc3, lc4⟩ := own_fiCells HO6.out.f rfl hj
             have lz : w6.frozen? ⟨gN, j * 5 + 2, none⟩ = false := own_frozen HO6.out.f rfl _
             clear r1)
          | fail)
        all_goals
          go_wp2_with fail
          refine (drawNext gc 2 _ hJ1 (by omega) (by omega)).mono ?_
          rintro e w7 ⟨a, rfl, a0, a1, _, hC7, hg7⟩
          have HO7 := keep (HO6.out.grownC hJ1 hg7 (by omega))
          have HF7 := keep (HF6.out.grown hg7 (fun e => by injection e; omega))
          have HB7 := keep (below_grown HB6.out hg7 HB6.out.size hgw)
          obtain ⟨m0, m1, m2⟩ := HF7.out.cell3
          obtain ⟨mc0, mc1, mc2, mc3, mc4⟩ := own_fiCells HO7.out.f rfl hj
          have mz : w7.frozen? ⟨gN, j * 5 + 2, none⟩ = false := own_frozen HO7.out.f rfl _
          obtain ⟨p, hp⟩ : ∃ p, (a == 1) = p := ⟨_, rfl⟩
          clear a1
          go_wp2_with fail
          refine (drawNext gc 2 _ hC7 (by omega) (by omega)).mono ?_
          rintro e w8 ⟨c, rfl, b0, b1, _, hC8, hg8⟩
          have HO8 := keep (HO7.out.grownC hC7 hg8 (by omega))
          have HF8 := keep (HF7.out.grown hg8 (fun e => by injection e; omega))
          have HB8 := keep (below_grown HB7.out hg8 HB7.out.size hgw)
          obtain ⟨n0, n1, n2⟩ := HF8.out.cell3
          obtain ⟨nc0, nc1, nc2, nc3, nc4⟩ := own_fiCells HO8.out.f rfl hj
          have nz : w8.frozen? ⟨gN, j * 5 + 2, none⟩ = false := own_frozen HO8.out.f rfl _
          have nz3 : w8.frozen? ⟨gN, j * 5 + 3, none⟩ = false := own_frozen HO8.out.f rfl _
          obtain ⟨q, hq⟩ : ∃ q, (c == 1) = q := ⟨_, rfl⟩
          have hr8 : FiR w8 ⟨fs.F[j].ino, fs.F[j].dv, fs.F[j].data, p, fs.F[j].wh, fs.F[j].left⟩ := by have h := HO8.out.d _ (List.getElem_mem hj); exact ⟨h.1, h.2⟩
          have hset := fset (j := 2) (u := .bool p) (a := ⟨fs.F[j].ino, fs.F[j].dv, fs.F[j].data, p, fs.F[j].wh, fs.F[j].left⟩) HO8.out rfl hj (by omega) rfl hr8
          have hj2 : j < (fs.F.set j ⟨fs.F[j].ino, fs.F[j].dv, fs.F[j].data, p, fs.F[j].wh, fs.F[j].left⟩).length := by rw [List.length_set]; exact hj
          have hr9 := hset.d _ (List.getElem_mem hj2)
          have hset2 := fset (j := 3) (u := .bool q) (a := ⟨fs.F[j].ino, fs.F[j].dv, fs.F[j].data, p, q, fs.F[j].left⟩) hset rfl hj2 (by omega) (by rw [List.getElem_set_self]; rfl) (by rw [List.getElem_set_self] at hr9; exact ⟨hr9.1, hr9.2⟩)
          have HS : Hid (Spo w ((w8.setCell ⟨gN, j * 5 + 2, none⟩ (.bool p)).setCell ⟨gN, j * 5 + 3, none⟩ (.bool q)) gf) := keep ⟨_, _, _, _, (HF8.out.far (p := ⟨gN, j * 5 + 2, none⟩) hgfN _).far (p := ⟨gN, j * 5 + 3, none⟩) hgfN _, hset2.t, (by show fs.N.length ≤ 50 ∧ ((fs.F.set j _).set j _).length ≤ 50 ∧ fs.O.length ≤ 50; rw [List.length_set, List.length_set]; have := HSZ.out; omega), HVN.out, (HB8.out.setCell (p := ⟨gN, j * 5 + 2, none⟩) (by show w.heap.size ≤ gN; omega) _).setCell (p := ⟨gN, j * 5 + 3, none⟩) (by show w.heap.size ≤ gN; omega) _⟩
          clear hset hset2 hr8 hr9 b1
          go_wp2_with fail
          go_meet
          case rel => exact HS
      · have hd : decide (0 < (fs.F.length : Int)) = false := decide_eq_false (by omega)
        go_wp2_with fail
        go_meet
        case rel => exact SAME
    · have hd5 : Below W.heap.size W W.drew := (Below.refl _ W).drew
      have hJ0 : Codes W.drew gc := HC.out.under hd5 HC.out.lt_
      have HOd := keep (HO.out.up hd5)
      have HFd := keep (HF.out.below hd5 HF.out.lt)
      have HBd := keep (bchain HB.out hd5)
      have HLM : Hid (fs.O.length + 1 ≤ maxLen) := keep (by have := HSZ.out; unfold maxLen; omega)
      have HLB : Hid ((fs.O.length + 1) * 8 ≤ 140737488355328) := keep (by have := HSZ.out; omega)
      have hW3 : w3.heap.size ≤ W.heap.size := by omega
      clear hd5
      go_upto_region 18 with fail
      go_region_law (first
        | (go_simp; go_at_call 32; (with_reducible refine (makeInt gc _ hJ0).mono ?_); rintro e w6 ⟨y, rfl, y0, y1, hC6, hg6⟩
           have hO6 := HOd.out.grownC hJ0 hg6 (by omega)
           have hF6 := HFd.out.grown hg6 (fun e => by injection e; omega)
           have hal : Below w6.heap.size w6 (w6.alloc (.cells #[.int .i64 y] 3)) := (Below.refl _ w6).alloc (Nat.le_refl _) _
           have HO7 := keep (hO6.up hal)
           have HF7 := keep (hF6.below hal hF6.lt)
           have HB7 := keep (bchain (below_grown HBd.out hg6 HBd.out.size hgw) hal)
           have HZ7 : Hid (w3.heap.size ≤ (w6.alloc (.cells #[.int .i64 y] 3)).heap.size) := keep (Nat.le_trans hW3 (Nat.le_trans hg6.size hal.size))
           obtain ⟨g0, g1, g2⟩ := hF6.cell3
           obtain ⟨t0, t1, t2⟩ := HF7.out.cell3
           clear hO6 hF6 hal hg6)
        | (refine step_appendS elIn rfl _ _ rfl w3.heap.size (.slice B3 fs.O.length d3) fs.O.length (ints fs.O) rfl HO7.out.o _ (.slice (some ⟨w6.heap.size, 0, none⟩) 1 1) 1 [.int .i64 y] rfl (one_litN w6 y _) (by intro u hu; simp at hu; rw [hu]; rfl) HLM.out HLB.out HZ7.out ?_; intro v8 w8 ho8 hb8 hg8
           obtain ⟨A8, C8, rfl, _⟩ := own_sl ho8
           have hF8 := HF7.out.grown hg8 (fun e => own_off HO7.out.o HF7.out (by decide) e.symm)
           obtain ⟨_, _, u2⟩ := hF8.cell3
           have fz := hF8.frozen 2)
        | fail)
      all_goals
        have ho9 : w8.ownsRow w3.heap.size 3 1 (.slice A8 (fs.O.length + 1) C8) (fs.O ++ [y]).length (ints (fs.O ++ [y])) := by
          rw [List.length_append, show ints (fs.O ++ [y]) = ints fs.O ++ [.int .i64 y] by simp [ints]]
          exact ho8
        have hO9 := HO7.out.putO hg8 ho9
        have hg9 := grownBy_set (World.grownBy.refl w8 (some gf)) 2 (.slice A8 (fs.O.length + 1) C8)
        have hO10 := hO9.fbox hF8 hg9
        have HS : Hid (Spo w (w8.setCell ⟨gf, 2, none⟩ (.slice A8 (fs.O.length + 1) C8)) gf) := keep ⟨_, _, _, _, hF8.set_ 2 _, hO10.t, (by show fs.N.length ≤ 50 ∧ fs.F.length ≤ 50 ∧ (fs.O ++ [y]).length ≤ 50; rw [List.length_append, List.length_singleton]; have := HSZ.out; omega), HVN.out, (HB7.out.trans (hb8.mono (by omega))).setCell (p := ⟨gf, 2, none⟩) (by show w.heap.size ≤ gf; omega) _⟩
        clear ho8 ho9 hO9 hg9 hO10 hF8 hb8 hg8
        go_wp2_with fail
        go_meet
        case rel => exact HS
    · by_cases h0 : 0 < fs.N.length
      · have hd : decide (0 < (fs.N.length : Int)) = true := decide_eq_true (by omega)
        obtain ⟨gN, cN, hvN, hgB⟩ := own_blk HO.out.n h0
        injection hvN with e1 _ e3
        subst e1 e3
        obtain ⟨n0, n1⟩ := own_nmCells HO.out.n h0
        rw [Nat.zero_mul] at n0 n1
        obtain ⟨s0, hs0⟩ : ∃ s, fs.N[0].nm = s := ⟨_, rfl⟩
        obtain ⟨x0, hx0⟩ : ∃ x, fs.N[0].ino = x := ⟨_, rfl⟩
        have HVS : Hid (s0.size ≤ 9223372036854775807) := keep (hs0 ▸ HVN.out _ (List.getElem_mem h0))
        rw [hs0] at n0
        rw [hx0, Nat.zero_add] at n1
        clear hs0 hx0
        have hi0 : (0 : Int) < (fs.N.length : Int) := by omega
        have hal : Below W.heap.size W (W.alloc (.cells #[.string s0, .int .i64 x0] 69)).drew := ((Below.refl _ W).alloc (Nat.le_refl _) _).drew
        have HO7 := keep (HO.out.up hal)
        have HF7 := keep (HF.out.below hal HF.out.lt)
        have HB7 := keep (bchain HB.out hal)
        have HLM : Hid (fs.N.length + 1 ≤ maxLen) := keep (by have := HSZ.out; unfold maxLen; omega)
        have HLB : Hid ((fs.N.length + 1) * 24 ≤ 140737488355328) := keep (by have := HSZ.out; omega)
        have HZ7 : Hid (w3.heap.size ≤ (W.alloc (.cells #[.string s0, .int .i64 x0] 69)).drew.heap.size) := keep (Nat.le_trans (by omega) hal.size)
        have hgW : gN < W.heap.size := World.block_lt_of_cell? W _ n0
        clear hal
        go_upto_region 20 with fail
        go_region_law (first
          | (refine step_appendS elNm rfl _ _ rfl w3.heap.size (.slice (some ⟨gN, 0, none⟩) fs.N.length d1) fs.N.length (nms fs.N) rfl HO7.out.n _ (.slice (some ⟨W.heap.size, 0, none⟩) 1 1) 1 [.string s0, .int .i64 x0] rfl (nm_litN W s0 x0 _) (by intro u hu; simp at hu; rcases hu with rfl | rfl <;> rfl) HLM.out HLB.out HZ7.out ?_; intro v8 w8 ho8 hb8 hg8
             obtain ⟨A8, C8, rfl, _⟩ := own_sl ho8
             have hF8 := HF7.out.grown hg8 (fun e => own_off HO7.out.n HF7.out (by decide) e.symm)
             obtain ⟨u0, _, _⟩ := hF8.cell3
             have fz := hF8.frozen 0)
          | fail)
        all_goals
          have ho9 : w8.ownsRow w3.heap.size 69 2 (.slice A8 (fs.N.length + 1) C8) (fs.N ++ [(⟨s0, x0⟩ : Nm)]).length (nms (fs.N ++ [(⟨s0, x0⟩ : Nm)])) := by
            rw [List.length_append, show nms (fs.N ++ [(⟨s0, x0⟩ : Nm)]) = nms fs.N ++ [.string s0, .int .i64 x0] by simp [nms, nmV]]
            exact ho8
          have hO9 := HO7.out.putN hg8 ho9
          have hg9 := grownBy_set (World.grownBy.refl w8 (some gf)) 0 (.slice A8 (fs.N.length + 1) C8)
          have hO10 := hO9.fbox hF8 hg9
          have HS : Hid (Spo w (w8.setCell ⟨gf, 0, none⟩ (.slice A8 (fs.N.length + 1) C8)) gf) := keep ⟨_, _, _, _, hF8.set_ 0 _, hO10.t, (by show (fs.N ++ [(⟨s0, x0⟩ : Nm)]).length ≤ 50 ∧ fs.F.length ≤ 50 ∧ fs.O.length ≤ 50; rw [List.length_append, List.length_singleton]; have := HSZ.out; omega), (fun n hn => by
              rcases List.mem_append.1 hn with h | h
              · exact HVN.out n h
              · rw [List.mem_singleton.1 h]; exact HVS.out), (HB7.out.trans (hb8.mono (by omega))).setCell (p := ⟨gf, 0, none⟩) (by show w.heap.size ≤ gf; omega) _⟩
          clear ho8 ho9 hO9 hg9 hO10 hF8 hb8 hg8
          go_wp2_with fail
          go_meet
          case rel => exact HS
      · have hd : decide (0 < (fs.N.length : Int)) = false := decide_eq_false (by omega)
        go_wp2_with fail
        go_meet
        case rel => exact SAME
    · by_cases h0 : 0 < fs.F.length
      · have hd : decide (0 < (fs.F.length : Int)) = true := decide_eq_true (by omega)
        have fz := HF.out.frozen 0
        have hgr := grownBy_set (World.grownBy.refl W (some gf)) 0 (.slice B1 0 d1)
        have ht := HO.out.t.grown HF.out hgr (by decide) (by decide) (by decide) (by decide)
        have HS : Hid (Spo w (W.setCell ⟨gf, 0, none⟩ (.slice B1 0 d1)) gf) := keep ⟨⟨[], fs.F, fs.O⟩, _, _, _, HF.out.set_ 0 _, ⟨Sl.nil _ _ _ _ _, ht.f, ht.o, ht.d⟩, (by show 0 ≤ 50 ∧ fs.F.length ≤ 50 ∧ fs.O.length ≤ 50; have := HSZ.out; omega), (fun n hn => by cases hn), HB.out.setCell (p := ⟨gf, 0, none⟩) (by show w.heap.size ≤ gf; omega) _⟩
        clear hgr ht
        go_wp2_with fail
        go_meet
        case rel => exact HS
      · have hd : decide (0 < (fs.F.length : Int)) = false := decide_eq_false (by omega)
        go_wp2_with fail
        go_meet
        case rel => exact SAME
  case rest =>
    obtain ⟨fk, vN, vF, vO, hFk, hTk, hsz, hnm, hbk⟩ := hcut.out
    obtain ⟨wv, rfl⟩ : ∃ wv : World, wv = wc := ⟨_, rfl⟩
    obtain ⟨C1, e1, rfl, _, _⟩ := hTk.n.form
    obtain ⟨C2, e2, rfl, _, _⟩ := hTk.f.form
    obtain ⟨C3, e3, rfl, _, _⟩ := hTk.o.form
    have hd : Below wv.heap.size wv wv.drew := (Below.refl _ wv).drew
    have HFk := keep (hFk.below hd hFk.lt)
    have HTk := keep (hTk.up hd)
    have HSK := keep hsz
    have HNK := keep hnm
    have HBK := keep (bchain hbk hd)
    obtain ⟨f0, f1, f2⟩ := hFk.cell3
    clear hFk hTk hsz hnm hbk hd hcut HF HO HC HB HVN HSZ
    go_upto_region 23 with fail
    go_region_with (first
      | (go_at_call 33; refine (refCheck_any _ _ _ fk w8 HT8.out (by have := HSK.out; omega) HNK.out).mono ?_; rintro e w9 ⟨bb2, rfl, hb2, hb9⟩
         have HB9 := keep (bchain HB8.out hb9)
         have heq : bb1 = bb2 := by
           cases bb1 <;> cases bb2
           · rfl
           · exact absurd (HQ1.out.2 (hb2.1 rfl)) (by simp)
           · exact absurd (hb2.2 (HQ1.out.1 rfl)) (by simp)
           · rfl
         subst heq
         clear hb2 hb9)
      | (go_at_call 30; refine (check_any _ _ _ fk wv.drew HTk.out (by have := HSK.out; omega) HNK.out).mono ?_; rintro e w8 ⟨bb1, rfl, hb1, hb8⟩
         have HT8 := keep (HTk.out.up hb8)
         have HB8 := keep (bchain HBK.out hb8)
         have HQ1 := keep hb1
         obtain ⟨q0, q1, q2⟩ := (HFk.out.below hb8 HFk.out.lt).cell3
         clear hb1 hb8)
      | fail)
    all_goals
      have hbb : (bb1 == bb1) = true := by simp
      go_wp2_with fail
      go_ret
      exact ⟨rfl, HB9.out⟩
end Go.Proofs.YtldopkdjoejhbaaDoor
