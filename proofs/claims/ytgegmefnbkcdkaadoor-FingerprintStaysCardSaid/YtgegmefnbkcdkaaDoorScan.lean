/- fingerprint.Scan: a map of what is looked at, a range over it, a sort. -/
import Derived.Test.YtgegmefnbkcdkaaDoorScanSort
import Derived.Test.YtgegmefnbkcdkaaDoorKeys
import Derived.Test.YtgegmefnbkcdkaaDoorSort
namespace Go.Proofs.YtgegmefnbkcdkaaDoor
open Go.RowKit Go.Maps
/-- Inodes are small. -/
structure SmI (fs : FS) : Prop where
  f : ∀ t ∈ fs.F, 1 ≤ t.ino ∧ t.ino ≤ 1000000
  n : ∀ t ∈ fs.N, 1 ≤ t.ino ∧ t.ino ≤ 1000000 ∧ t.nm.size ≤ 1000000
  o : ∀ i ∈ fs.O, 1 ≤ i ∧ i ≤ 1000000
def wantL (fs : FS) (p : ByteArray) (j : Nat) : List Int := fs.O ++ ((fs.N.take j).filter fun n => pre p n.nm).map fun n => n.ino
theorem wantL_succ {fs : FS} {p : ByteArray} {j : Nat} (hj : j < fs.N.length) : wantL fs p (j + 1) = wantL fs p j ++ (if pre p fs.N[j].nm = true then [fs.N[j].ino] else []) := by
  unfold wantL
  rw [List.take_succ_eq_append_getElem hj, List.filter_append, List.map_append, List.append_assoc]
  congr 2
  cases h : pre p fs.N[j].nm <;> simp [h]
theorem wantL_yes {fs : FS} {p : ByteArray} {j : Nat} (hj : j < fs.N.length) (h : pre p fs.N[j].nm = true) : wantL fs p (j + 1) = wantL fs p j ++ [fs.N[j].ino] := by rw [wantL_succ hj, if_pos h]
theorem wantL_no {fs : FS} {p : ByteArray} {j : Nat} (hj : j < fs.N.length) (h : pre p fs.N[j].nm = false) : wantL fs p (j + 1) = wantL fs p j := by rw [wantL_succ hj, if_neg (by simp [h]), List.append_nil]
theorem wantL_all (fs : FS) (p : ByteArray) (i : Int) : i ∈ wantL fs p fs.N.length ↔ wantB fs.p p i = true := by
  unfold wantL wantB
  rw [List.take_length, Bool.or_eq_true, List.mem_append]
  refine or_congr (by simp [FS.p]) ?_
  rw [List.any_eq_true, List.mem_map]
  constructor
  · rintro ⟨n, hn, rfl⟩
    obtain ⟨h1, h2⟩ := List.mem_filter.1 hn
    exact ⟨n, h1, by simp [h2]⟩
  · rintro ⟨n, hn, h⟩
    simp only [Bool.and_eq_true, beq_iff_eq] at h
    exact ⟨n, List.mem_filter.2 ⟨hn, h.2⟩, h.1⟩
theorem inos_nodup {fs : FS} (hi : Inv fs) : (inosP fs.p).Nodup := by
  have e : inosP fs.p = fs.F.map (·.ino) := by
    show (fs.F.map Fi.p).map (fun t => t.ino) = _
    rw [List.map_map]; rfl
  rw [e, List.nodup_iff_pairwise_ne, List.pairwise_map]
  exact hi.f.imp fun h => by omega
def ScanOut (fs : FS) (p : ByteArray) (k : Int) (w : World) (x : Ending) (w' : World) : Prop := ∃ v, x = .returned v ∧ w'.ownsRow w.heap.size 45 3 v (scanP fs.p p k).length (sns (scanP fs.p p k)) ∧ Below w.heap.size w w'
theorem see_some {d : PD} {k i : Int} {t : PF} (h : readP d i = some t) (hn : numOk t.data k = true) : seeB d k i = some ⟨numOf t.data k, i, t.data.length⟩ := by
  unfold seeB
  rw [h, Option.bind_some, if_pos hn]
theorem see_no {d : PD} {k i : Int} {t : PF} (h : readP d i = some t) (hn : numOk t.data k = false) : seeB d k i = none := by
  unfold seeB
  rw [h, Option.bind_some, if_neg (by simp [hn])]
theorem see_gone {d : PD} {k i : Int} (h : readP d i = none) : seeB d k i = none := by
  unfold seeB
  rw [h]
  rfl
theorem fm_some {d : PD} {k i : Int} {s : Sn} (ks : List Int) (h : seeB d k i = some s) : (ks ++ [i]).filterMap (seeB d k) = ks.filterMap (seeB d k) ++ [s] := by
  rw [List.filterMap_append]
  simp [h]
theorem fm_none {d : PD} {k i : Int} (ks : List Int) (h : seeB d k i = none) : (ks ++ [i]).filterMap (seeB d k) = ks.filterMap (seeB d k) := by
  rw [List.filterMap_append]
  simp [h]
theorem read_len {fs : FS} (hi : Inv fs) {i : Int} {t : PF} (h : readP fs.p i = some t) : t.data.length ≤ 60000 := by
  unfold readP at h
  obtain ⟨u, hu, rfl⟩ := Option.map_eq_some_iff.1 h
  unfold getP at hu
  have hm := List.mem_of_find?_eq_some hu
  obtain ⟨f, hf, rfl⟩ := List.mem_map.1 hm
  have := hi.d f hf
  simp only [seenP, Fi.p, List.length_take]
  omega
theorem Vis.len {D : DataW Unit} {left : Lit → Bool} {ks T : List Int} (h : Vis D left ks) (hK : Kys D T) : ks.length ≤ T.length :=
  nodup_sub ks T h.1 fun x hx => by
    have h1 := h.2.2 x hx
    rw [hK.2] at h1
    simpa using h1
theorem below_own {w w' : World} {base B e size n : Nat} {v : Value} {xs : List Value} (h : w.ownsRow base e size v n xs) (hg : w.grownBy w' v.ownBlock) (hB : B ≤ base) (hz : B ≤ w.heap.size) : Below B w w' :=
  ⟨hg.os, hg.tape, hg.output, hg.size, fun i hi => hg.block i (by omega) (fun e => by have := (h.lt i e.symm).1; omega)⟩
theorem fm_len {d : PD} {k : Int} (ks : List Int) : (ks.filterMap (seeB d k)).length ≤ ks.length := List.length_filterMap_le _ _
theorem sort_seen (v : Value) (l : List Sn) (base : Nat) (w : World) (hown : w.ownsRow base 45 3 v l.length (sns l)) (hm : l.length ≤ 1000000) :
    Calls Tryd.prog 18 #[v, .func (.func 19) #[] #[]] w fun x w' => x = .returned (.tuple #[]) ∧ w'.ownsRow base 45 3 v l.length (sns (sortS l)) ∧ w.grownBy w' v.ownBlock := by
  have eg : ∀ args w, (callFunc 19 args).run Tryd.prog w = .ok (.enter 19 args) w := enters_of Tryd.func19 (by kernel_rfl) rfl
  have h := sortFunc_own Tryd.sortRow 3 (by decide) Tryd.isAgg45 Tryd.sizeOf45 snV snV_len snV_one cmpS swoS totS 19 #[] eg v l base 45 w (fun b o s => seen_lays b o s w) hown (by omega)
  rw [sort_kit] at h
  exact h
set_option maxHeartbeats 16000000 in
set_option maxRecDepth 100000 in
theorem scan_any (vN vF vO : Value) (fs : FS) (p : ByteArray) (k : Int) (w : World) (h : FsT w vN vF vO fs) (hi : Inv fs) (ho : fs.O.length ≤ 800) (hs : SmI fs) :
    Calls Tryd.prog 10 #[.agg #[vN, vF, vO], .string p, .int .i64 k] w (ScanOut fs p k w) := by
  obtain ⟨A1, c1, rfl, _, _⟩ := h.n.form
  obtain ⟨A2, c2, rfl, _, _⟩ := h.f.form
  obtain ⟨A3, c3, rfl, _, _⟩ := h.o.form
  have hb1 : Below w.heap.size w (w.alloc (.cells #[.slice A1 fs.N.length c1, .slice A2 fs.F.length c2, .slice A3 fs.O.length c3] 33)) := (Below.refl _ w).alloc (Nat.le_refl _) _
  obtain ⟨W1, hW1⟩ : ∃ W1, W1 = w.alloc (.cells #[.slice A1 fs.N.length c1, .slice A2 fs.F.length c2, .slice A3 fs.O.length c3] 33) := ⟨_, rfl⟩
  rw [← hW1] at hb1
  have hF1 : Blk W1 w.heap.size 33 #[.slice A1 fs.N.length c1, .slice A2 fs.F.length c2, .slice A3 fs.O.length c3] := hW1 ▸ Blk.new w _ _
  have hz1 : W1.heap.size = w.heap.size + 1 := by rw [hW1]; simp
  have hmb := World.ownsMap_made (H := Unit) W1 Tryd.prog 3 (plainElem Tryd.prog 9)
  have hbm : Below W1.heap.size W1 (W1.alloc (.map #[] 0)) := (Below.refl _ W1).alloc (Nat.le_refl _) _
  obtain ⟨wm, hwm⟩ : ∃ wm, wm = W1.alloc (.map #[] 0) := ⟨_, rfl⟩
  rw [← hwm, hz1] at hmb
  rw [← hwm] at hbm
  have hFm := hF1.below hbm hF1.lt
  have hBm := bchain hb1 hbm
  have hR := h.r
  have HT := keep h
  have HR := keep hR
  have HF := keep hFm
  have HB := keep hBm
  have HI := keep hi
  have HS := keep hs
  have HMB := keep hmb
  have HW1 := keep hW1
  have HWM := keep hwm
  have HOL : Hid (fs.O.length ≤ 800) := keep ho
  have HNL : Hid (fs.N.length ≤ 40) := keep hi.b
  have hmm := @run_makeMap Tryd.prog
  clear h hi hs ho hb1 hW1 hF1 hz1 hbm hwm hmb hFm hBm hR
  obtain ⟨f0, f1, f2⟩ := HF.out.cell3
  go_enter Tryd.func10, Tryd.ntmps10
  go_wp2_with fail
  rw [← HW1.out, ← HWM.out]
  clear HW1 HWM hmm f0 f1 f2
  obtain ⟨B, hB⟩ : ∃ B, w.heap.size + 1 = B := ⟨_, rfl⟩
  rw [hB] at HMB ⊢
  have hlB : w.heap.size < B := by omega
  have hneB : some w.heap.size ≠ some B := fun e => by injection e; omega
  clear hB
  go_loopw [9, 22] (fun _ i wr => ∃ (j : Nat) (D : DataW Unit), j ≤ fs.O.length ∧ i = .int .i64 j ∧ Hid (wr.ownsMap Tryd.prog 3 (plainElem Tryd.prog 9) B j D) ∧ Hid (Kys D (fs.O.take j)) ∧ Hid (Below w.heap.size w wr) ∧ Hid (Blk wr w.heap.size 33 #[.slice A1 fs.N.length c1, .slice A2 fs.F.length c2, .slice A3 fs.O.length c3])) (fun _ i _ => fs.O.length - (intOf i).toNat)
  case atStart => exact ⟨0, .map [], Nat.zero_le _, rfl, HMB, keep Kys.empty, HB, HF⟩
  case round =>
    obtain ⟨j, D, hj, rfl, hM, hK, hBr, hFr⟩ := hrel
    obtain ⟨wo, rfl⟩ : ∃ wo : World, wo = wr := ⟨_, rfl⟩
    have hol := HOL.out
    by_cases hlt : j < fs.O.length
    · obtain ⟨b, o, u, rfl, hb, hu, c0⟩ := (HR.out.o.below hBr.out (Nat.le_refl _)).at_ hlt
      obtain ⟨x, hx⟩ : ∃ x, fs.O[j] = x := ⟨_, rfl⟩
      obtain rfl : u = .int .i64 x := by
        rw [ints, List.getElem?_map, List.getElem?_eq_getElem hlt, hx] at hu
        exact (Option.some.inj hu).symm
      have hxb := HS.out.o _ (List.getElem_mem hlt)
      rw [hx] at hxb
      have HX := keep hx
      have hkey := keyI (i := x) (wf_i64 (by omega) (by omega))
      have HKEY := keep hkey
      have hjl : j < maxLen := by unfold maxLen; omega
      have i1 : (j : Int) < (fs.O.length : Int) := by omega
      have i2 : (j : Int) ≤ 1000000 := by omega
      clear hx hu hxb hkey
      go_wp2_with (at_mapUpdate; refine wpList_mapUpdate_own _ rfl _ _ _ 55 rfl 3 9 lawI Tryd.underlying55 _ B j _ rfl hM.out hjl _ _ _ rfl rfl HKEY.out _ [] (plainElem_string Tryd.underlying9 (s := ⟨#[]⟩) (by decide)) ?_; intro w7 hown7 hgr7)
      have HM7 := keep hown7
      have HK7 : Hid (Kys (D.put (.int .i64 x) (.lit (.string (⟨#[]⟩ : ByteArray).data.toList))) (fs.O.take (j + 1))) := keep (by
        rw [List.take_succ_eq_append_getElem hlt, HX.out]
        exact hK.out.put _ _)
      have HB7 := keep (below_grown hBr.out hgr7 hBr.out.size (by omega))
      have HF7 := keep (hFr.out.grown hgr7 hneB)
      clear hown7 hgr7
      go_roundw
      case rel => exact ⟨j + 1, _, by omega, by go_num, HM7, HK7, HB7, HF7⟩
      case measure => simp [intOf]; omega
    · obtain rfl : j = fs.O.length := by omega
      have hK' := hK.out
      rw [List.take_length] at hK'
      have hw0 : fs.O = wantL fs p 0 := by simp [wantL]
      rw [hw0] at hK'
      have HK := keep hK'
      obtain ⟨f0, f1, f2⟩ := hFr.out.cell3
      clear hK hK' hw0 HMB HB HF hlt hj
      go_wp2_with fail
      go_loopw [11, 32] (fun _ i wr => ∃ (j : Nat) (D : DataW Unit), j ≤ fs.N.length ∧ i = .int .i64 j ∧ Hid (wr.ownsMap Tryd.prog 3 (plainElem Tryd.prog 9) B (fs.O.length + j) D) ∧ Hid (Kys D (wantL fs p j)) ∧ Hid (Below w.heap.size w wr) ∧ Hid (Blk wr w.heap.size 33 #[.slice A1 fs.N.length c1, .slice A2 fs.F.length c2, .slice A3 fs.O.length c3])) (fun _ i _ => fs.N.length - (intOf i).toNat)
      case atStart => exact ⟨0, D, Nat.zero_le _, rfl, keep hM.out, HK, hBr, hFr⟩
      case round =>
        clear hM HK hBr hFr f0 f1 f2 D
        obtain ⟨j, D, hj, rfl, hM, hK, hBr, hFr⟩ := hrel
        obtain ⟨wp, rfl⟩ : ∃ wp : World, wp = wr := ⟨_, rfl⟩
        have hnl := HNL.out
        by_cases hlt : j < fs.N.length
        · obtain ⟨b, o, rfl, hb, n0, n1⟩ := nm_cells (HR.out.n.below hBr.out (Nat.le_refl _)) hlt
          have hxb := HS.out.n _ (List.getElem_mem hlt)
          have hyes := wantL_yes (p := p) hlt
          have hno := wantL_no (p := p) hlt
          generalize fs.N[j] = t at n0 n1 hxb hyes hno
          obtain ⟨nm, ino⟩ := t
          simp only at n0 n1 hxb hyes hno
          have HYES := keep hyes
          have HNO := keep hno
          have HKEY := keep (keyI (i := ino) (wf_i64 (by omega) (by omega)))
          have HEL := keep (plainElem_string (H := Unit) Tryd.underlying9 (s := nm) (by unfold maxLen; omega))
          have HJL : Hid (fs.O.length + j < maxLen) := keep (by unfold maxLen; omega)
          have i1 : (j : Int) < (fs.N.length : Int) := by omega
          have i2 : (j : Int) ≤ 1000000 := by omega
          clear hxb hyes hno hol hnl
          have HMa := keep (hM.out.alloc (.cells #[.string nm, .int .i64 ino] 57))
          have hal : Below wp.heap.size wp (wp.alloc (.cells #[.string nm, .int .i64 ino] 57)) := (Below.refl _ wp).alloc (Nat.le_refl _) _
          have HBa := keep (bchain hBr.out hal)
          have HFa := keep (hFr.out.below hal hFr.out.lt)
          clear hal
          go_wp2_with fail
          refine (strPrefix_any nm p _).mono ?_
          rintro e w5 ⟨rfl, rfl⟩
          cases hp : pre p nm with
          | true =>
            have HY := keep (HYES.out hp)
            clear hp HYES HNO
            go_wp2_with (at_mapUpdate; refine wpList_mapUpdate_own _ rfl _ _ _ 55 rfl 3 9 lawI Tryd.underlying55 _ B (fs.O.length + j) _ rfl HMa.out HJL.out _ _ _ rfl rfl HKEY.out _ [] HEL.out ?_; intro w7 hown7 hgr7)
            have HM7 := keep hown7
            have HK7 : Hid (Kys (D.put (.int .i64 ino) (.lit (.string nm.data.toList))) (wantL fs p (j + 1))) := keep (by
              rw [HY.out]
              exact hK.out.put _ _)
            have HB7 := keep (below_grown HBa.out hgr7 HBa.out.size (by omega))
            have HF7 := keep (HFa.out.grown hgr7 hneB)
            clear hown7 hgr7
            go_roundw
            case rel => exact ⟨j + 1, _, by omega, by go_num, HM7, HK7, HB7, HF7⟩
            case measure => simp [intOf]; omega
          | false =>
            have HK7 : Hid (Kys D (wantL fs p (j + 1))) := keep (by rw [HNO.out hp]; exact hK.out)
            have HM7 := keep (HMa.out.mono (show fs.O.length + j ≤ fs.O.length + (j + 1) by omega))
            clear hp HYES HNO
            go_wp2_with fail
            go_roundw
            case rel => exact ⟨j + 1, _, by omega, by go_num, HM7, HK7, HBa, HFa⟩
            case measure => simp [intOf]; omega
        · obtain rfl : j = fs.N.length := by omega
          clear hlt hj hol hnl
          have HKD := keep hK.out
          clear hK
          go_wp2_with (at_range; refine wpList_range_own _ rfl _ 55 rfl 3 9 lawI Tryd.underlying55 _ B (fs.O.length + fs.N.length) D rfl hM.out ?_; intro w0 hrg0 hg0 hs0)
          go_frame
          obtain ⟨R, hR⟩ : ∃ R, wp.heap.size = R := ⟨_, rfl⟩
          have hBl : B < wp.heap.size := hM.out.lt
          have hb0 := below_of_none hg0
          have HB0 := keep (bchain hBr.out hb0)
          have HF0 := keep (hFr.out.below hb0 hFr.out.lt)
          rw [hR] at hrg0 hBl hs0 ⊢
          have HRG0 := keep hrg0
          have hRb : R < w0.heap.size := by omega
          have hBb : B < w0.heap.size := by omega
          have hneR : some w.heap.size ≠ some R := fun e => by injection e; omega
          have hN0 : Hid (w0.ownsRow w0.heap.size 45 3 (.slice none 0 0) 0 []) := keep (World.ownsRow_nil _ _ _ _)
          obtain ⟨n0, hn0⟩ : ∃ n0, fs.O.length + fs.N.length = n0 := ⟨_, rfl⟩
          rw [hn0] at HRG0
          have HN0 : Hid (n0 ≤ 840) := keep (by have := HOL.out; have := HNL.out; omega)
          have HWL : Hid ((wantL fs p fs.N.length).length ≤ 840) := keep (by
            unfold wantL
            rw [List.length_append, List.length_map]
            have h1 := List.length_filter_le (fun n : Nm => pre p n.nm) (fs.N.take fs.N.length)
            have h2 := List.length_take_le fs.N.length fs.N
            have := HOL.out
            have := HNL.out
            omega)
          clear hM hrg0 hg0 hs0 hb0 hR hn0 hBr hFr
          go_loopw [12, 13, 14, 15, 16, 17] (fun u12 _ _ _ _ _ wr => ∃ (left : Lit → Bool) (cnt : Nat) (ks : List Int) (v : Value), u12 = v ∧ Hid (wr.ranges Tryd.prog 3 (plainElem Tryd.prog 9) B R n0 D left cnt) ∧ Hid (Vis D left ks) ∧ Hid (wr.ownsRow w0.heap.size 45 3 v (ks.filterMap (seeB fs.p k)).length (sns (ks.filterMap (seeB fs.p k)))) ∧ Hid (Below w.heap.size w wr) ∧ Hid (w0.heap.size ≤ wr.heap.size) ∧ Hid (Blk wr w.heap.size 33 #[.slice A1 fs.N.length c1, .slice A2 fs.F.length c2, .slice A3 fs.O.length c3])) (fun _ _ _ _ _ _ wr => wr.rangeLeft B R)
          case atStart => exact ⟨_, _, [], _, rfl, HRG0, keep (Vis.start D), hN0, HB0, keep (Nat.le_refl _), HF0⟩
          case round =>
            clear HRG0 hN0 HB0 HF0
            obtain ⟨left, cnt, ks, v, rfl, hrg, hV, hO, hBr, hZr, hFr⟩ := hrel
            obtain ⟨wq, rfl⟩ : ∃ wq : World, wq = wr := ⟨_, rfl⟩
            obtain ⟨A, c, rfl, _⟩ := own_sl hO.out
            have HKL : Hid (ks.length ≤ 840) := keep (by have h1 := hV.out.len HKD.out; have := HWL.out; omega)
            go_wp2_with (at_next; refine wpList_next_is _ rfl _ rfl B R n0 D left cnt rfl hrg.out ?_ ?_)
            · intro _ hdone
              have hks := hV.out.done hdone HKD.out
              have hsc : sortS (ks.filterMap (seeB fs.p k)) = scanP fs.p p k := scan_keys ks hV.out.1 (inos_nodup HI.out) (fun i => (hks i).trans (wantL_all fs p i))
              have hl2 : (scanP fs.p p k).length = (ks.filterMap (seeB fs.p k)).length := by rw [← hsc]; exact List.length_mergeSort _
              have HSC := keep hsc
              have HL2 := keep hl2
              have HL := keep (fm_len (d := fs.p) (k := k) ks)
              clear hdone hks hsc hl2 hrg
              go_wp2_with fail
              refine (sort_seen _ (ks.filterMap (seeB fs.p k)) w0.heap.size wq hO.out (by have := HKL.out; have := HL.out; omega)).mono ?_
              rintro e w5 ⟨rfl, ho5, hg5⟩
              rw [HSC.out] at ho5
              have HO5 := keep ho5
              have HG5 := keep (below_own hO.out hg5 (show w.heap.size ≤ w0.heap.size by omega) hBr.out.size)
              clear ho5 hg5
              go_wp2_with fail
              go_ret
              refine ⟨_, rfl, ?_, hBr.out.trans HG5.out⟩
              rw [HL2.out]
              exact own_base HO5.out (by omega)
            · intro x s w1 cnt1 hwf hl hrg1 hlt1 hg1 hs1 hen
              have hV1 := hV.out.step hl
              have hb1 : Below w.heap.size w w1 := below_grown hBr.out hg1 hBr.out.size (by omega)
              have HB1 := keep hb1
              have HF1 := keep (hFr.out.grown hg1 hneR)
              have HO1 := keep (own_grown hO.out hg1 hRb)
              have HV1 := keep hV1
              have HRG1 := keep hrg1
              have HLT1 := keep hlt1
              have hz1 : w0.heap.size ≤ w1.heap.size := by rw [hs1]; exact hZr.out
              have HRD := keep (read_any _ _ _ fs x w1 (HT.out.up hb1) HI.out HOL.out)
              have HLE := keep hrg.out.left_eq
              obtain ⟨f0, f1, f2⟩ := HF1.out.cell3
              clear hwf hl hrg1 hlt1 hg1 hs1 hV1 hb1 hrg hV hO hBr hZr hFr
              go_wp2_with fail
              refine HRD.out.mono ?_
              rintro e w5 ⟨dv, rfl, hd5, hb5⟩
              have hA : (readP fs.p x).isSome = true → readP fs.p x = some ((readP fs.p x).getD zeroF) := fun h => by
                obtain ⟨t, ht⟩ := Option.isSome_iff_exists.1 h
                rw [ht]; rfl
              have hN : (readP fs.p x).isSome = false → readP fs.p x = none := fun h => by simpa using h
              have hD : ((readP fs.p x).getD zeroF).data.length ≤ 60000 := by
                cases hq : readP fs.p x with
                | none => simp [zeroF]
                | some t => exact read_len HI.out hq
              generalize (readP fs.p x).getD zeroF = t at hd5 hA hD
              generalize (readP fs.p x).isSome = ok at hA hN
              obtain ⟨ino, data, cp, wh, left2⟩ := t
              simp only at hd5 hA hD
              simp only [fileV]
              obtain ⟨DA, DC, rfl, _, _⟩ := hd5.form
              have hal : Below w5.heap.size w5 (w5.alloc (.cells #[.int .i64 ino, .slice DA data.length DC, .bool cp, .bool wh, .int .i64 left2] 60)) := (Below.refl _ w5).alloc (Nat.le_refl _) _
              have hb6 := bchain hb5 hal
              have hbs : BSl (w5.alloc (.cells #[.int .i64 ino, .slice DA data.length DC, .bool cp, .bool wh, .int .i64 left2] 60)) (u8B w5) (.slice DA data.length DC) data := hd5.keep fun q hq => hal.cell hq.lt_
              have HBS := keep hbs
              have HX6 := keep (Blk.new w5 60 #[.int .i64 ino, .slice DA data.length DC, .bool cp, .bool wh, .int .i64 left2])
              have HB6 := keep (HB1.out.trans (hb6.mono HB1.out.size))
              have HF6 := keep (HF1.out.below hb6 HF1.out.lt)
              have HO6 := keep (own_bel HO1.out hb6)
              have HRG6 := keep (HRG1.out.kept (grownBy_of_below hb6 none) (by simp) (by simp))
              have hz6 : w0.heap.size ≤ (w5.alloc (.cells #[.int .i64 ino, .slice DA data.length DC, .bool cp, .bool wh, .int .i64 left2] 60)).heap.size := Nat.le_trans hz1 hb6.size
              have HAA := keep hA
              have HNN := keep hN
              have hdi : (data.length : Int) ≤ 60000 := by omega
              clear hA hN hD hd5 hb5 hal hb6 hbs f0 f1 f2 HRD HB1 HF1 HO1 HRG1
              cases hok : numOk data k with
              | false =>
                have HNO := keep (number_no _ data k _ _ HBS.out hok)
                have hsee : seeB fs.p k x = none := by
                  cases ok
                  · exact see_gone (HNN.out rfl)
                  · exact see_no (HAA.out rfl) hok
                have HL7 : Hid ((ks ++ [x]).filterMap (seeB fs.p k) = ks.filterMap (seeB fs.p k)) := keep (fm_none ks hsee)
                clear hsee hok
                go_wp2_with fail
                refine HNO.out.mono ?_
                rintro e w7 ⟨rfl, rfl⟩
                cases ok
                all_goals
                  go_wp2_with fail
                  go_roundw
                  case rel => exact ⟨_, _, ks ++ [x], _, rfl, HRG6, HV1, keep (by rw [HL7.out]; exact HO6.out), HB6, keep hz6, HF6⟩
                  case measure => rw [HRG6.out.left_eq, HLE.out]; exact HLT1.out
              | true =>
                have hok2 := numOk_iff.1 hok
                have hq := number_ok _ data k _ _ HBS.out hok
                have hnum : numOf data k = nfold (data.take k.toNat) := by unfold numOf; rw [if_pos hok]
                generalize nfold (data.take k.toNat) = q at hq hnum
                have HQ := keep hq
                cases ok with
                | false =>
                  have HL7 : Hid ((ks ++ [x]).filterMap (seeB fs.p k) = ks.filterMap (seeB fs.p k)) := keep (fm_none ks (see_gone (HNN.out rfl)))
                  clear hok hok2 hq hnum
                  go_wp2_with fail
                  refine HQ.out.mono ?_
                  rintro e w7 ⟨rfl, rfl⟩
                  go_wp2_with fail
                  go_roundw
                  case rel => exact ⟨_, _, ks ++ [x], _, rfl, HRG6, HV1, keep (by rw [HL7.out]; exact HO6.out), HB6, keep hz6, HF6⟩
                  case measure => rw [HRG6.out.left_eq, HLE.out]; exact HLT1.out
                | true =>
                  have hsee := see_some (HAA.out rfl) hok
                  simp only [hnum] at hsee
                  have HL7 : Hid ((ks ++ [x]).filterMap (seeB fs.p k) = ks.filterMap (seeB fs.p k) ++ [⟨q, x, data.length⟩]) := keep (fm_some ks hsee)
                  have hfl := fm_len (d := fs.p) (k := k) ks
                  have HFL : Hid ((ks.filterMap (seeB fs.p k)).length ≤ 840) := keep (by have := HKL.out; omega)
                  clear hok hok2 hq hnum hsee hfl
                  go_wp2_with fail
                  refine HQ.out.mono ?_
                  rintro e w7 ⟨rfl, rfl⟩
                  go_wp2_with (refine wpList_push elSn rfl rfl _ _ _ rfl rfl rfl w0.heap.size _ (.agg #[.int .i64 q, .int .i64 x, .int .i64 data.length]) (ks.filterMap (seeB fs.p k)).length _ rfl (fun _ => rfl) (fun _ => rfl) HO6.out rfl (by intro c hc; simp [Value.cells] at hc; rcases hc with rfl | rfl | rfl <;> rfl) (by decide) (by have := HFL.out; unfold maxLen; omega) (by have := HFL.out; omega) hz6 ?_; intro g cap w9 hown9 hb9 hg9 _ _)
                  have HO9 : Hid (w9.ownsRow w0.heap.size 45 3 (.slice (some ⟨g, 0, none⟩) ((ks.filterMap (seeB fs.p k)).length + 1) cap) ((ks ++ [x]).filterMap (seeB fs.p k)).length (sns ((ks ++ [x]).filterMap (seeB fs.p k)))) := keep (by
                    rw [HL7.out, List.length_append, sns_append]
                    exact hown9)
                  have HB9 := keep (HB6.out.trans (hb9.mono (show w.heap.size ≤ w0.heap.size by omega)))
                  have HF9 := keep (HF6.out.below hb9 (show w.heap.size < w0.heap.size by omega))
                  have HRG9 := keep (HRG6.out.kept hg9 (row_ne_low HO6.out hBb) (row_ne_low HO6.out hRb))
                  have hz9 := hg9.size
                  clear hown9 hb9 hg9
                  go_roundw
                  case rel => exact ⟨_, _, ks ++ [x], _, rfl, HRG9, HV1, HO9, HB9, keep (Nat.le_trans hz6 hz9), HF9⟩
                  case measure => rw [HRG9.out.left_eq, HLE.out]; exact HLT1.out
end Go.Proofs.YtgegmefnbkcdkaaDoor
