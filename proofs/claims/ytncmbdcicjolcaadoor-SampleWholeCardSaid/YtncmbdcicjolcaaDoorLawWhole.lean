/- SampleWhole: the walk of the statement. -/
import Derived.Test.YtncmbdcicjolcaaDoorLawCounts
import Derived.Test.YtncmbdcicjolcaaDoorLawDecides
import Derived.Test.YtncmbdcicjolcaaDoorCounts
namespace Go.Proofs.YtncmbdcicjolcaaDoor
open Go.RowKit Go.Maps

theorem Sl.upE {w w' : World} {size n : Nat} {v : Value} {xs : List Value} (h : Sl w (lt w.heap.size) size v n xs) (hb : Below w.heap.size w w') : Sl w' (lt w'.heap.size) size v n xs := (h.below hb (Nat.le_refl _)).more hb.size
theorem smp_le (l : List (ByteArray × Int)) (key : Int) (E : List Ev) : (smp l key E).length ≤ E.length := by
  have := smp_len l key E E.length
  rwa [List.take_length] at this
theorem smp_s {l : List (ByteArray × Int)} {key : Int} {E : List Ev} (h : ∀ e ∈ E, EvS e) : ∀ e ∈ smp l key E, EvS e := by
  intro e he
  unfold smp at he
  obtain ⟨a, ha, rfl⟩ := List.mem_map.1 he
  have := h a (List.mem_filter.1 ha).1
  exact ⟨this.ln, this.fd, this.tr⟩
theorem keep_mod (k : Int) (t : ByteArray) (w : Int) : keepB (k + 5040) t w = keepB k t w := by
  unfold keepB
  rw [show (k + 5040) % 5040 = k % 5040 by omega]
theorem keep_half (k : Int) (t : ByteArray) (w : Int) (hw : 1 ≤ w) (h : keepB k t (2 * w) = true) : keepB k t w = true := by
  unfold keepB at h ⊢
  have h1 := of_decide_eq_true h
  refine decide_eq_true (Int.lt_of_lt_of_le h1 ?_)
  rw [Int.mul_comm, ← Int.ediv_ediv_of_nonneg (by omega)]
  have : 0 ≤ 5040 / w := Int.ediv_nonneg (by omega) (by omega)
  omega
theorem keep_one (k : Int) (t : ByteArray) : keepB k t 1 = true := by
  unfold keepB
  exact decide_eq_true (by simp only [Int.ediv_one]; exact Int.emod_lt_of_pos _ (by omega))
theorem wf_small {c : Int} (h : 0 ≤ c ∧ c ≤ 100) : (Lit.int .i64 (c + 1)).wf = true := by
  simp [Lit.wf, IntKind.min, IntKind.max, IntKind.signed, IntKind.bits]
  omega
set_option maxRecDepth 100000 in
theorem law_whole_long (vc : Value) (key : Int) (s : ByteArray) (w : World) (h : Divs w w.heap.size) (hl : 100 < s.size) :
    Calls Tryd.prog 5 #[vc, .int .i64 key, .string s] w fun e w' => e = .returned (.bool true) ∧ Below w.heap.size w w' := by
  go_enter Tryd.func5, Tryd.ntmps5
  go_wp2_with fail
  refine (awake_true _ h).mono ?_
  rintro e w1 ⟨rfl, hb1⟩
  have hl' : (100 : Int) < (s.size : Int) := by omega
  go_wp2_with fail
  go_ret
  exact ⟨rfl, hb1⟩
set_option maxHeartbeats 8000000 in
set_option maxRecDepth 100000 in
theorem law_whole (vc : Value) (bs : List Int) (key : Int) (s : ByteArray) (w : World) (h : Divs w w.heap.size) (hl : s.size ≤ 100) (hk0 : -9223372036854775808 ≤ key) (hk1 : key ≤ 9223372036854775807)
    (hsc : Sl w (lt w.heap.size) 1 vc bs.length (bs.map (.int .u8))) (hr : ∀ x ∈ bs, 0 ≤ x ∧ x ≤ 255) (hm : bs.length ≤ maxLen) :
    Calls Tryd.prog 5 #[vc, .int .i64 key, .string s] w fun e w' => e = .returned (.bool true) ∧ Below w.heap.size w w' := by
  have HK := keep (And.intro hk0 hk1)
  clear hk0 hk1
  have hmm := @run_makeMap Tryd.prog
  have hsm : s.size ≤ maxLen := by unfold maxLen; omega
  have HSM := keep hsm
  clear hsm
  have hl1 : (s.size : Int) ≤ 100 := by omega
  go_enter Tryd.func5, Tryd.ntmps5
  go_wp2_with fail
  refine (awake_true _ h).mono ?_
  rintro e w1 ⟨rfl, hb1⟩
  have hS1 := hsc.upE hb1
  clear hsc
  go_wp2_with fail
  refine (drawNew _ bs 240 _ hS1 hr (by omega) hm).mono ?_
  rintro e w2 ⟨gc, rfl, hgc, hC2, hb2⟩
  have hbw2 := bchain hb1 hb2
  have hgl := hC2.lt_
  have hz1 := hb1.size
  clear hS1 hb1 hb2
  go_wp2_with fail
  refine (samplings_any gc _ hC2).mono ?_
  rintro e w3 ⟨v3, l, rfl, hl2, hll, hown, hC3, hG⟩
  clear hll hC2
  go_wp2_with fail
  refine (events_any gc 8 _ hC3 (by omega)).mono ?_
  rintro e w4 ⟨v4, D, rfl, hown4, hD5, hDok, hC4, hG4⟩
  replace hown := own_grown hown hG4 hgl
  have hG5 := grownBy_trans hG hG4
  have hz3 := hG.size
  have hb7 : Below w.heap.size w w4 := below_grown hbw2 hG5 hbw2.size (by omega)
  obtain ⟨E, hE⟩ : ∃ E, D.map (·.1) = E := ⟨_, rfl⟩
  have hlen : D.length = E.length := by rw [← hE, List.length_map]
  have hES : ∀ e ∈ E, EvS e := by
    intro e he
    rw [← hE] at he
    obtain ⟨t, ht, rfl⟩ := List.mem_map.1 he
    exact (hDok t ht).shapes
  rw [hE, hlen] at hown4
  rw [hlen] at hD5
  have hSl := Sl.of_own hown
  have hSe := Sl.of_own hown4
  have hDW := h.below hb7
  have hzW := hb7.size
  have HES := keep hES
  have e5 : (E.length : Int) ≤ 8 := by omega
  have e6 : E.length ≤ 1000000 := by omega
  have l6 : l.length ≤ 1000000 := by omega
  clear hE hlen hDok hC4 hG4 hG5 hG hC3 hown hown4 hbw2 hES D hl2
  go_wp2_with fail
  have hba : Below w4.heap.size w4 (w4.alloc (.map #[] 0)) := (Below.refl _ w4).alloc (Nat.le_refl _) _
  have hma := World.ownsMap_made (H := Unit) w4 Tryd.prog 9 (plainElem Tryd.prog 3)
  have hza : (w4.alloc (.map #[] 0)).heap.size = w4.heap.size + 1 := by simp
  obtain ⟨wa, hwa⟩ : ∃ wa, wa = w4.alloc (.map #[] 0) := ⟨_, rfl⟩
  rw [← hwa] at hba hma hza ⊢
  clear hwa
  obtain ⟨B, hB⟩ : ∃ B, w4.heap.size = B := ⟨_, rfl⟩
  have HZA := keep hza
  clear hza
  have hSe4 := hSe
  rw [hB] at hma ⊢
  refine (apply_any v3 l key v4 E wa _ (hDW.below (hba.mono hzW)) (Nat.le_trans hzW hba.size) (hSl.upE hba) l6 HES.out (hSe.upE hba) e6).mono ?_
  rintro e w5 ⟨v5, rfl, ho5, hb5⟩
  have hmk := hma.kept (grownBy_of_below hb5 none) (by simp)
  have hz5 := hb5.size
  have hS5 : Sl w5 (btw (B + 1) w5.heap.size) 10 v5 (smp l key E).length (evV (smp l key E)) := (Sl.of_own_btw ho5).mono fun b hb => ⟨by have := HZA.out; omega, hb.2⟩
  have hb45 := bchain hba hb5
  have hle := smp_le l key E
  have HXS := keep (smp_s (l := l) (key := key) HES.out)
  have HW := keep (smp_whole l key E)
  generalize smp l key E = X at hle HXS HW hS5 ho5
  have hBl : B < w5.heap.size := by have := HZA.out; omega
  clear ho5 hma hba hb5
  obtain ⟨A5, c5, rfl, hc5, hS5⟩ := hS5.form
  have x5 : (X.length : Int) ≤ 8 := by omega
  have x6 : X.length ≤ 8 := by omega
  clear hle
  go_wp2_with fail
  go_loopw [12, 38] (fun _ i wr => ∃ (k : Nat) (D : DataW Unit), k ≤ X.length ∧ i = .int .i64 k ∧ Hid (wr.ownsMap Tryd.prog 9 (plainElem Tryd.prog 3) B k D) ∧ Hid (Cnt D (trs (X.take k))) ∧ Hid (w5.grownBy wr (some B))) (fun _ i _ => X.length - (intOf i).toNat)
  case atStart => exact ⟨0, .map [], Nat.zero_le _, rfl, keep hmk, keep Cnt.empty, keep (World.grownBy.refl _ _)⟩
  case round =>
    obtain ⟨k, D, hk, rfl, hM, hC, hG⟩ := hrel
    obtain ⟨wo, rfl⟩ : ∃ wo : World, wo = wr := ⟨_, rfl⟩
    by_cases hlt : k < X.length
    · obtain ⟨b, o, rfl, hb, c0, c1, c2, c3, c4, c5', c6, c7, c8, c9⟩ := ev_cells (hS5.grown hG.out (fun b hb => ⟨hb.2, by intro e; injection e with e; have := hb.1; omega⟩)) hlt
      have hXW := HXS.out _ (List.getElem_mem hlt)
      have htk := trs_take hlt
      have hcl := trs_count_le (X.take k) X[k].tr.data.toList
      rw [List.length_take] at hcl
      generalize X[k] = e at c0 c1 c2 c3 c4 c5' c6 c7 c8 c9 hXW htk hcl
      obtain ⟨vho, vfi, vfr, vto, vln, vti, vwt, vtr, vst, vfd⟩ := e
      obtain ⟨⟨lA, ln, lc, hln⟩, ⟨fA, fn, fc, hfd⟩, htr⟩ := hXW
      simp only at hln hfd htr c0 c1 c2 c3 c4 c5' c6 c7 c8 c9 htk hcl
      subst hln
      subst hfd
      have HTK := keep htk
      have hts : vtr.size ≤ maxLen := by unfold maxLen; omega
      have HTS := keep hts
      have HCL := keep hcl
      clear htr htk hts hcl
      have i1 : (k : Int) < (X.length : Int) := by omega
      have k1 : (k : Int) ≤ 1000000 := by omega
      have hkl : k < maxLen := by unfold maxLen; omega
      go_wp2_with (first
        | (at_mapUpdate; refine wpList_mapUpdate_own _ rfl _ _ _ 43 rfl 9 3 law9 Tryd.underlying43 _ B k _ rfl (hM.out.alloc _) hkl _ _ _ rfl rfl (key9 HTS.out) _ [] (plainElem_int Tryd.underlying3 (wf_small hc0)) ?_; intro w7 hown7 hgr7)
        | (at_lookup; refine wpList_lookup_own_int _ rfl _ _ 43 rfl 9 3 .i64 law9 Tryd.underlying43 Tryd.underlying3 (zero3 _) B k _ rfl (hM.out.alloc _) _ _ rfl (key9 HTS.out) ?_; intro c hat hwc; have HCC := keep (hC.out.look hat); have hc0 : 0 ≤ c ∧ c ≤ 100 := (by have h1 := HCC.out; have h2 := HCL.out; omega); have hc1 := hc0.1; have hc2 := hc0.2; clear hat hwc))
      go_roundw
      case rel => exact ⟨k + 1, _, by omega, by go_num, keep hown7, keep (by rw [HTK.out]; exact hC.out.step _ (by rw [HCC.out])), keep (grownBy_trans hG.out (grownBy_trans (World.grownBy_alloc wo _ (some B)) hgr7))⟩
      case measure => simp [intOf]; omega
    · obtain rfl : k = X.length := by omega
      rw [List.take_length] at hC
      clear hmk hk hlt HXS
      have hb4r : Below B w4 wo := below_grown (hB ▸ hb45) hG.out (hB ▸ hb45.size) (Nat.le_refl _)
      rw [← hB] at hb4r
      have hSe4 := hSe.below hb4r (Nat.le_refl _)
      have hb0r := hb7.trans (hb4r.mono hzW)
      have hz4r := hb4r.size
      have hDr := hDW.below (hb4r.mono hzW)
      clear hS5 hSe hb45 hSl hb7 hDW
      obtain ⟨A4, c4, rfl, hc4, hSe4⟩ := hSe4.form
      have HZ4 := keep hz4r
      have hBr : B < wo.heap.size := Nat.lt_of_lt_of_le hBl hG.out.size
      clear hz4r
      obtain ⟨Dk, hDk⟩ : ∃ Dk, D = Dk := ⟨_, rfl⟩
      rw [hDk] at hM hC
      clear hDk D hG
      go_wp2_with fail
      have hmb := World.ownsMap_made (H := Unit) wo Tryd.prog 9 (plainElem Tryd.prog 3)
      have hMk := hM.out.alloc (.map #[] 0)
      have hbm : Below wo.heap.size wo (wo.alloc (.map #[] 0)) := (Below.refl _ wo).alloc (Nat.le_refl _) _
      have hzm : (wo.alloc (.map #[] 0)).heap.size = wo.heap.size + 1 := by simp
      obtain ⟨wm, hwm⟩ : ∃ wm, wm = wo.alloc (.map #[] 0) := ⟨_, rfl⟩
      rw [← hwm] at hbm hmb hzm hMk ⊢
      clear hwm hM
      obtain ⟨B2, hB2⟩ : ∃ B2, wo.heap.size = B2 := ⟨_, rfl⟩
      have HZM := keep hzm
      have HB2 := keep hB2
      clear hzm
      rw [hB2] at hmb hBr ⊢
      have hSm : Sl wm (lt B) 10 (.slice A4 E.length c4) E.length (evV E) := by rw [← hB]; exact hSe4.below hbm (HZ4.out)
      have hb0m := bchain hb0r hbm
      have HMK := keep hMk
      have HMB := keep hmb
      have HKC := keep hC
      clear hSe4 hb0r hbm hmb hMk hB2 hC
      have hBB : B ≠ B2 := by omega
      go_loopw [15, 51] (fun _ i wr => ∃ (k : Nat) (D : DataW Unit), k ≤ E.length ∧ i = .int .i64 k ∧ Hid (wr.ownsMap Tryd.prog 9 (plainElem Tryd.prog 3) B2 k D) ∧ Hid (Cnt D (trs (E.take k))) ∧ Hid (wm.grownBy wr (some B2))) (fun _ i _ => E.length - (intOf i).toNat)
      case atStart => exact ⟨0, .map [], Nat.zero_le _, rfl, HMB, keep Cnt.empty, keep (World.grownBy.refl _ _)⟩
      case round =>
        obtain ⟨k, D, hk, rfl, hM, hC, hG⟩ := hrel
        obtain ⟨wo2, rfl⟩ : ∃ wo2 : World, wo2 = wr := ⟨_, rfl⟩
        by_cases hlt : k < E.length
        · obtain ⟨b, o, rfl, hb, c0, c1, c2, c3, c4', c5', c6, c7, c8, c9⟩ := ev_cells (hSm.grown hG.out (fun b hb => ⟨by have := HZM.out; have := HB2.out; have hb' : b < B := hb; omega, by intro e; injection e with e; have hb' : b < B := hb; omega⟩)) hlt
          have hXW := HES.out _ (List.getElem_mem hlt)
          have htk := trs_take hlt
          have hcl := trs_count_le (E.take k) E[k].tr.data.toList
          rw [List.length_take] at hcl
          generalize E[k] = e at c0 c1 c2 c3 c4' c5' c6 c7 c8 c9 hXW htk hcl
          obtain ⟨vho, vfi, vfr, vto, vln, vti, vwt, vtr, vst, vfd⟩ := e
          obtain ⟨⟨lA, ln, lc, hln⟩, ⟨fA, fn, fc, hfd⟩, htr⟩ := hXW
          simp only at hln hfd htr c0 c1 c2 c3 c4' c5' c6 c7 c8 c9 htk hcl
          subst hln
          subst hfd
          have HTK := keep htk
          have hts : vtr.size ≤ maxLen := by unfold maxLen; omega
          have HTS := keep hts
          have HCL := keep hcl
          clear htr htk hts hcl
          have i1 : (k : Int) < (E.length : Int) := by omega
          have k1 : (k : Int) ≤ 1000000 := by omega
          have hkl : k < maxLen := by unfold maxLen; omega
          go_wp2_with (first
            | (at_mapUpdate; refine wpList_mapUpdate_own _ rfl _ _ _ 43 rfl 9 3 law9 Tryd.underlying43 _ B2 k _ rfl (hM.out.alloc _) hkl _ _ _ rfl rfl (key9 HTS.out) _ [] (plainElem_int Tryd.underlying3 (wf_small hc0)) ?_; intro w7 hown7 hgr7)
            | (at_lookup; refine wpList_lookup_own_int _ rfl _ _ 43 rfl 9 3 .i64 law9 Tryd.underlying43 Tryd.underlying3 (zero3 _) B2 k _ rfl (hM.out.alloc _) _ _ rfl (key9 HTS.out) ?_; intro c hat hwc; have HCC := keep (hC.out.look hat); have hc0 : 0 ≤ c ∧ c ≤ 100 := (by have h1 := HCC.out; have h2 := HCL.out; omega); have hc1 := hc0.1; have hc2 := hc0.2; clear hat hwc))
          go_roundw
          case rel => exact ⟨k + 1, _, by omega, by go_num, keep hown7, keep (by rw [HTK.out]; exact hC.out.step _ (by rw [HCC.out])), keep (grownBy_trans hG.out (grownBy_trans (World.grownBy_alloc wo2 _ (some B2)) hgr7))⟩
          case measure => simp [intOf]; omega
        · obtain rfl : k = E.length := by omega
          rw [List.take_length] at hC
          have hMk2 := HMK.out.kept hG.out (by intro e; injection e with e; exact hBB e)
          have hbmr : Below B2 wm wo2 := below_grown (Below.refl _ wm) hG.out (by have := HZM.out; have := HB2.out; omega) (Nat.le_refl _)
          have hzB2 : w.heap.size ≤ B2 := by have := HB2.out; have := HZ4.out; omega
          have hb02 := hb0m.trans (hbmr.mono hzB2)
          have hDr2 := hDr
          clear hSm hk hlt HMK HMB hG hb0m hbmr HES
          go_wp2_with (at_range; refine wpList_range_own _ rfl _ 43 rfl 9 3 law9 Tryd.underlying43 _ B X.length Dk rfl hMk2 ?_; intro w0 hrg0 hg0 hs0)
          go_frame
          have hM0 := hM.out.kept hg0 (by simp)
          have hb00 : Below w.heap.size w w0 := below_grown hb02 (hg0.but (some wo2.heap.size)) hb02.size hb02.size
          obtain ⟨R, hR⟩ : ∃ R, wo2.heap.size = R := ⟨_, rfl⟩
          have hRz : w.heap.size ≤ R := by rw [← hR]; exact hb02.size
          have hlB := hM.out.lt
          have hRB : B2 ≠ R := by rw [← hR]; omega
          rw [hR] at hrg0 ⊢
          have HRG := keep hrg0
          have HM0 := keep hM0
          have HC2 := keep hC.out
          clear hR hrg0 hg0 hs0 hM0 hb02 hMk2 hM hC hlB
          go_loopw [16, 17] (fun _ _ wr => ∃ (left : Lit → Bool) (cnt : Nat), Hid (wr.ranges Tryd.prog 9 (plainElem Tryd.prog 3) B R X.length Dk left cnt) ∧ Hid (w0.grownBy wr (some R))) (fun _ _ wr => wr.rangeLeft B R)
          case atStart => exact ⟨_, _, HRG, keep (World.grownBy.refl _ _)⟩
          case round =>
            obtain ⟨left, cnt, hrg, hgr⟩ := hrel
            go_wp2_with (at_next; refine wpList_next_si _ rfl _ rfl B R X.length Dk left cnt rfl hrg.out ?_ ?_)
            · intro _
              have hbw : Below w.heap.size w wr := below_grown hb00 hgr.out hb00.size hRz
              have hDw := h.below hbw
              have hzw := hbw.size
              clear hrg hgr HRG HM0 HC2 HKC HW hb00 h hDr hDr2 hBB hRB hRz
              go_wp2_with fail
              refine (makeMod key 1000000 _ (by omega)).mono ?_
              rintro e w' ⟨q, rfl, q0, q1, rfl⟩
              have q2 := q1 (by omega)
              clear q1
              go_wp2_with fail
              obtain ⟨X2, hX2⟩ : ∃ X2, X2 = wr.alloc (.cells #[.int .i64 1, .int .i64 2, .int .i64 10, .int .i64 60, .int .i64 2520] 3) := ⟨_, rfl⟩
              have hBx : Blk X2 wr.heap.size 3 #[.int .i64 1, .int .i64 2, .int .i64 10, .int .i64 60, .int .i64 2520] := hX2 ▸ Blk.new _ _ _
              have hbX : Below wr.heap.size wr X2 := hX2 ▸ (Below.refl _ wr).alloc (Nat.le_refl _) _
              rw [← hX2]
              clear hX2
              have hbwX := hbw.trans (hbX.mono hzw)
              have hDX := hDw.below (hbX.mono hzw)
              have hlx := hBx.lt
              have hzX := hbwX.size
              have hall : ∀ k, k < 5 → ∃ x : Int, X2.cell? ⟨wr.heap.size, k, none⟩ = some (.int .i64 x) ∧ 1 ≤ x ∧ x ≤ 2520 ∧ vld x = true ∧ vld (2 * x) = true := by
                intro k hk
                match k, hk with
                | 0, _ => exact ⟨1, (hBx.cell 0).trans rfl, by decide, by decide, by decide, by decide⟩
                | 1, _ => exact ⟨2, (hBx.cell 1).trans rfl, by decide, by decide, by decide, by decide⟩
                | 2, _ => exact ⟨10, (hBx.cell 2).trans rfl, by decide, by decide, by decide, by decide⟩
                | 3, _ => exact ⟨60, (hBx.cell 3).trans rfl, by decide, by decide, by decide, by decide⟩
                | 4, _ => exact ⟨2520, (hBx.cell 4).trans rfl, by decide, by decide, by decide, by decide⟩
              have HALL := keep hall
              clear hall hBx hbX hbw hDw
              obtain ⟨wz, hwz⟩ : ∃ wz, wz = wr := ⟨_, rfl⟩
              rw [← hwz] at HALL hlx hzw
              rw [← hwz]
              clear hwz
              go_loopw [20, 77] (fun _ i wy => ∃ k : Nat, k ≤ 5 ∧ i = .int .i64 k ∧ Below X2.heap.size X2 wy) (fun _ i _ => 5 - (intOf i).toNat)
              case atStart => exact ⟨0, Nat.zero_le _, rfl, Below.refl _ _⟩
              case round =>
                obtain ⟨k, hk, rfl, hbk⟩ := hrel
                by_cases hk5 : k < 5
                · obtain ⟨x, hcx0, x1, x2, xv, xv2⟩ := HALL.out k hk5
                  obtain ⟨wy, hwy⟩ : ∃ wy, wy = wr := ⟨_, rfl⟩
                  rw [← hwy] at hbk ⊢
                  clear hwy
                  have hcx := (hbk.cell (p := ⟨wz.heap.size, k, none⟩) hlx).trans hcx0
                  have hDy := hDX.below (hbk.mono hzX)
                  have hhalf := keep_half q s x x1
                  have k1 : (k : Int) < 5 := by omega
                  have HV := keep xv
                  have HV2 := keep xv2
                  have HH := keep hhalf
                  clear xv xv2 hhalf hcx0
                  go_wp2_with fail
                  refine (keep_yes _ _ _ _ _ hDy HSM.out HV.out).mono ?_
                  rintro e w9 ⟨rfl, hb9⟩
                  have hD9 := hDy.below (hb9.mono (Nat.le_trans hzX hbk.size))
                  go_wp2_with fail
                  refine (keep_yes _ _ _ _ _ hD9 HSM.out HV.out).mono ?_
                  rintro e w10 ⟨rfl, hb10⟩
                  rw [keep_mod]
                  have hb19 := bchain hbk hb9
                  have hb110 := bchain hb19 hb10
                  have hD10 := hDX.below (hb110.mono hzX)
                  obtain ⟨kb, hkb⟩ : ∃ kb, keepB q s x = kb := ⟨_, rfl⟩
                  rw [hkb]
                  have HKB := keep hkb
                  have d1 : (kb != kb) = false := by simp
                  clear hkb
                  go_wp2_with fail
                  refine (keep_yes _ _ _ _ _ hD10 HSM.out HV2.out).mono ?_
                  rintro e w11 ⟨rfl, hb11⟩
                  have hb111 := bchain hb110 hb11
                  have hD11 := hDX.below (hb111.mono hzX)
                  cases hkc : keepB q s (2 * x)
                  · clear hkc
                    go_wp2_with fail
                    go_roundw
                    case rel => exact ⟨k + 1, by omega, by go_num, hb111⟩
                    case measure => simp [intOf]; omega
                  · have hkb1 := HKB.out
                    rw [HH.out hkc] at hkb1
                    subst hkb1
                    clear hkc
                    go_wp2_with fail
                    refine (keep_yes _ _ _ _ _ hD11 HSM.out HV.out).mono ?_
                    rintro e w12 ⟨rfl, hb12⟩
                    rw [HKB.out]
                    go_wp2_with fail
                    go_roundw
                    case rel => exact ⟨k + 1, by omega, by go_num, bchain hb111 hb12⟩
                    case measure => simp [intOf]; omega
                · have hDy := hDX.below (hbk.mono hzX)
                  go_wp2_with fail
                  refine (keep_yes _ _ _ _ _ hDy HSM.out (by decide)).mono ?_
                  rintro e w9 ⟨rfl, hb9⟩
                  rw [keep_one]
                  go_wp2_with fail
                  go_ret
                  exact ⟨rfl, hbwX.trans ((bchain hbk hb9).mono hzX)⟩
            · intro t c w1 cnt1 ht hat hrg1 hlt1 hg1 hs1 hen
              obtain ⟨hcc, hne⟩ := HKC.out.entry hat
              rw [HW.out] at hcc hne
              have hkk : keepB key t (weightOf l t) = true := by
                by_cases hk : keepB key t (weightOf l t) = true
                · exact hk
                · rw [if_neg hk] at hne; exact absurd rfl hne
              rw [if_pos hkk] at hcc
              have HCC := keep hcc
              have HRG1 := keep hrg1
              have HG1 := keep hg1
              clear hcc hne hkk hat hrg1 hg1 hs1
              have HMn := keep (HM0.out.kept (grownBy_trans hgr.out HG1.out) (by intro e; injection e with e; exact hRB e))
              go_wp2_with (at_lookup; refine wpList_lookup_own_int _ rfl _ _ 43 rfl 9 3 .i64 law9 Tryd.underlying43 Tryd.underlying3 (zero3 _) B2 E.length _ rfl HMn.out _ _ rfl (key9 ht) ?_; intro c2 hat2 hwc2; have heq : (c2 != c) = false := (by have h1 := HC2.out.look hat2; have h2 := HCC.out; simp [h1, h2]); clear hat2 hwc2)
              go_roundw
              case rel => exact ⟨_, _, HRG1, keep (grownBy_trans hgr.out HG1.out)⟩
              case measure => rw [HRG1.out.left_eq, hrg.out.left_eq]; exact hlt1
theorem law_whole_row (vc : Value) (bs : List Int) (key : Int) (s : ByteArray) (w : World) (h : Divs w w.heap.size) (hk0 : -9223372036854775808 ≤ key) (hk1 : key ≤ 9223372036854775807)
    (hsc : Sl w (lt w.heap.size) 1 vc bs.length (bs.map (.int .u8))) (hr : ∀ x ∈ bs, 0 ≤ x ∧ x ≤ 255) (hm : bs.length ≤ maxLen) :
    Calls Tryd.prog 5 #[vc, .int .i64 key, .string s] w fun e w' => e = .returned (.bool true) ∧ Below w.heap.size w w' := by
  by_cases hl : 100 < s.size
  · exact law_whole_long vc key s w h hl
  · exact law_whole vc bs key s w h (by omega) hk0 hk1 hsc hr hm
end Go.Proofs.YtncmbdcicjolcaaDoor
