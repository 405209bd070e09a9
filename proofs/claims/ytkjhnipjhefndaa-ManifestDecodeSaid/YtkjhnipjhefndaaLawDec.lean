/- The walk of ManifestDecode: what the statement's function returns. -/
import Derived.Test.YtkjhnipjhefndaaDecTools
import Derived.Test.YtkjhnipjhefndaaDrawMod
namespace Go.Proofs.Ytkjhnipjhefndaa
open Go.RowKit

set_option maxHeartbeats 4000000 in
set_option maxRecDepth 100000 in
theorem law_decode (vb v : Value) (b : List UInt8) (bs : List Int) (x : Int) (y : UInt8) (w : World) (hvb : BSl w (lt w.heap.size) vb b) (hv : Sl w (lt w.heap.size) 1 v bs.length (bs.map (.int .u8))) (hr : ∀ x ∈ bs, 0 ≤ x ∧ x ≤ 255) (hm : bs.length ≤ maxLen) :
    Calls Try.prog 6 #[vb, v, .int .i64 x, .int .u8 y.toNat] w fun e w' => e = .returned (.bool true) ∧ Below w.heap.size w w' := by
  have hvb' : Sl w (lt w.heap.size) 1 vb b.length (b.map ub) := hvb
  obtain ⟨Ab, cb, rfl, hcb, hs⟩ := hvb'.form
  obtain ⟨Av, cv, rfl, _, hv⟩ := hv.form
  have hmb := hs.1
  clear hvb' hmb
  by_cases h5 : 500 < b.length
  · have h5' : (500 : Int) < (b.length : Int) := by omega
    go_enter Try.func6, Try.ntmps6
    go_wp2_with fail
    refine (awake_any _).mono ?_
    rintro e w1 ⟨rfl, hb1⟩
    go_wp2_with fail
    go_ret
    exact ⟨rfl, hb1⟩
  · have h5' : ¬ (500 : Int) < (b.length : Int) := by omega
    have HBL := keep (show b.length ≤ 1000000 by omega)
    go_enter Try.func6, Try.ntmps6
    go_wp2_with fail
    refine (awake_any _).mono ?_
    rintro e w1 ⟨rfl, hb1⟩
    have hv1 := (hv.below hb1 (Nat.le_refl _)).more hb1.size
    have hsb1 : BSl w1 (lt w.heap.size) (.slice Ab b.length cb) b := Sl.below hvb hb1 (Nat.le_refl _)
    have hz1 := hb1.size
    clear hv hvb hs h5
    go_wp2_with fail
    refine (drawNew _ bs 200 _ hv1 hr (by omega) hm).mono ?_
    rintro e w2 ⟨gc, rfl, hgc, hC2, hb2⟩
    have hsb2 : BSl w2 (lt w.heap.size) (.slice Ab b.length cb) b := Sl.below hsb1 hb2 hz1
    have hbw2 := bchain hb1 hb2
    have hwg : w.heap.size ≤ gc := by omega
    have hz2 := hbw2.size
    clear hv1 hb1 hsb1 hb2 hz1
    go_wp2_with fail
    refine (drawManifest gc _ hC2).mono ?_
    rintro e w3 ⟨m, mS, mM, mT, mE, rfl, hL, hG, hC3, hg3⟩
    have hbw3 := below_grown hbw2 hg3 hbw2.size hwg
    have hsb3 : BSl w3 (lt w.heap.size) (.slice Ab b.length cb) b := Sl.grown hsb2 hg3 (fun k hk => ⟨by have : k < w.heap.size := hk; omega, fun e => by injection e with e; have : k < w.heap.size := hk; omega⟩)
    have HG := keep hG
    have hsm : Hid (SmallP m) := by
      have t := hG.tiny
      exact ⟨by have := t.s; omega, by have := t.m_; omega, by have := t.t; omega, by have := t.e; omega, fun x hx => by have := t.tb x hx; omega, fun x hx => by have := t.eb x hx; omega⟩
    have hout : encOut m = encB m := by unfold encOut; rw [if_pos hG.err]
    have hErr := hG.err
    have hlen : Hid ((encB m).length ≤ 100000) := keep (by rw [encB_len]; exact hG.tiny.len)
    have hge : Hid (8 ≤ (encB m).length) := keep (encB_ge m)
    clear hC2 hG hg3 hsb2 hbw2 hz2
    go_wp2_with fail
    refine (refEncode_any m _ _ _ _ w3 (hL.mono (fun k hk => hk.2)) hsm.out.small hsm.out.len).mono ?_
    rintro e w4 ⟨vN, rfl, hoN, hb4⟩
    rw [hErr, hout] at *
    have hbw4 := bchain hbw3 hb4
    have hsb4 : BSl w4 (lt w.heap.size) (.slice Ab b.length cb) b := Sl.below hsb3 hb4 hbw3.size
    have hz3 := hbw3.size
    have hoN' := hoN.base_ (base' := w.heap.size) hz3
    obtain ⟨AN, cN, rfl, hcN, hoN2⟩ := hoN'.form
    clear hL hC3 hoN hoN' hb4 hbw3 hsb3 hErr hout hz3
    generalize encB m = E at *
    have hbase := hbw4.size
    go_upto_region 4 with fail
    go_upto_region 5 with (refine wpList_appendBb elB rfl _ _ rfl w4.heap.size (.slice none 0 0) [] rfl (OwnB.nil _ _) (lt w4.heap.size) _ E rfl hoN2.slt (by have := hlen.out; simp; omega) (Nat.le_refl _) ?_; intro v5 w5 hown5 hb5 hg5)
    rw [List.nil_append] at hown5
    obtain ⟨A5, c5, rfl, hc5, hownA⟩ := hown5.form
    have hEl : (E.length : Int) ≤ 100000 := by have := hlen.out; omega
    have hEg : 1 ≤ (E.length : Int) := by have := hge.out; omega
    have hbw5 := hbw4.trans (hb5.mono hbase)
    have hsb5 : BSl w5 (lt w.heap.size) (.slice Ab b.length cb) b := Sl.below hsb4 hb5 hbase
    have hN5 : BSl w5 (lt w4.heap.size) (.slice AN E.length cN) E := Sl.below hoN2.slt hb5 (Nat.le_refl _)
    clear hown5 hb5 hg5 hoN2 hsb4 hbw4
    go_wp2_with fail
    refine (drawMod x (E.length : Int) w5 (by omega)).mono ?_
    rintro e w6 ⟨r, rfl, r0, r1, rfl⟩
    have hi0 := r1 hEg
    clear r1
    obtain ⟨i, rfl⟩ := Int.eq_ofNat_of_zero_le r0
    have hi : i < E.length := by omega
    obtain ⟨g5, rfl, hg5b, hg5l, _, hcell, hfz, hownS⟩ := hownA.setAt hi (E[i] ^^^ y)
    have hx8 := xor_u8 E[i] y
    simp only [ub] at hcell hownS
    obtain ⟨O, hO⟩ : ∃ O, O = E.set i (E[i] ^^^ y) := ⟨_, rfl⟩
    rw [← hO] at hownS
    have hOl : O.length = E.length := by rw [hO, List.length_set]
    have hOL := keep hOl
    clear hO hOl hownA
    generalize E[i] ^^^ y = z at *
    generalize E[i] = e0 at *
    go_upto_region 6 with fail
    obtain ⟨w7, hw7⟩ : ∃ w7, w7 = w5.setCell ⟨g5, i, none⟩ (.int .u8 (z.toNat : Int)) := ⟨_, rfl⟩
    rw [← hw7] at hownS ⊢
    have hb7 : Below w4.heap.size w5 w7 := by rw [hw7]; exact (Below.refl _ _).setCell (p := ⟨g5, i, none⟩) hg5b _
    have hz5 := hbw5.size
    have hbw7 := hbw5.trans (hb7.mono hbase)
    have hsb7 : BSl w7 (lt w.heap.size) (.slice Ab b.length cb) b := Sl.below hsb5 hb7 hbase
    have hN7 : BSl w7 (lt w4.heap.size) (.slice AN E.length cN) E := Sl.below hN5 hb7 (Nat.le_refl _)
    have hz7 := hb7.size
    clear hw7 hb7 hbw5 hsb5 hN5 hcell hfz hx8 hi0 hi r0
    go_wp2_with fail
    refine (drawMod x (E.length : Int) w7 (by omega)).mono ?_
    rintro e w8 ⟨r, rfl, r0, r1, rfl⟩
    have hi0 := r1 hEg
    clear r1
    obtain ⟨j, rfl⟩ := Int.eq_ofNat_of_zero_le r0
    have hj2 : (j : Int) ≤ (cN : Int) := by omega
    have hT7 : BSl w7 (lt w4.heap.size) (.slice AN j cN) (E.take j) := by
      have hN7' : Sl w7 (lt w4.heap.size) 1 (.slice AN E.length cN) E.length (E.map ub) := hN7
      have := hN7'.take (k := j) (by omega)
      unfold BSl
      rw [Nat.mul_one] at this
      rwa [List.map_take, show (E.take j).length = j by simp; omega]
    go_upto_block 0 with (fail)
    have hO7 : BSl w7 (lt w7.heap.size) (.slice (some ⟨g5, 0, none⟩) E.length c5) O := hownS.slt
    obtain ⟨gx, hgx⟩ : ∃ gx, gx = w7.heap.size := ⟨_, rfl⟩
    obtain ⟨W8, hW8⟩ : ∃ W8, W8 = w7.alloc (.cells #[.slice Ab b.length cb, .slice AN E.length cN, .slice (some ⟨g5, 0, none⟩) E.length c5, .slice AN j cN] 29) := ⟨_, rfl⟩
    rw [← hW8, ← hgx]
    have hb8 : Below w7.heap.size w7 W8 := by rw [hW8]; exact (Below.refl _ _).alloc (Nat.le_refl _) _
    have hB8 : Blk W8 gx 29 #[.slice Ab b.length cb, .slice AN E.length cN, .slice (some ⟨g5, 0, none⟩) E.length c5, .slice AN j cN] := by rw [hW8, hgx]; exact Blk.new _ _ _
    have hz78 := hb8.size
    have hbw8 := bchain hbw7 hb8
    have hq0 : Four W8 W8.heap.size (.slice Ab b.length cb) := ⟨b, Sl.mono (Sl.below hsb7 hb8 (by omega)) (fun k hk => by have : k < w.heap.size := hk; show k < W8.heap.size; omega), HBL.out⟩
    have hq1 : Four W8 W8.heap.size (.slice AN E.length cN) := ⟨E, Sl.mono (Sl.below hN7 hb8 (by omega)) (fun k hk => by have : k < w4.heap.size := hk; show k < W8.heap.size; omega), by have := hlen.out; omega⟩
    have hq2 : Four W8 W8.heap.size (.slice (some ⟨g5, 0, none⟩) E.length c5) := ⟨O, Sl.mono (Sl.below hO7 hb8 (by omega)) (fun k hk => by have : k < w7.heap.size := hk; show k < W8.heap.size; omega), by rw [hOL.out]; have := hlen.out; omega⟩
    have hq3 : Four W8 W8.heap.size (.slice AN j cN) := ⟨E.take j, Sl.mono (Sl.below hT7 hb8 (by omega)) (fun k hk => by have : k < w4.heap.size := hk; show k < W8.heap.size; omega), by rw [List.length_take]; have := hlen.out; omega⟩
    clear hW8 hgx hb8 hsb7 hN7 hO7 hT7 hownS hbw7 hz7 hz78 hz5 hi0 r0 hj2 hEl hEg
    have hlx := hB8.lt
    go_wp2_with fail
    go_loopw [13, 14, 15, 16, 17, 58] (fun _ _ _ _ _ i wr => ∃ k : Nat, k ≤ 4 ∧ i = .int .i64 k ∧ Below W8.heap.size W8 wr) (fun _ _ _ _ _ i _ => 4 - (intOf i).toNat)
    case atStart => exact ⟨0, Nat.zero_le _, rfl, Below.refl _ _⟩
    case round =>
      obtain ⟨k, hk, rfl, hb⟩ := hrel
      obtain ⟨wq, rfl⟩ : ∃ wq : World, wq = wr := ⟨_, rfl⟩
      by_cases hlt : k < 4
      · obtain ⟨vx, hcx, l, hl, hll⟩ := four_at (hB8.below hb hlx) hq0 hq1 hq2 hq3 hlt
        have hlq : BSl wq (lt wq.heap.size) vx l := Sl.more (Sl.below hl hb (Nat.le_refl _)) hb.size
        obtain ⟨Ax, nx, cx, rfl⟩ : ∃ A n c, vx = .slice A n c := by obtain ⟨A, c, h, _⟩ := Sl.form hlq; exact ⟨A, _, c, h⟩
        have hi1 : (0 : Int) ≤ (k : Int) := by omega
        have hi2 : (k : Int) < 4 := by omega
        have HBq := keep hb
        clear hb hl
        go_wp2_with fail
        refine (decode_any _ l wq hlq hll).mono ?_
        rintro e w9 ⟨m1, er1, hD1, vS, vM, vT, vE, rfl, hL1, hb9⟩
        have hsm1 := keep (hD1.small hll)
        obtain ⟨A1, c1, rfl, _, _⟩ := hL1.s.form
        obtain ⟨A2, c2, rfl, _, _⟩ := hL1.m_.form
        obtain ⟨A3, c3, rfl, _, _⟩ := hL1.t.form
        obtain ⟨A4, c4, rfl, _, _⟩ := hL1.e.form
        have HD1 := keep hD1
        clear hD1
        go_upto_region 10 with fail
        obtain ⟨X, hX⟩ : ∃ X, X = (#[.int .i64 m1.nu, .int .i64 m1.nx, .int .i64 m1.jo, .slice A1 m1.segs.length c1, .slice A2 m1.marks.length c2, .slice A3 m1.tals.length c3, .slice A4 m1.exps.length c4] : Array Value) := ⟨_, rfl⟩
        obtain ⟨ga, hga⟩ : ∃ ga, ga = w9.heap.size := ⟨_, rfl⟩
        obtain ⟨wa, hwa⟩ : ∃ wa, wa = w9.alloc (.cells X 28) := ⟨_, rfl⟩
        rw [← hX, ← hwa, ← hga]
        have hba : Below w9.heap.size w9 wa := by rw [hwa]; exact (Below.refl _ _).alloc (Nat.le_refl _) _
        have hBa : Blk wa ga 28 X := by rw [hwa, hga]; exact Blk.new _ _ _
        have hla : BSl wa (lt wa.heap.size) (.slice Ax nx cx) l := Sl.more (Sl.below (Sl.more (Sl.below hlq hb9 (Nat.le_refl _)) hb9.size) hba (Nat.le_refl _)) hba.size
        have hLa : Lies wa (lt wa.heap.size) m1 (.slice A1 m1.segs.length c1) (.slice A2 m1.marks.length c2) (.slice A3 m1.tals.length c3) (.slice A4 m1.exps.length c4) := (hL1.mono (fun k hk => hk.2) : Lies w9 (lt w9.heap.size) m1 _ _ _ _).below hba
        have hbqa := bchain hb9 hba
        clear hwa hga hba hL1 hb9 hlq
        go_wp2_with fail
        refine (refDecode_any _ l wa hla hll).mono ?_
        rintro e w10 ⟨m2, er2, hD2, uS, uM, uT, uE, rfl, hL2, hb10⟩
        obtain ⟨hm12, he12⟩ := dec_agree hll HD1.out hD2
        subst hm12 he12
        obtain ⟨B1, d1, rfl, _, _⟩ := hL2.s.form
        obtain ⟨B2, d2, rfl, _, _⟩ := hL2.m_.form
        obtain ⟨B3, d3, rfl, _, _⟩ := hL2.t.form
        obtain ⟨B4, d4, rfl, _, _⟩ := hL2.e.form
        clear hD2
        go_upto_region 11 with fail
        obtain ⟨Y, hY⟩ : ∃ Y, Y = (#[.int .i64 m1.nu, .int .i64 m1.nx, .int .i64 m1.jo, .slice B1 m1.segs.length d1, .slice B2 m1.marks.length d2, .slice B3 m1.tals.length d3, .slice B4 m1.exps.length d4] : Array Value) := ⟨_, rfl⟩
        obtain ⟨gb, hgb⟩ : ∃ gb, gb = w10.heap.size := ⟨_, rfl⟩
        obtain ⟨wb, hwb⟩ : ∃ wb, wb = w10.alloc (.cells Y 28) := ⟨_, rfl⟩
        rw [← hY, ← hwb, ← hgb]
        have hbb : Below w10.heap.size w10 wb := by rw [hwb]; exact (Below.refl _ _).alloc (Nat.le_refl _) _
        have hBb : Blk wb gb 28 Y := by rw [hwb, hgb]; exact Blk.new _ _ _
        have hBa2 := (hBa.below hb10 hBa.lt).below hbb (by have := hBa.lt; have := hb10.size; omega)
        have hLb1 := (hLa.below hb10).below hbb
        have hLb2 : Lies wb (lt wb.heap.size) m1 (.slice B1 m1.segs.length d1) (.slice B2 m1.marks.length d2) (.slice B3 m1.tals.length d3) (.slice B4 m1.exps.length d4) := (hL2.mono (fun k hk => hk.2) : Lies w10 (lt w10.heap.size) m1 _ _ _ _).below hbb
        have hbqb := bchain hbqa (bchain hb10 hbb)
        subst hX hY
        obtain ⟨a0, a1, a2, a3, a4, a5, a6⟩ := hBa2.cell7
        obtain ⟨b0, b1, b2, b3, b4, b5, b6⟩ := hBb.cell7
        clear hwb hgb hbb hL2 hb10 hla hLa hBa hbqa
        go_wp2_with fail
        refine (same_refl m1 _ _ _ _ _ _ _ _ wb hLb1 hLb2 hsm1.out).mono ?_
        rintro e w11 ⟨rfl, hb11⟩
        have hfin := bchain hbqb hb11
        have hfin2 := HBq.out.trans (hfin.mono HBq.out.size)
        clear hBa2 hBb hLb1 hLb2 hbqb hb11 a0 a1 a2 a3 a4 a5 a6 b0 b1 b2 b3 b4 b5 b6
        go_wp2_with fail
        go_roundw
        case rel => exact ⟨k + 1, by omega, by go_num, hfin2⟩
        case measure => simp [intOf]; omega
      · go_wp2_with fail
        go_ret
        exact ⟨rfl, bchain hbw8 hb⟩
theorem byte_of {y : Int} (h : 0 ≤ y ∧ y ≤ 255) : ∃ z : UInt8, y = (z.toNat : Int) := ⟨UInt8.ofNat y.toNat, by rw [UInt8.toNat_ofNat']; omega⟩
theorem law_decode_int (vb v : Value) (b bs : List Int) (x y : Int) (w : World) (hvb : Sl w (lt w.heap.size) 1 vb b.length (b.map (.int .u8))) (hrb : ∀ x ∈ b, 0 ≤ x ∧ x ≤ 255) (hv : Sl w (lt w.heap.size) 1 v bs.length (bs.map (.int .u8))) (hr : ∀ x ∈ bs, 0 ≤ x ∧ x ≤ 255) (hm : bs.length ≤ maxLen) (hy : 0 ≤ y ∧ y ≤ 255) :
    Calls Try.prog 6 #[vb, v, .int .i64 x, .int .u8 y] w fun e w' => e = .returned (.bool true) ∧ Below w.heap.size w w' := by
  obtain ⟨z, rfl⟩ := byte_of hy
  exact law_decode vb v _ bs x z w (bsl_ints hvb hrb) hv hr hm
end Go.Proofs.Ytkjhnipjhefndaa
