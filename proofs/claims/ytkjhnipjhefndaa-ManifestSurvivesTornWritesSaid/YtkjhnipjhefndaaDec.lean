/- The contract of manifest.Decode. -/
import Derived.Test.YtkjhnipjhefndaaDecA
namespace Go.Proofs.Ytkjhnipjhefndaa
open Go.RowKit

set_option maxHeartbeats 40000000 in
set_option maxRecDepth 100000 in
theorem decode_any (v : Value) (b : List UInt8) (w : World) (hv : BSl w (lt w.heap.size) v b) (hm : b.length ≤ 1000000) :
    Calls Try.prog 24 #[v] w (DecOut w b) := by
  have hv' : Sl w (lt w.heap.size) 1 v b.length (b.map ub) := hv
  obtain ⟨A, c, rfl, hc, hs⟩ := hv'.form
  clear hv'
  obtain ⟨W, hW⟩ : ∃ W, W = w.alloc (.cells manZ7 28) := ⟨_, rfl⟩
  have hba : Below w.heap.size w W := by rw [hW]; exact (Below.refl _ _).alloc (Nat.le_refl _) _
  obtain ⟨p, hp⟩ : ∃ g, g = w.heap.size := ⟨_, rfl⟩
  have hP : Blk W p 28 manZ7 := by rw [hW, hp]; exact Blk.new _ _ _
  have HP := keep hp
  by_cases h8 : b.length < 8
  · have hD : Decd b manZero 14 := .inl ⟨h8, rfl, rfl⟩
    have HF := keep (dec_err (p := p) (by omega) hD hba (.int .i64 0) (.int .i64 0) (.int .i64 0) (.slice none 0 0) (.slice none 0 0) (.slice none 0 0) (.slice none 0 0))
    have g1 : (b.length : Int) < 8 := by omega
    obtain ⟨y0, y1, y2, y3, y4, y5, y6⟩ := (put7_blk hP (.int .i64 0) (.int .i64 0) (.int .i64 0) (.slice none 0 0) (.slice none 0 0) (.slice none 0 0) (.slice none 0 0)).cell7
    have f0 := hP.frozen 0
    have f1 := hP.frozen 1
    have f2 := hP.frozen 2
    have f3 := hP.frozen 3
    have f4 := hP.frozen 4
    have f5 := hP.frozen 5
    have f6 := hP.frozen 6
    obtain ⟨a0, a1, a2, a3, a4, a5, a6⟩ := hP.cell7
    go_enter Try.func24, Try.ntmps24
    go_upto_region 1 with fail
    rw [← hW, ← hp]
    clear hW hp
    go_wp2_with fail
    refine bodyPost_ret (v := .tuple #[.agg manZ7, .int .i64 14]) (by simp [results, Try.results24, go_sem, y0, y1, y2, y3, y4, y5, y6]) rfl ?_
    exact HF.out
  · obtain ⟨n4, hn4⟩ : ∃ n4, b.length = n4 + 4 := ⟨b.length - 4, by omega⟩
    obtain ⟨bb, o, rfl, hbb, _⟩ := hs.row (by omega)
    have hbb' : bb < w.heap.size := hbb
    have hbody : body b = b.take n4 := by unfold body; congr 1; omega
    have htail : tail4 b = b.drop n4 := by unfold tail4; congr 1; omega
    have hs1 : Hid (∀ wa, Below w.heap.size w wa → BSl wa (lt w.heap.size) (.slice (some ⟨bb, o, none⟩) n4 c) (body b) ∧ BSl wa (lt w.heap.size) (.slice (some ⟨bb, o + n4, none⟩) (b.length - n4) (c - n4)) (tail4 b) ∧
        BSl wa (lt w.heap.size) (.slice (some ⟨bb, o + 4, none⟩) (n4 - 4) (c - 4)) ((body b).drop 4) ∧ BSl wa (lt w.heap.size) (.slice (some ⟨bb, o, none⟩) b.length c) b) := fun wa hwa => by
      have hsa := hs.below hwa (Nat.le_refl _)
      have t1 : BSl wa (lt w.heap.size) (.slice (some ⟨bb, o, none⟩) n4 c) (body b) := by
        have := hsa.take (k := n4) (by omega)
        unfold BSl
        rw [Nat.mul_one] at this
        rw [hbody, List.map_take, show (b.take n4).length = n4 by simp; omega]
        exact this
      refine ⟨t1, ?_, ?_, hsa⟩
      · have := hsa.tail2 (k := n4) (by omega) (by omega)
        unfold BSl
        rw [htail, List.map_drop, List.length_drop]
        exact this
      · have hl4 : (body b).length = n4 := by rw [hbody]; simp; omega
        have t1' : Sl wa (lt w.heap.size) 1 (.slice (some ⟨bb, o, none⟩) n4 c) n4 ((body b).map ub) := by
          have := t1
          unfold BSl at this
          rwa [hl4] at this
        have := t1'.tail2 (k := 4) (by omega) (by omega)
        unfold BSl
        rw [List.map_drop, List.length_drop, hl4]
        exact this
    have hlb : Hid ((body b).length ≤ maxLen) := keep (by rw [hbody]; simp; unfold maxLen; omega)
    have hlb2 : Hid (((body b).drop 4).length ≤ 1000000) := keep (by rw [hbody]; simp; omega)
    have i0 : (b.length : Int) - 4 = (n4 : Int) := by omega
    have i1 : (n4 : Int) ≤ (b.length : Int) := by omega
    have i2 : (n4 : Int) ≤ (c : Int) := by omega
    have i3 : (4 : Int) ≤ (n4 : Int) := by omega
    have i4 : ¬ (b.length : Int) < 8 := by omega
    have i5 : ¬ c = n4 := by omega
    have i6 : ¬ c = 4 := by omega
    obtain ⟨q, hq⟩ : ∃ q, decide (crcB (crc (body b)) = tail4 b) = q := ⟨_, rfl⟩
    have HQ : CrcQ b q := ⟨hq⟩
    have HN4 := keep hn4
    have H8 := keep h8
    clear hq hbody htail hn4 h8 hs
    have hPd : Blk W.drew p 28 manZ7 := hP
    have hbd : Below w.heap.size w W.drew := hba.drew
    have hsd := hs1.out _ hbd
    have hszd := keep hbd.size
    have hW2 := hW
    go_enter Try.func24, Try.ntmps24
    go_upto_region 4 with fail
    rw [← hW, ← hp]
    clear hW hp hW2
    have hTl : Hid (∀ w1, Below W.drew.heap.size W.drew w1 → BSl w1 (lt w.heap.size) (.slice (some ⟨bb, o + n4, none⟩) (b.length - n4) (c - n4)) (tail4 b)) := fun w1 h1 => (hs1.out _ (bchain hbd h1)).2.1
    have HS := keep hsd.1
    clear hsd
    go_region_held3 (fun _ : World => True) (trivial)
      (first
        | (go_at_call 48; (with_reducible refine (sum_any _ (body b) _ _ HS.out hlb.out).mono ?_); rintro e w1 ⟨v1, rfl, ho1, hb1⟩; have ho1' := ho1.slt; have hT1 := hTl.out _ hb1)
        | (go_at_call 59; (with_reducible refine (bequal_any _ _ (crcB (crc (body b))) (tail4 b) _ _ _ ho1' hT1).mono ?_); rintro e w2 ⟨rfl, rfl⟩)
        | fail)
    rw [HQ.e]
    have hbw1 := bchain hbd hb1
    have hP1 := hPd.below hb1 (by have := hszd.out; have := HP.out; have : p < W.drew.heap.size := hPd.lt; omega)
    clear hb1 hTl HS hPd hbd hP hba ho1 ho1' hT1
    cases q with
    | false =>
      have hne : crcB (crc (body b)) ≠ tail4 b := of_decide_eq_false HQ.e
      have hD : Decd b manZero 15 := .inr (.inl ⟨by have := H8.out; omega, hne, rfl, rfl⟩)
      have HF := keep (dec_err (p := p) (by have := HP.out; omega) hD hbw1 (.int .i64 0) (.int .i64 0) (.int .i64 0) (.slice none 0 0) (.slice none 0 0) (.slice none 0 0) (.slice none 0 0))
      obtain ⟨y0, y1, y2, y3, y4, y5, y6⟩ := (put7_blk hP1 (.int .i64 0) (.int .i64 0) (.int .i64 0) (.slice none 0 0) (.slice none 0 0) (.slice none 0 0) (.slice none 0 0)).cell7
      have f0 := hP1.frozen 0
      have f1 := hP1.frozen 1
      have f2 := hP1.frozen 2
      have f3 := hP1.frozen 3
      have f4 := hP1.frozen 4
      have f5 := hP1.frozen 5
      have f6 := hP1.frozen 6
      obtain ⟨a0, a1, a2, a3, a4, a5, a6⟩ := hP1.cell7
      clear hne hD
      simp only [Bool.not_false]
      go_wp2_with fail
      refine bodyPost_ret (v := .tuple #[.agg manZ7, .int .i64 15]) (by simp [results, Try.results24, go_sem, y0, y1, y2, y3, y4, y5, y6]) rfl ?_
      exact HF.out
    | true =>
      simp only [Bool.not_true]
      go_upto_region 7 with fail
      obtain ⟨W3, hW3⟩ : ∃ W3, W3 = w1.alloc (.cells #[.slice (some ⟨bb, o + 4, none⟩) (n4 - 4) (c - 4), .bool false] 104) := ⟨_, rfl⟩
      obtain ⟨gr, hgr⟩ : ∃ gr, gr = w1.heap.size := ⟨_, rfl⟩
      rw [← hW3, ← hgr]
      have hb13 : Below w1.heap.size w1 W3 := by rw [hW3]; exact (Below.refl _ _).alloc (Nat.le_refl _) _
      have hbw3 := bchain hbw1 hb13
      have hR3 : Rd W3 w.heap.size gr (.slice (some ⟨bb, o + 4, none⟩) (n4 - 4) (c - 4)) ((body b).drop 4) false := ⟨by rw [hW3, hgr]; exact Blk.new _ _ _, (hs1.out _ hbw3).2.2.1, by have := hbw1.size; omega⟩
      have hP3 := hP1.below hb13 hP1.lt
      have hgrp : p < gr := by have := hP1.lt; omega
      have hgrw : w.heap.size ≤ gr := by have := hbw1.size; omega
      have HGR := keep hgrw
      clear hW3 hgr hb13 hbw1 hP1
      have hl3 := hlb2.out
      go_wp2_with fail
      refine (rint_ex w.heap.size gr _ _ _ _ hR3 hl3).mono ?_
      rintro e w4 ⟨x1, hx1, rfl, v4, hR4, hg4, hl4⟩
      have hbw4 := below_grown hbw3 hg4 hbw3.size hgrw
      have hP4 := hP3.grown hg4 (fun e => by injection e; omega)
      clear hR3 hg4 hbw3 hP3 hl3
      go_wp2_with fail
      refine (rint_ex w.heap.size gr _ _ _ _ hR4 hl4).mono ?_
      rintro e w5 ⟨x2, hx2, rfl, v5, hR5, hg5, hl5⟩
      have hbw5 := below_grown hbw4 hg5 hbw4.size hgrw
      have hP5 := hP4.grown hg5 (fun e => by injection e; omega)
      clear hR4 hg5 hbw4 hP4 hl4
      go_wp2_with fail
      refine (rint_ex w.heap.size gr _ _ _ _ hR5 hl5).mono ?_
      rintro e w6 ⟨x3, hx3, rfl, v6, hR6, hg6, hl6⟩
      have hbw6 := below_grown hbw5 hg6 hbw5.size hgrw
      have hP6 := hP5.grown hg6 (fun e => by injection e; omega)
      clear hR5 hg6 hbw5 hP5 hl5
      go_upto_region 8 with fail
      obtain ⟨W7, hW7⟩ : ∃ W7, W7 = w6.alloc (.cells #[.int .i64 x1.1, .int .i64 x2.1, .int .i64 x3.1, .slice none 0 0, .slice none 0 0, .slice none 0 0, .slice none 0 0] 28) := ⟨_, rfl⟩
      obtain ⟨gm, hgm⟩ : ∃ gm, gm = w6.heap.size := ⟨_, rfl⟩
      rw [← hW7, ← hgm]
      have hb67 : Below w6.heap.size w6 W7 := by rw [hW7]; exact (Below.refl _ _).alloc (Nat.le_refl _) _
      have hgr6 := hR6.b.lt
      have hbw7 := bchain hbw6 hb67
      have hR7 := hR6.below hb67 hgr6
      have hO : Ord3 p gm gr W7.heap.size := ⟨hgrp, by omega, by rw [hW7, hgm]; simp⟩
      have hG7 : Dc W7 p gm gr W7.heap.size x1.1 x2.1 x3.1 (.slice none 0 0) [] := ⟨hP6.below hb67 hP6.lt, by rw [hW7, hgm]; exact Blk.new _ _ _, World.ownsRow_nil _ _ _ _, Nat.le_refl _⟩
      clear hW7 hgm hb67 hbw6 hR6 hP6 hgr6 hgrp
      go_wp2_with fail
      refine (rcount_any w.heap.size gr _ _ _ _ hR7 hl6).mono ?_
      rintro e w8 ⟨rfl, v8, hR8, hg8⟩
      obtain ⟨hc1, hc2⟩ := countS_le x3.2.1 x3.2.2
      have hG8 := hG7.keepR hO hg8
      have hbw8 := below_grown hbw7 hg8 hbw7.size hgrw
      obtain ⟨cn, hcn⟩ : ∃ cn, cn = countS x3.2.1 x3.2.2 := ⟨_, rfl⟩
      rw [← hcn] at hc1 hc2 hR8 ⊢
      have hCN := keep hcn
      have hcl : cn.2.1.length ≤ 1000000 := by omega
      clear hcn hR7 hg8 hG7 hbw7 hc1
      go_wp2_with fail
      go_loopw [42] (fun i wr => ∃ (k : Nat) (acc : List Seg) (l' : List UInt8) (b' : Bool) (v' vS : Value), i = .int .i64 k ∧ k ≤ cn.1 ∧ Hid (Many segS cn.1 cn.2.1 cn.2.2 k acc l' b') ∧ Rd wr w.heap.size gr v' l' b' ∧ Dc wr p gm gr W7.heap.size x1.1 x2.1 x3.1 vS acc ∧ Below w.heap.size w wr) (fun i _ => cn.1 - (intOf i).toNat)
      case atStart => exact ⟨0, [], cn.2.1, cn.2.2, v8, _, rfl, Nat.zero_le _, keep (Many.start segS cn.1 cn.2.1 cn.2.2), hR8, hG8, hbw8⟩
      case round =>
        obtain ⟨k, acc, l', b', v', vS, rfl, hk, hM, hRk, hGk, hbk⟩ := hrel
        clear hR8 hG8 hbw8
        by_cases hlt : k < cn.1
        · have hl10 : l'.length ≤ 1000000 := by have := hM.out.s; omega
          have hacc := keep hM.out.n
          have hMS := keep (hM.out.step hlt segS_le)
          have q1 : Hid (acc.length + 1 ≤ maxLen) := keep (by have := hacc.out; unfold maxLen; omega)
          have q2 : Hid ((acc.length + 1) * 56 ≤ 140737488355328) := keep (by have := hacc.out; omega)
          have hR10 : Rd wr.drew w.heap.size gr v' l' b' := ⟨hRk.b, hRk.s, hRk.o⟩
          have hG10 := hGk.drew
          have hb10 := hbk.drew
          have c10 := hGk.bm.cell7.2.2.2.1
          obtain ⟨AS, nS, cS, rfl⟩ : ∃ A n c, vS = .slice A n c := by obtain ⟨A, c, h, _⟩ := (Sl.of_own hGk.s).form; exact ⟨A, _, c, h⟩
          clear hM hRk hGk hbk
          go_upto_region 10 with fail
          go_region_law (first
              | (go_simp; go_at_call 60; (with_reducible refine (rint_ex w.heap.size gr _ _ _ _ hR16 hl16).mono ?_); rintro e w17 ⟨a17, ha17, rfl, v17, hR17, hg17, hl17⟩; have hG17 := hG16.keepR hO hg17; have z17 := hG17.bm.lt; have c17 := hG17.bm.cell7.2.2.2.1; have hb17 := below_grown hb16 hg17 hb16.size hgrw; clear hg17)
              | (go_simp; go_at_call 60; (with_reducible refine (rint_ex w.heap.size gr _ _ _ _ hR15 hl15).mono ?_); rintro e w16 ⟨a16, ha16, rfl, v16, hR16, hg16, hl16⟩; have hG16 := hG15.keepR hO hg16; have z16 := hG16.bm.lt; have c16 := hG16.bm.cell7.2.2.2.1; have hb16 := below_grown hb15 hg16 hb15.size hgrw; clear hg16)
              | (go_simp; go_at_call 60; (with_reducible refine (rint_ex w.heap.size gr _ _ _ _ hR14 hl14).mono ?_); rintro e w15 ⟨a15, ha15, rfl, v15, hR15, hg15, hl15⟩; have hG15 := hG14.keepR hO hg15; have z15 := hG15.bm.lt; have c15 := hG15.bm.cell7.2.2.2.1; have hb15 := below_grown hb14 hg15 hb14.size hgrw; clear hg15)
              | (go_simp; go_at_call 60; (with_reducible refine (rint_ex w.heap.size gr _ _ _ _ hR13 hl13).mono ?_); rintro e w14 ⟨a14, ha14, rfl, v14, hR14, hg14, hl14⟩; have hG14 := hG13.keepR hO hg14; have z14 := hG14.bm.lt; have c14 := hG14.bm.cell7.2.2.2.1; have hb14 := below_grown hb13 hg14 hb13.size hgrw; clear hg14)
              | (go_simp; go_at_call 60; (with_reducible refine (rint_ex w.heap.size gr _ _ _ _ hR12 hl12).mono ?_); rintro e w13 ⟨a13, ha13, rfl, v13, hR13, hg13, hl13⟩; have hG13 := hG12.keepR hO hg13; have z13 := hG13.bm.lt; have c13 := hG13.bm.cell7.2.2.2.1; have hb13 := below_grown hb12 hg13 hb12.size hgrw; clear hg13)
              | (go_simp; go_at_call 60; (with_reducible refine (rint_ex w.heap.size gr _ _ _ _ hR11 hl11).mono ?_); rintro e w12 ⟨a12, ha12, rfl, v12, hR12, hg12, hl12⟩; have hG12 := hG11.keepR hO hg12; have z12 := hG12.bm.lt; have c12 := hG12.bm.cell7.2.2.2.1; have hb12 := below_grown hb11 hg12 hb11.size hgrw; clear hg12)
              | (go_simp; go_at_call 60; (with_reducible refine (rint_ex w.heap.size gr _ _ _ _ hR10 hl10).mono ?_); rintro e w11 ⟨a11, ha11, rfl, v11, hR11, hg11, hl11⟩; have hG11 := hG10.keepR hO hg11; have z11 := hG11.bm.lt; have c11 := hG11.bm.cell7.2.2.2.1; have hb11 := below_grown hb10 hg11 hb10.size hgrw; clear hg11)
              | (refine step_appendS elSegs rfl _ _ rfl W7.heap.size _ acc.length _ rfl (hG17.s.alloc _) _ _ 1 _ rfl (seg_lit w17 _ _ _ _ _ _ _) (seg_one _ _ _ _ _ _ _) q1.out q2.out (le_alloc hG17.z _) ?_; intro v18 w18 hown18 hb18 hgr18; obtain ⟨g18, c18', rfl⟩ := ownsRow_succ hown18; have hB18 := (hG17.bm.alloc (.cells #[.int .i64 a11.1, .int .i64 a12.1, .int .i64 a13.1, .int .i64 a14.1, .int .i64 a15.1, .int .i64 a16.1, .int .i64 a17.1] 46)).below hb18 hO.c; have c18 := hB18.cell7.2.2.2.1; have f18 := hB18.frozen 3)
              | fail)
          all_goals
            have hseg := segS_step ha11.out ha12.out ha13.out ha14.out ha15.out ha16.out ha17.out
            have hMS' := hMS.out
            rw [hseg] at hMS'
            have HMS := keep hMS'
            have hGf := hG17.put hO ⟨a11.1, a12.1, a13.1, a14.1, a15.1, a16.1, a17.1⟩ _ hb18 hown18
            have hRf := fun (u : Value) => rd_put (i := 3) (u := u) hR17 hb18 hO.b hO.c
            have hbf := fun (u : Value) => below_put (i := 3) (u := u) hb17 hb17.size hb18 (Nat.le_trans HGR.out (Nat.le_of_lt hO.b)) hO.c
            have HRF := keep hRf
            have HBF := keep hbf
            clear hseg hRf hbf hMS hMS'
            go_wp2_with fail
            go_roundw
            case rel => exact ⟨k + 1, _, _, _, _, _, by go_num, by omega, HMS, HRF.out _, hGf, HBF.out _⟩
            case measure => simp [intOf]; omega
        · have hD := hM.out.done hlt
          have hz9 := hGk.z
          have hGG : Dc2 wr p gm gr W7.heap.size wr.heap.size x1.1 x2.1 x3.1 vS (.slice none 0 0) acc [] := ⟨hGk.bp, hGk.bm, (Sl.of_own_btw hGk.s), World.ownsRow_nil _ _ _ _, Nat.le_refl _⟩
          have hl9 : l'.length ≤ 1000000 := by have := hM.out.s; omega
          obtain ⟨sg, hsg⟩ : ∃ sg, sg = manyS segS cn.1 cn.2.1 cn.2.2 := ⟨_, rfl⟩
          rw [← hsg] at hD
          have HSG := keep hsg
          have hRs : Rd wr w.heap.size gr v' sg.2.1 sg.2.2 := by rw [← hD]; exact hRk
          have hGs : Dc2 wr p gm gr W7.heap.size wr.heap.size x1.1 x2.1 x3.1 vS (.slice none 0 0) sg.1 [] := by rw [← hD]; exact hGG
          have hls : sg.2.1.length ≤ 1000000 := by rw [← hD]; exact hl9
          obtain ⟨AS, nS, cS, rfl⟩ : ∃ A n c, vS = .slice A n c := by obtain ⟨A, c, h, _⟩ := (Sl.of_own hGk.s).form; exact ⟨A, _, c, h⟩
          obtain ⟨w20, hw20⟩ : ∃ w20 : World, w20 = wr := ⟨_, rfl⟩
          obtain ⟨base2, hbase2⟩ : ∃ base2, base2 = wr.heap.size := ⟨_, rfl⟩
          rw [← hbase2] at hGs hz9
          clear hsg hD hGG hGk hRk hM hl9 hw20
          have HB2 := keep hz9
          clear hbase2 hz9
          go_wp2_with fail
          refine (rcount_any w.heap.size gr _ _ _ _ hRs hls).mono ?_
          rintro e w21 ⟨rfl, v21, hR21, hg21⟩
          obtain ⟨hd1, hd2⟩ := countS_le sg.2.1 sg.2.2
          have hG21 := hGs.keepR hO HB2.out hg21
          have hbw21 := below_grown hbk hg21 hbk.size hgrw
          obtain ⟨dn, hdn⟩ : ∃ dn, dn = countS sg.2.1 sg.2.2 := ⟨_, rfl⟩
          rw [← hdn] at hd1 hd2 hR21 ⊢
          have hDN := keep hdn
          have hdl : dn.2.1.length ≤ 1000000 := by omega
          clear hdn hRs hg21 hGs hbk hd1
          go_wp2_with fail
          go_loopw [67] (fun i wr => ∃ (k : Nat) (acc : List Mk) (l' : List UInt8) (b' : Bool) (v' vM : Value), i = .int .i64 k ∧ k ≤ dn.1 ∧ Hid (Many mkS dn.1 dn.2.1 dn.2.2 k acc l' b') ∧ Rd wr w.heap.size gr v' l' b' ∧ Dc2 wr p gm gr W7.heap.size base2 x1.1 x2.1 x3.1 (.slice AS nS cS) vM sg.1 acc ∧ Below w.heap.size w wr) (fun i _ => dn.1 - (intOf i).toNat)
          case atStart => exact ⟨0, [], dn.2.1, dn.2.2, v21, _, rfl, Nat.zero_le _, keep (Many.start mkS dn.1 dn.2.1 dn.2.2), hR21, hG21, hbw21⟩
          case round =>
            obtain ⟨k2, acc2, l2, b2, v2, vM, rfl, hk2, hM, hRk, hGk, hbk⟩ := hrel
            obtain ⟨wq, rfl⟩ : ∃ wq : World, wq = wr := ⟨_, rfl⟩
            clear hR21 hG21 hbw21
            by_cases hlt2 : k2 < dn.1
            · have hl10 : l2.length ≤ 1000000 := by have := hM.out.s; omega
              have hacc := keep hM.out.n
              have hMS := keep (hM.out.step hlt2 mkS_le)
              have q1 : Hid (acc2.length + 1 ≤ maxLen) := keep (by have := hacc.out; unfold maxLen; omega)
              have q2 : Hid ((acc2.length + 1) * 24 ≤ 140737488355328) := keep (by have := hacc.out; omega)
              have hR10 : Rd wq.drew w.heap.size gr v2 l2 b2 := ⟨hRk.b, hRk.s, hRk.o⟩
              have hG10 := hGk.drew
              have hb10 := hbk.drew
              have c10 := hGk.bm.cell7.2.2.2.2.1
              obtain ⟨AM, nM, cM, rfl⟩ : ∃ A n c, vM = .slice A n c := by obtain ⟨A, c, h, _⟩ := (Sl.of_own hGk.m_).form; exact ⟨A, _, c, h⟩
              clear hM hRk hGk hbk
              have hgm2 : gm < base2 := Nat.lt_of_lt_of_le hO.c HB2.out
              go_upto_region 14 with fail
              go_region_law (first
                  | (go_simp; go_at_call 60; (with_reducible refine (rint_ex w.heap.size gr _ _ _ _ hR12 hl12).mono ?_); rintro e w13 ⟨a13, ha13, rfl, v13, hR13, hg13, hl13⟩; have hG13 := hG12.keepR hO HB2.out hg13; have z13 := hG13.bm.lt; have c13 := hG13.bm.cell7.2.2.2.2.1; have hb13 := below_grown hb12 hg13 hb12.size hgrw; clear hg13)
                  | (go_simp; go_at_call 60; (with_reducible refine (rint_ex w.heap.size gr _ _ _ _ hR11 hl11).mono ?_); rintro e w12 ⟨a12, ha12, rfl, v12, hR12, hg12, hl12⟩; have hG12 := hG11.keepR hO HB2.out hg12; have z12 := hG12.bm.lt; have c12 := hG12.bm.cell7.2.2.2.2.1; have hb12 := below_grown hb11 hg12 hb11.size hgrw; clear hg12)
                  | (go_simp; go_at_call 60; (with_reducible refine (rint_ex w.heap.size gr _ _ _ _ hR10 hl10).mono ?_); rintro e w11 ⟨a11, ha11, rfl, v11, hR11, hg11, hl11⟩; have hG11 := hG10.keepR hO HB2.out hg11; have z11 := hG11.bm.lt; have c11 := hG11.bm.cell7.2.2.2.2.1; have hb11 := below_grown hb10 hg11 hb10.size hgrw; clear hg11)
                  | (refine step_appendS elMarks rfl _ _ rfl base2 _ acc2.length _ rfl (hG13.m_.alloc _) _ _ 1 _ rfl (mk_lit w13 _ _ _) (mk_one _ _ _) q1.out q2.out (le_alloc hG13.z _) ?_; intro v18 w18 hown18 hb18 hgr18; obtain ⟨g18, c18', rfl⟩ := ownsRow_succ hown18; have hB18 := (hG13.bm.alloc (.cells #[.int .i64 a11.1, .int .i64 a12.1, .int .i64 a13.1] 72)).below hb18 hgm2; have c18 := hB18.cell7.2.2.2.2.1; have f18 := hB18.frozen 4)
                  | fail)
              all_goals
                have hseg := mkS_step ha11.out ha12.out ha13.out
                have hMS' := hMS.out
                rw [hseg] at hMS'
                have HMS := keep hMS'
                have hGf := hG13.put hO HB2.out ⟨a11.1, a12.1, a13.1⟩ _ hb18 hown18
                have hRf := fun (u : Value) => rd_put (i := 4) (u := u) hR13 hb18 hO.b hgm2
                have hbf := fun (u : Value) => below_put (i := 4) (u := u) hb13 hb13.size hb18 (Nat.le_trans HGR.out (Nat.le_of_lt hO.b)) hgm2
                have HRF := keep hRf
                have HBF := keep hbf
                clear hseg hRf hbf hMS hMS'
                go_wp2_with fail
                go_roundw
                case rel => exact ⟨k2 + 1, _, _, _, _, _, by go_num, by omega, HMS, HRF.out _, hGf, HBF.out _⟩
                case measure => simp [intOf]; omega
            · have hD := hM.out.done hlt2
              have hlm : l2.length ≤ 1000000 := by have := hM.out.s; omega
              obtain ⟨mk, hmk⟩ : ∃ mk, mk = manyS mkS dn.1 dn.2.1 dn.2.2 := ⟨_, rfl⟩
              rw [← hmk] at hD
              have HMK := keep hmk
              have hRs : Rd wq w.heap.size gr v2 mk.2.1 mk.2.2 := by rw [← hD]; exact hRk
              have hGs : Dc2 wq p gm gr W7.heap.size base2 x1.1 x2.1 x3.1 (.slice AS nS cS) vM sg.1 mk.1 := by rw [← hD]; exact hGk
              have hls2 : mk.2.1.length ≤ 1000000 := by rw [← hD]; exact hlm
              have hlenM : Hid (mk.1.length ≤ 1000000) := keep (by rw [hmk, manyS_len]; omega)
              have hlenS : Hid (sg.1.length ≤ 1000000) := keep (by rw [HSG.out, manyS_len]; omega)
              clear hmk hD hGk hRk hM hlm
              have hgrwq := hRs.b.lt
              have hzq := hGs.z
              go_wp2_with fail
              refine (rtals_any w.heap.size gr _ _ _ _ hRs hls2).mono ?_
              rintro e w31 ⟨vT, v31, rfl, hoT, hR31, hg31⟩
              have hG31 := hGs.keepR hO HB2.out hg31
              have hbw31 := below_grown hbk hg31 hbk.size hgrw
              obtain ⟨hle1, hle2⟩ := talsS_le mk.2.1 mk.2.2
              have hru1 := talsS_rule mk.2.1 mk.2.2
              obtain ⟨tl, htl⟩ : ∃ tl, tl = talsS mk.2.1 mk.2.2 := ⟨_, rfl⟩
              rw [← htl] at hoT hR31 hle1 hle2 hru1
              have HTL := keep htl
              have HRU1 := keep (fun x hx => Nat.le_trans (hru1 x hx) hls2)
              have hl31 : tl.2.1.length ≤ 1000000 := by omega
              have hlenT : Hid (tl.1.length ≤ 1000000) := keep (by omega)
              have hsT0 := Sl.of_own_btw hoT
              have hz1 := hg31.size
              clear htl hRs hg31 hGs hbk hle1 hle2 hru1
              go_wp2_with fail
              refine (rtals_any w.heap.size gr _ _ _ _ hR31 hl31).mono ?_
              rintro e w32 ⟨vE, v32, rfl, hoE, hR32, hg32⟩
              have hG32 := hG31.keepR hO HB2.out hg32
              have hbw32 := below_grown hbw31 hg32 hbw31.size hgrw
              obtain ⟨hle1, hle2⟩ := talsS_le tl.2.1 tl.2.2
              have hru2 := talsS_rule tl.2.1 tl.2.2
              obtain ⟨ex, hex⟩ : ∃ ex, ex = talsS tl.2.1 tl.2.2 := ⟨_, rfl⟩
              rw [← hex] at hoE hR32 hle1 hle2 hru2
              have HEX := keep hex
              have HRU2 := keep (fun x hx => Nat.le_trans (hru2 x hx) hl31)
              have hlenE : Hid (ex.1.length ≤ 1000000) := keep (by omega)
              have hsT := hsT0.grown hg32 (fun k hk => ⟨hk.2, fun e => by injection e with e; have := hk.1; omega⟩)
              have hsE := Sl.of_own_btw hoE
              have hz2 := hg32.size
              obtain ⟨AM, nM, cM, rfl⟩ : ∃ A n c, vM = .slice A n c := by obtain ⟨A, c, h, _⟩ := (Sl.of_own hG32.m_).form; exact ⟨A, _, c, h⟩
              obtain ⟨AT, nT, cT, rfl⟩ : ∃ A n c, vT = .slice A n c := by obtain ⟨A, c, h, _⟩ := hsT.form; exact ⟨A, _, c, h⟩
              obtain ⟨AE, nE, cE, rfl⟩ : ∃ A n c, vE = .slice A n c := by obtain ⟨A, c, h, _⟩ := hsE.form; exact ⟨A, _, c, h⟩
              have HPd : Hid (Parsed ((body b).drop 4) ⟨x1.1, x2.1, x3.1, sg.1, mk.1, tl.1, ex.1⟩ ex.2.2) := ⟨x1, x2, x3, cn, sg, dn, mk, tl, ex, hx1.out, hx2.out, hx3.out, hCN.out, HSG.out, hDN.out, HMK.out, HTL.out, HEX.out, rfl, rfl⟩
              have hsm : Hid (SmallP ⟨x1.1, x2.1, x3.1, sg.1, mk.1, tl.1, ex.1⟩) := ⟨hlenS.out, hlenM.out, hlenT.out, hlenE.out, HRU1.out, HRU2.out⟩
              clear hex hR31 hg32 hG31 hbw31 hle1 hle2 hru2 hoT hoE hsT0 hlenS hlenM hlenT hlenE HRU1 HRU2
              have f5 := hG32.bm.frozen 5
              have f6 := hG32.bm.frozen 6
              obtain ⟨a0, a1, a2, a3, a4, a5, a6⟩ := hG32.bm.cell7
              go_upto_region 17 with fail
              obtain ⟨w33, hw33⟩ : ∃ w33, w33 = (w32.setCell ⟨gm, 5, none⟩ (.slice AT nT cT)).setCell ⟨gm, 6, none⟩ (.slice AE nE cE) := ⟨_, rfl⟩
              rw [← hw33]
              have h1 := hO.a
              have h2 := hO.b
              have h3 := hO.c
              have h4 := HB2.out
              have hgs : w32.grownBy w33 (some gm) := by rw [hw33]; exact grownBy_set (grownBy_set (World.grownBy.refl _ _) _ _) _ _
              have hM5 : Blk (w32.setCell ⟨gm, 5, none⟩ (.slice AT nT cT)) gm 28 #[.int .i64 x1.1, .int .i64 x2.1, .int .i64 x3.1, .slice AS nS cS, .slice AM nM cM, .slice AT nT cT, .slice none 0 0] := hG32.bm.set_ 5 _
              have hM33 : Blk w33 gm 28 #[.int .i64 x1.1, .int .i64 x2.1, .int .i64 x3.1, .slice AS nS cS, .slice AM nM cM, .slice AT nT cT, .slice AE nE cE] := by rw [hw33]; exact hM5.set_ 6 _
              have hP33 := hG32.bp.grown hgs (fun e => by injection e; omega)
              have hRb : w33.cell? ⟨gr, 1, none⟩ = some (.bool ex.2.2) := (hR32.b.grown hgs (fun e => by injection e; omega)).cell2.2
              have hz32 := hG32.z
              have hz33 := hgs.size
              have hL33 : Lies w33 (btw (gm + 1) w33.heap.size) ⟨x1.1, x2.1, x3.1, sg.1, mk.1, tl.1, ex.1⟩ (.slice AS nS cS) (.slice AM nM cM) (.slice AT nT cT) (.slice AE nE cE) := by
                refine ⟨?_, ?_, ?_, ?_⟩
                · exact (hG32.s.grown hgs (fun k hk => ⟨by have := hk.2; omega, fun e => by injection e with e; have := hk.1; omega⟩)).mono (fun k hk => ⟨by have := hk.1; omega, by have := hk.2; omega⟩)
                · exact ((Sl.of_own_btw hG32.m_).grown hgs (fun k hk => ⟨hk.2, fun e => by injection e with e; have := hk.1; omega⟩)).mono (fun k hk => ⟨by have := hk.1; omega, by have := hk.2; omega⟩)
                · exact (hsT.grown hgs (fun k hk => ⟨by have := hk.2; omega, fun e => by injection e with e; have := hk.1; omega⟩)).mono (fun k hk => ⟨by have := hk.1; omega, by have := hk.2; omega⟩)
                · exact (hsE.grown hgs (fun k hk => ⟨hk.2, fun e => by injection e with e; have := hk.1; omega⟩)).mono (fun k hk => ⟨by have := hk.1; omega, by have := hk.2; omega⟩)
              have hbw33 := below_grown hbw32 hgs hbw32.size (by have := HGR.out; omega)
              clear hw33 hgs hM5 hG32 hR32 hsT hsE hbw32 f5 f6 a0 a1 a2 a3 a4 a5 a6 hz1 hz2 hz32 hz33
              have hlM := hM33.lt
              have hlP := hP33.lt
              obtain ⟨a0, a1, a2, a3, a4, a5, a6⟩ := hM33.cell7
              go_wp2_with fail
              refine (encode_any ⟨x1.1, x2.1, x3.1, sg.1, mk.1, tl.1, ex.1⟩ _ _ _ _ w33 (hL33.mono (fun k hk => hk.2)) hsm.out.small hsm.out.len).mono ?_
              rintro e w34 ⟨vN, rfl, hoN, hb34⟩
              obtain ⟨er, her⟩ : ∃ er, manErr ⟨x1.1, x2.1, x3.1, sg.1, mk.1, tl.1, ex.1⟩ = er := ⟨_, rfl⟩
              have HER := keep her
              rw [her]
              clear her a0 a1 a2 a3 a4 a5 a6
              have hM34 := hM33.below hb34 hlM
              have hP34 := hP33.below hb34 hlP
              have hRb34 := (hb34.cell (p := ⟨gr, 1, none⟩) (by show gr < w33.heap.size; omega)).trans hRb
              have hL34 : Lies w34 (btw (gm + 1) w33.heap.size) ⟨x1.1, x2.1, x3.1, sg.1, mk.1, tl.1, ex.1⟩ (.slice AS nS cS) (.slice AM nM cM) (.slice AT nT cT) (.slice AE nE cE) :=
                ⟨hL33.s.under hb34 (fun k hk => hk.2), hL33.m_.under hb34 (fun k hk => hk.2), hL33.t.under hb34 (fun k hk => hk.2), hL33.e.under hb34 (fun k hk => hk.2)⟩
              have hbw34 := bchain hbw33 hb34
              have hz34 := keep hb34.size
              clear hM33 hP33 hRb hL33 hbw33 hb34
              obtain ⟨bad, hbad⟩ : ∃ bad, ex.2.2 = bad := ⟨_, rfl⟩
              have HBD := keep hbad
              rw [hbad] at hRb34
              clear hbad
              by_cases hB : bad = true
              · have HNF : ¬ Fits b ⟨x1.1, x2.1, x3.1, sg.1, mk.1, tl.1, ex.1⟩ ex.2.2 := fun h => by have := h.1; rw [HBD.out, hB] at this; cases this
                have hD : Decd b manZero 22 := .inr (.inr ⟨by have := H8.out; omega, of_decide_eq_true HQ.e, _, _, HPd.out, .inr ⟨HNF, rfl, rfl⟩⟩)
                have HF := keep (dec_err (p := p) (by have := HP.out; omega) hD hbw34 (.int .i64 0) (.int .i64 0) (.int .i64 0) (.slice none 0 0) (.slice none 0 0) (.slice none 0 0) (.slice none 0 0))
                obtain ⟨y0, y1, y2, y3, y4, y5, y6⟩ := (put7_blk hP34 (.int .i64 0) (.int .i64 0) (.int .i64 0) (.slice none 0 0) (.slice none 0 0) (.slice none 0 0) (.slice none 0 0)).cell7
                obtain ⟨e0, e1, e2, e3, e4, e5, e6⟩ := hP34.cell7
                have g0 := hP34.frozen 0
                have g1 := hP34.frozen 1
                have g2 := hP34.frozen 2
                have g3 := hP34.frozen 3
                have g4 := hP34.frozen 4
                have g5 := hP34.frozen 5
                have g6 := hP34.frozen 6
                clear hD HNF
                subst hB
                go_wp2_with fail
                refine bodyPost_ret (v := .tuple #[.agg manZ7, .int .i64 22]) (by simp [results, Try.results24, go_sem, y0, y1, y2, y3, y4, y5, y6]) rfl ?_
                exact HF.out
              · have hB' : bad = false := by simpa using hB
                subst hB'
                clear hB
                by_cases hE : er = 0
                · subst hE
                  have hout : encOut ⟨x1.1, x2.1, x3.1, sg.1, mk.1, tl.1, ex.1⟩ = encB ⟨x1.1, x2.1, x3.1, sg.1, mk.1, tl.1, ex.1⟩ := by unfold encOut; rw [if_pos HER.out]
                  rw [hout] at hoN
                  have hbsl := (hs1.out _ hbw34).2.2.2
                  have hoN' := hoN.slt
                  obtain ⟨q, hq⟩ : ∃ q, decide (encB ⟨x1.1, x2.1, x3.1, sg.1, mk.1, tl.1, ex.1⟩ = b) = q := ⟨_, rfl⟩
                  have HEQ : Hid (EncQ ⟨x1.1, x2.1, x3.1, sg.1, mk.1, tl.1, ex.1⟩ b q) := ⟨hq⟩
                  clear hq hout
                  go_wp2_with fail
                  refine (bequal_any _ _ _ b _ _ w34 hoN' hbsl).mono ?_
                  rintro e w35 ⟨rfl, rfl⟩
                  rw [HEQ.out.e]
                  cases q with
                  | true =>
                    have hF : Fits b ⟨x1.1, x2.1, x3.1, sg.1, mk.1, tl.1, ex.1⟩ ex.2.2 := ⟨HBD.out, HER.out, of_decide_eq_true HEQ.out.e⟩
                    have hD : Decd b ⟨x1.1, x2.1, x3.1, sg.1, mk.1, tl.1, ex.1⟩ 0 := .inr (.inr ⟨by have := H8.out; omega, of_decide_eq_true HQ.e, _, _, HPd.out, .inl ⟨hF, rfl, rfl⟩⟩)
                    have hgp := put7_grown w34 p (.int .i64 x1.1) (.int .i64 x2.1) (.int .i64 x3.1) (.slice AS nS cS) (.slice AM nM cM) (.slice AT nT cT) (.slice AE nE cE)
                    have hzz := hz34.out
                    have hHP := HP.out
                    have hHG := HGR.out
                    have HF : Hid (DecOut w b (.returned (.tuple #[.agg #[.int .i64 x1.1, .int .i64 x2.1, .int .i64 x3.1, .slice AS nS cS, .slice AM nM cM, .slice AT nT cT, .slice AE nE cE], .int .i64 0])) (put7 w34 p (.int .i64 x1.1) (.int .i64 x2.1) (.int .i64 x3.1) (.slice AS nS cS) (.slice AM nM cM) (.slice AT nT cT) (.slice AE nE cE))) := by
                      have hcond : ∀ k, btw (gm + 1) w33.heap.size k → k < w34.heap.size ∧ some k ≠ some p := fun k hk => ⟨by have := hk.2; omega, fun e => by injection e with e; have := hk.1; omega⟩
                      have hcond2 : ∀ k, btw (gm + 1) w33.heap.size k → btw w.heap.size (put7 w34 p (.int .i64 x1.1) (.int .i64 x2.1) (.int .i64 x3.1) (.slice AS nS cS) (.slice AM nM cM) (.slice AT nT cT) (.slice AE nE cE)).heap.size k := fun k hk => ⟨by have := hk.1; omega, Nat.lt_of_lt_of_le hk.2 (Nat.le_trans hzz hgp.size)⟩
                      refine ⟨_, 0, hD, _, _, _, _, rfl, ⟨(hL34.s.grown hgp hcond).mono hcond2, (hL34.m_.grown hgp hcond).mono hcond2, (hL34.t.grown hgp hcond).mono hcond2, (hL34.e.grown hgp hcond).mono hcond2⟩, ?_⟩
                      exact below_grown hbw34 hgp hbw34.size (by omega)
                    obtain ⟨y0, y1, y2, y3, y4, y5, y6⟩ := (put7_blk hP34 (.int .i64 x1.1) (.int .i64 x2.1) (.int .i64 x3.1) (.slice AS nS cS) (.slice AM nM cM) (.slice AT nT cT) (.slice AE nE cE)).cell7
                    obtain ⟨e0, e1, e2, e3, e4, e5, e6⟩ := hP34.cell7
                    obtain ⟨b0, b1, b2, b3, b4, b5, b6⟩ := hM34.cell7
                    have g0 := hP34.frozen 0
                    have g1 := hP34.frozen 1
                    have g2 := hP34.frozen 2
                    have g3 := hP34.frozen 3
                    have g4 := hP34.frozen 4
                    have g5 := hP34.frozen 5
                    have g6 := hP34.frozen 6
                    clear hD hF hgp hzz hHP hHG
                    go_wp2_with fail
                    refine bodyPost_ret (v := .tuple #[.agg #[.int .i64 x1.1, .int .i64 x2.1, .int .i64 x3.1, .slice AS nS cS, .slice AM nM cM, .slice AT nT cT, .slice AE nE cE], .int .i64 0]) (by simp [results, Try.results24, go_sem, y0, y1, y2, y3, y4, y5, y6]) rfl ?_
                    exact HF.out
                  | false =>
                    have HNF : ¬ Fits b ⟨x1.1, x2.1, x3.1, sg.1, mk.1, tl.1, ex.1⟩ ex.2.2 := fun h => of_decide_eq_false HEQ.out.e h.2.2
                    have hD : Decd b manZero 22 := .inr (.inr ⟨by have := H8.out; omega, of_decide_eq_true HQ.e, _, _, HPd.out, .inr ⟨HNF, rfl, rfl⟩⟩)
                    have HF := keep (dec_err (p := p) (by have := HP.out; omega) hD hbw34 (.int .i64 0) (.int .i64 0) (.int .i64 0) (.slice none 0 0) (.slice none 0 0) (.slice none 0 0) (.slice none 0 0))
                    obtain ⟨y0, y1, y2, y3, y4, y5, y6⟩ := (put7_blk hP34 (.int .i64 0) (.int .i64 0) (.int .i64 0) (.slice none 0 0) (.slice none 0 0) (.slice none 0 0) (.slice none 0 0)).cell7
                    obtain ⟨e0, e1, e2, e3, e4, e5, e6⟩ := hP34.cell7
                    have g0 := hP34.frozen 0
                    have g1 := hP34.frozen 1
                    have g2 := hP34.frozen 2
                    have g3 := hP34.frozen 3
                    have g4 := hP34.frozen 4
                    have g5 := hP34.frozen 5
                    have g6 := hP34.frozen 6
                    clear hD HNF
                    go_wp2_with fail
                    refine bodyPost_ret (v := .tuple #[.agg manZ7, .int .i64 22]) (by simp [results, Try.results24, go_sem, y0, y1, y2, y3, y4, y5, y6]) rfl ?_
                    exact HF.out
                · have HNF : ¬ Fits b ⟨x1.1, x2.1, x3.1, sg.1, mk.1, tl.1, ex.1⟩ ex.2.2 := fun h => hE (HER.out.symm.trans h.2.1)
                  have hD : Decd b manZero 22 := .inr (.inr ⟨by have := H8.out; omega, of_decide_eq_true HQ.e, _, _, HPd.out, .inr ⟨HNF, rfl, rfl⟩⟩)
                  have HF := keep (dec_err (p := p) (by have := HP.out; omega) hD hbw34 (.int .i64 0) (.int .i64 0) (.int .i64 0) (.slice none 0 0) (.slice none 0 0) (.slice none 0 0) (.slice none 0 0))
                  obtain ⟨y0, y1, y2, y3, y4, y5, y6⟩ := (put7_blk hP34 (.int .i64 0) (.int .i64 0) (.int .i64 0) (.slice none 0 0) (.slice none 0 0) (.slice none 0 0) (.slice none 0 0)).cell7
                  obtain ⟨e0, e1, e2, e3, e4, e5, e6⟩ := hP34.cell7
                  have g0 := hP34.frozen 0
                  have g1 := hP34.frozen 1
                  have g2 := hP34.frozen 2
                  have g3 := hP34.frozen 3
                  have g4 := hP34.frozen 4
                  have g5 := hP34.frozen 5
                  have g6 := hP34.frozen 6
                  clear hD HNF
                  go_wp2_with fail
                  refine bodyPost_ret (v := .tuple #[.agg manZ7, .int .i64 22]) (by simp [results, Try.results24, go_sem, y0, y1, y2, y3, y4, y5, y6]) rfl ?_
                  exact HF.out
end Go.Proofs.Ytkjhnipjhefndaa
