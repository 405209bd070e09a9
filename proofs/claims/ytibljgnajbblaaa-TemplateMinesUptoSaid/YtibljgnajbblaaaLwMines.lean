/- TemplateMines: the walk of the statement. -/
import Derived.Test.YtibljgnajbblaaaR14T
namespace Go.Proofs.Ytibljgnajbblaaa
open Go.RowKit

theorem ms_own {w : World} {B : Nat} {v : Value} {R : List Tm} (h : w.ownsRow B 33 2 v R.length (tms R)) (hT : ∀ t ∈ R, TkM w B t) : MS w v R := ⟨Sl.of_own h, fun t ht => (hT t ht).r⟩
theorem lnT_eq {R1 R2 : List Tm} {S : List ByteArray} (h1 : (tpL R1).Perm (ofA (lnT S))) (s1 : Srt (tpL R1)) (h2 : (tpL R2).Perm (ofA (lnT S))) (s2 : Srt (tpL R2)) : st R1 = st R2 :=
  srt_eq s1 s2 (h1.trans h2.symm)
theorem toks_same (s : ByteArray) : (toks s).isSome = (tokW (lb s)).isSome ∧ ∀ T : List ByteArray, strs T = (tokW (lb s)).getD [] → T = (toks s).getD [] := by
  have h := toks_eq s
  rw [← h]
  refine ⟨by cases toks s <;> rfl, fun T hT => strs_inj (hT.trans ?_)⟩
  cases toks s <;> rfl
set_option maxHeartbeats 16000000 in
set_option maxRecDepth 100000 in
theorem law_mines (v0 vc : Value) (S0 : List ByteArray) (bs : List Int) (w : World)
    (hs0 : Sl w (lt w.heap.size) 1 v0 S0.length (S0.map .string)) (hz0 : ∀ s ∈ S0, s.size ≤ 1048576)
    (hsc : Sl w (lt w.heap.size) 1 vc bs.length (bs.map (.int .u8))) (hr : ∀ x ∈ bs, 0 ≤ x ∧ x ≤ 255) (hm : bs.length ≤ maxLen) :
    Calls Try.prog 3 #[v0, vc] w fun e w' => e = .returned (.bool true) ∧ Below w.heap.size w w' := by
  obtain ⟨A0, c0, rfl, _, hs0⟩ := hs0.form
  have HS0 := keep hs0
  have HZ0 := keep hz0
  have HR := keep hr
  clear hs0 hz0
  go_enter Try.func3, Try.ntmps3
  go_wp2_with fail
  refine (awake_true _).mono ?_
  rintro e w1 ⟨rfl, hb1'⟩
  have hS1 := hsc.upW hb1'
  clear hsc
  by_cases h30 : (30 : Int) < (S0.length : Int)
  · go_wp2_with fail
    go_ret
    exact ⟨rfl, hb1'⟩
  · go_wp2_with fail
    refine (drawNew _ bs 200 _ hS1 HR.out (by omega) hm).mono ?_
    rintro e w2 ⟨gc, rfl, hgc, hC2, hb2⟩
    have hbw2 := bchain hb1' hb2
    have hgl := hC2.lt_
    have hz1 := hb1'.size
    clear hS1 hb1' hb2
    go_wp2_with fail
    refine (lines_any gc 24 _ hC2 (by omega)).mono ?_
    rintro e W ⟨vl, S, rfl, hSl, hSz, hV, _, hg3⟩
    obtain ⟨A2, c2, rfl, hc2⟩ := own_sl hV
    have hb3 : Below w.heap.size w W := below_grown hbw2 hg3 hbw2.size (by omega)
    have HSZ := keep hSz
    have HB3 := keep hb3
    have HVS := keep (Sl.of_own hV)
    have HS3 := keep (HS0.out.below hb3 (Nat.le_refl _))
    have HONE := keep (oneCells (fun s : ByteArray => Value.string s) (fun _ => rfl) S)
    have HONE0 := keep (oneCells (fun s : ByteArray => Value.string s) (fun _ => rfl) S0)
    have HLA : Hid (0 + S.length ≤ maxLen) := keep (by unfold maxLen; omega)
    have HLB : Hid ((0 + S.length) * 16 ≤ 140737488355328) := keep (by omega)
    have HLC : Hid (S.length + S0.length ≤ maxLen) := keep (by unfold maxLen; omega)
    have HLD : Hid ((S.length + S0.length) * 16 ≤ 140737488355328) := keep (by omega)
    clear hV hSz hg3 hb3 hC2 hbw2 hc2
    go_wp2_with (first
      | (refine wpList_appendS elSg rfl (.tmp 31) (.tmp 32) rfl W.heap.size (.slice A5 S.length c5) S.length (S.map .string) rfl HO5.out (lt w.heap.size) (.slice A0 S0.length c0) S0.length (S0.map .string) rfl (HS3.out.below (HB5.out.mono HB3.out.size) (Nat.le_refl _)) HONE0.out HLC.out HLD.out HB5.out.size ?_; intro v6 w6 hown6 hb6 hg6; obtain ⟨A6, c6, rfl, _⟩ := own_sl hown6; have HO6 := keep hown6; have HB6 := keep (HB5.out.trans (hb6.mono (Nat.le_refl _))); clear hown6 hb6 hg6)
      | (refine wpList_appendS elSg rfl (.const (.slice none 0 0)) (.tmp 30) rfl W.heap.size (.slice none 0 0) 0 [] rfl (World.ownsRow_nil _ _ _ _) _ (.slice A2 S.length c2) S.length (S.map .string) rfl HVS.out HONE.out HLA.out HLB.out (Nat.le_refl _) ?_; intro v5 w5 hown5 hb5 hg5; rw [Nat.zero_add, List.nil_append] at hown5; obtain ⟨A5, c5, rfl, _⟩ := own_sl hown5; have HO5 := keep hown5; have HB5 := keep hb5; clear hown5 hb5 hg5)
      | fail)
    obtain ⟨W2, hW2⟩ : ∃ W2, W2 = w6.alloc (.cells #[.slice A0 S0.length c0, .slice A2 S.length c2, .slice A6 (S.length + S0.length) c6] 22) := ⟨_, rfl⟩
    have hal : Below w6.heap.size w6 W2 := hW2 ▸ (Below.refl _ w6).alloc (Nat.le_refl _) _
    have hbx : Blk W2 w6.heap.size 22 #[.slice A0 S0.length c0, .slice A2 S.length c2, .slice A6 (S.length + S0.length) c6] := hW2 ▸ Blk.new w6 _ _
    have hW6 : Below W.heap.size W W2 := HB6.out.trans (hal.mono HB6.out.size)
    have HX : Hid (∀ k, k < 3 → ∃ (A : Option Addr) (c : Nat) (X : List ByteArray), W2.cell? ⟨w6.heap.size, k, none⟩ = some (.slice A X.length c) ∧ Sl W2 (lt W2.heap.size) 1 (.slice A X.length c) X.length (X.map .string) ∧ (∀ s ∈ X, s.size ≤ 1048576) ∧ X.length ≤ 54) := keep (fun k hk => by
      have b0 : W2.cell? ⟨w6.heap.size, 0, none⟩ = some (.slice A0 S0.length c0) := (hbx.cell 0).trans rfl
      have b1 : W2.cell? ⟨w6.heap.size, 1, none⟩ = some (.slice A2 S.length c2) := (hbx.cell 1).trans rfl
      have b2 : W2.cell? ⟨w6.heap.size, 2, none⟩ = some (.slice A6 (S.length + S0.length) c6) := (hbx.cell 2).trans rfl
      have e : k = 0 ∨ k = 1 ∨ k = 2 := by omega
      rcases e with rfl | rfl | rfl
      · exact ⟨A0, c0, S0, b0, (HS3.out.below (hW6.mono HB3.out.size) (Nat.le_refl _)).more (Nat.le_trans HB3.out.size hW6.size), HZ0.out, by omega⟩
      · exact ⟨A2, c2, S, b1, HVS.out.upW hW6, fun s hs => by have := HSZ.out s hs; omega, by omega⟩
      · refine ⟨A6, c6, S ++ S0, by rw [List.length_append]; exact b2, ?_, fun s hs => ?_, by rw [List.length_append]; omega⟩
        · have h := (Sl.of_own HO6.out).upW hal
          rw [List.length_append, List.map_append]
          exact h
        · rcases List.mem_append.1 hs with h | h
          · have := HSZ.out s h; omega
          · exact HZ0.out s h)
    have HBX := keep hbx
    have HBW2 := keep (HB3.out.trans (hW6.mono HB3.out.size))
    rw [← hW2]
    have hbl := hbx.lt
    clear hW2 hal hbx hW6 HO6 HB6 HO5 HB5 HVS HS3
    go_loopw [36] (fun u36 wr => ∃ k : Nat, k ≤ 3 ∧ u36 = .int .i64 k ∧ Hid (Below W2.heap.size W2 wr)) (fun u36 _ => 3 - (intOf u36).toNat)
    case atStart => exact ⟨0, by omega, rfl, keep (Below.refl _ _)⟩
    case round =>
      obtain ⟨k, hk, rfl, hB⟩ := hrel
      obtain ⟨wo, rfl⟩ : ∃ wo : World, wo = wr := ⟨_, rfl⟩
      by_cases hlt : k < 3
      · obtain ⟨A, c, X, q0, hsl, hz, hXl⟩ := HX.out k hlt
        have q1 : wo.cell? ⟨w6.heap.size, k, none⟩ = some (.slice A X.length c) := (hB.out.cell hbl).trans q0
        have HSL := keep (hsl.upW hB.out)
        have HZ := keep hz
        have i1 : (k : Int) < 3 := by omega
        have HM1 := keep (mineL_any (.slice A X.length c) X wo HSL.out (fun s hs => by have := hz s hs; omega) (by omega))
        clear q0 hsl hz
        go_wp2_with fail
        refine HM1.out.mono ?_
        rintro e w7 ⟨v7, R1, rfl, ho7, ht7, hp7, hs7, hl7, hb7⟩
        obtain ⟨AR, cR, rfl, _⟩ := own_sl ho7
        have HR1 := keep (ms_own ho7 ht7)
        have HP1 := keep hp7
        have HS1 := keep hs7
        have hR1l : R1.length ≤ 54 := by omega
        have HB7 := keep (hB.out.trans (hb7.mono hB.out.size))
        have HSL7 := keep (HSL.out.upW hb7)
        have HM2 := keep (refMine_any (.slice A X.length c) X w7 HSL7.out (fun s hs => by have := HZ.out s hs; omega) (by omega))
        clear ho7 ht7 hp7 hs7 hl7 hb7 HM1 q1
        go_wp2_with fail
        refine HM2.out.mono ?_
        rintro e w8 ⟨v8, R2, rfl, hM8, hp8, hs8, hl8, hb8⟩
        obtain ⟨AQ, cQ, rfl, _, _⟩ := hM8.1.form
        have HR1b := keep (HR1.out.up hb8)
        have HR2 := keep hM8
        have HP2 := keep hp8
        have hR2l : R2.length ≤ 54 := by omega
        have HB8 := keep (HB7.out.trans (hb8.mono HB7.out.size))
        have HSL8 := keep (HSL7.out.upW hb8)
        have HSAME := keep (same_any (.slice AR R1.length cR) (.slice AQ R2.length cQ) R1 R2 w8 HR1b.out hM8 (lnT_eq HP1.out HS1.out hp8 hs8) (by omega))
        clear hM8 hp8 hs8 hl8 hb8 HM2 HP1 HS1
        go_wp2_with fail
        refine HSAME.out.mono ?_
        rintro e w9 ⟨rfl, hb9⟩
        have HR3 := keep (HR2.out.up hb9)
        have HB9 := keep (HB8.out.trans (hb9.mono HB8.out.size))
        have HSL9 := keep (HSL8.out.upW hb9)
        clear hb9 HSAME HR1 HR1b
        go_wp2_with fail
        go_loopw [50] (fun u50 wr => ∃ j : Nat, j ≤ R2.length ∧ u50 = .int .i64 j ∧ Hid (Below w9.heap.size w9 wr)) (fun u50 _ => R2.length - (intOf u50).toNat)
        case atStart => exact ⟨0, Nat.zero_le _, rfl, keep (Below.refl _ _)⟩
        case round =>
          obtain ⟨j, hj, rfl, hBj⟩ := hrel
          obtain ⟨wp, rfl⟩ : ∃ wp : World, wp = wr := ⟨_, rfl⟩
          by_cases hjl : j < R2.length
          · have hMp := HR3.out.up hBj.out
            obtain ⟨b1, o1, hAe, _, d0, d1⟩ := tm_cells hMp.1 hjl
            subst hAe
            have htr := hMp.2 _ (List.getElem_mem hjl)
            have htl := text_len HP2.out HZ.out (List.getElem_mem hjl)
            obtain ⟨t, ht⟩ : ∃ t, R2[j] = t := ⟨_, rfl⟩
            rw [ht] at d0 d1 htr htl
            obtain ⟨tv, T, ct⟩ := t
            simp only at d0 d1 htl
            obtain ⟨ya, yn, yc, hyv⟩ := htr.form
            simp only at hyv
            subst hyv
            obtain ⟨wb, hwb⟩ : ∃ wb, wb = wp.alloc (.cells #[.slice ya yn yc, .int .i64 ct] 33) := ⟨_, rfl⟩
            have hbB : Below wp.heap.size wp wb := hwb ▸ (Below.refl _ wp).alloc (Nat.le_refl _) _
            have hbk : Blk wb wp.heap.size 33 #[.slice ya yn yc, .int .i64 ct] := hwb ▸ Blk.new wp _ _
            have htb := htr.up hbB
            obtain ⟨c0, c1⟩ := hbk.cell2
            have hbd : Below wb.heap.size wb wb.drew := (Below.refl _ wb).drew
            have htd := htb.up hbd
            have HT1 := keep (text_any ⟨.slice ya yn yc, T, ct⟩ wb.drew htd htl.1 htl.2.2)
            have HT2 := keep (fun (w' : World) (h : Below wb.drew.heap.size wb.drew w') => refText_any ⟨.slice ya yn yc, T, ct⟩ w' (htd.up h) htl.2.2)
            have HBK := keep hbk
            have HWB := keep (hBj.out.trans ((hbB.trans ((Below.refl _ wb).drew.mono hbB.size)).mono hBj.out.size))
            have HW := keep hwb
            have hxx : ((textB T).toList != (textB T).toList) = false := by simp [bne]
            have j1 : (j : Int) < (R2.length : Int) := by omega
            have j2 : (j : Int) ≤ 54 := by omega
            simp only [tmV] at HT1 HT2
            clear hMp htr htb htd hbd hbk hbB htl ht hwb
            go_wp2_with fail
            rw [← HW.out]
            go_region_with (first
              | (go_at_call 15; refine (HT2.out w10 HB10.out).mono ?_; rintro e w11 ⟨rfl, hb11⟩
                 have HB11 := keep (HB10.out.trans (hb11.mono HB10.out.size)))
              | (go_at_call 14; refine (HT1.out).mono ?_; rintro e w10 ⟨rfl, hb10⟩
                 have HB10 := keep hb10
                 obtain ⟨e0, e1⟩ := (HBK.out.below (w' := w10) (B := wb.heap.size) ((Below.refl _ wb).drew.trans hb10) HBK.out.lt).cell2)
              | fail)
            all_goals
              go_wp2_with fail
              go_roundw
              case rel => exact ⟨j + 1, by omega, by go_num, keep (HWB.out.trans (HB11.out.mono HWB.out.size))⟩
              case measure => simp [intOf]; omega
          · obtain rfl : j = R2.length := by omega
            have HSLp := keep (HSL9.out.upW hBj.out)
            have HBp := keep (HB9.out.trans (hBj.out.mono HB9.out.size))
            go_wp2_with fail
            go_loopw [62] (fun u62 wr => ∃ j : Nat, j ≤ X.length ∧ u62 = .int .i64 j ∧ Hid (Below wp.heap.size wp wr)) (fun u62 _ => X.length - (intOf u62).toNat)
            case atStart => exact ⟨0, Nat.zero_le _, rfl, keep (Below.refl _ _)⟩
            case round =>
              obtain ⟨j, hj, rfl, hBq⟩ := hrel
              obtain ⟨wq, rfl⟩ : ∃ wq : World, wq = wr := ⟨_, rfl⟩
              by_cases hjl : j < X.length
              · obtain ⟨b, o, hAe, hb, d0⟩ := str_at (HSLp.out.upW hBq.out) hjl
                subst hAe
                have hsz := HZ.out _ (List.getElem_mem hjl)
                obtain ⟨s, hs⟩ : ∃ s, X[j] = s := ⟨_, rfl⟩
                rw [hs] at d0 hsz
                obtain ⟨hq1, hq2⟩ := toks_same s
                have HT1 := keep (tokens_any s wq (by omega))
                have HT2 := keep (fun w' : World => refTok_any s w' (by omega))
                have HQ2 := keep hq2
                have HQ1 := keep hq1
                have j1 : (j : Int) < (X.length : Int) := by omega
                have j2 : (j : Int) ≤ 54 := by omega
                clear hs hq2 hq1
                go_wp2_with fail
                refine HT1.out.mono ?_
                rintro e wr1 ⟨tv, T, rfl, hT, hT6, hown, hbr1⟩
                obtain ⟨TA, TC, rfl, _⟩ := own_sl hown
                have HS1 := keep (Sl.of_own hown)
                have HTE := keep hT
                have HBR1 := keep (hBq.out.trans (hbr1.mono hBq.out.size))
                clear hown hbr1 hT HT1
                go_wp2_with fail
                refine (HT2.out wr1).mono ?_
                rintro e wr2 ⟨tv2, T2, rfl, hT2, hT26, hown2, hbr2⟩
                obtain ⟨TA2, TC2, rfl, _⟩ := own_sl hown2
                obtain rfl : T2 = T := (HQ2.out T2 hT2).trans HTE.out.symm
                have HBR2 := keep (HBR1.out.trans (hbr2.mono HBR1.out.size))
                have HSS := keep (sameStr_any (.slice TA T2.length TC) (.slice TA2 T2.length TC2) T2 T2 wr2 (HS1.out.upW hbr2) (Sl.of_own hown2) (by omega))
                obtain ⟨q, hq⟩ : ∃ q, (toks s).isSome = q := ⟨_, rfl⟩
                have hq' := HQ1.out.symm.trans hq
                rw [hq, hq']
                rw [decide_eq_true rfl] at HSS
                clear hown2 hbr2 hT2 HT2 HTE HQ2 HQ1 hq hq'
                cases q
                all_goals
                  go_wp2_with fail
                  refine HSS.out.mono ?_
                  rintro e wr3 ⟨rfl, hbr3⟩
                  have HBR3 := keep (HBR2.out.trans (hbr3.mono HBR2.out.size))
                  clear hbr3
                  go_wp2_with fail
                  go_roundw
                  case rel => exact ⟨j + 1, by omega, by go_num, HBR3⟩
                  case measure => simp [intOf]; omega
              · obtain rfl : j = X.length := by omega
                have HBf := keep (HBp.out.trans (hBq.out.mono HBp.out.size))
                go_wp2_with fail
                go_roundw
                case rel => exact ⟨k + 1, by omega, by go_num, HBf⟩
                case measure => simp [intOf]; omega
      · obtain rfl : k = 3 := by omega
        go_wp2_with fail
        go_ret
        exact ⟨rfl, HBW2.out.trans (hB.out.mono HBW2.out.size)⟩
end Go.Proofs.Ytibljgnajbblaaa
