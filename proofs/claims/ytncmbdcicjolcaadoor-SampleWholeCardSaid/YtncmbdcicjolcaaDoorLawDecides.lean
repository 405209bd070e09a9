/- SampleDecides: the walk of the statement. -/
import Derived.Test.YtncmbdcicjolcaaDoorLawCounts
import Derived.Test.YtncmbdcicjolcaaDoorSamplings
namespace Go.Proofs.YtncmbdcicjolcaaDoor
open Go.RowKit

theorem law_decides_long (vc : Value) (s : ByteArray) (weight key : Int) (w : World) (h : Divs w w.heap.size) (hl : 300 < s.size) :
    Calls Tryd.prog 4 #[vc, .string s, .int .i64 weight, .int .i64 key] w fun e w' => e = .returned (.bool true) ∧ Below w.heap.size w w' := by
  have hd : decide ((300 : Int) < s.size) = true := by simp; omega
  go_enter Tryd.func4, Tryd.ntmps4
  go_wp2_with fail
  refine (awake_true _ h).mono ?_
  rintro e w1 ⟨rfl, hb⟩
  go_wp2_with fail
  go_ret
  exact ⟨rfl, hb⟩

theorem Sl.up {w w' : World} {size n : Nat} {v : Value} {xs : List Value} (h : Sl w (lt w.heap.size) size v n xs) (hb : Below w.heap.size w w') : Sl w' (lt w'.heap.size) size v n xs := (h.below hb (Nat.le_refl _)).more hb.size
theorem size_max {s : ByteArray} (h : s.size ≤ 300) : s.size ≤ maxLen := by unfold maxLen; omega

set_option maxHeartbeats 2000000 in
set_option maxRecDepth 100000 in
theorem law_decides (vc : Value) (bs : List Int) (s : ByteArray) (weight key : Int) (w : World) (h : Divs w w.heap.size) (hl : s.size ≤ 300)
    (hsc : Sl w (lt w.heap.size) 1 vc bs.length (bs.map (.int .u8))) (hr : ∀ x ∈ bs, 0 ≤ x ∧ x ≤ 255) (hm : bs.length ≤ maxLen) :
    Calls Tryd.prog 4 #[vc, .string s, .int .i64 weight, .int .i64 key] w fun e w' => e = .returned (.bool true) ∧ Below w.heap.size w w' := by
  have hd : decide ((300 : Int) < s.size) = false := by simp; omega
  go_enter Tryd.func4, Tryd.ntmps4
  go_wp2_with fail
  refine (awake_true _ h).mono ?_
  rintro e w1 ⟨rfl, hb1⟩
  have hS1 := (hsc.below hb1 (Nat.le_refl _)).more hb1.size
  clear hsc
  go_wp2_with fail
  refine (drawNew _ bs 60 _ hS1 hr (by omega) hm).mono ?_
  rintro e w2 ⟨gc, rfl, hgc, hC2, hb2⟩
  have hbw2 := bchain hb1 hb2
  have hgl := hC2.lt_
  have hz1 := hb1.size
  clear hS1 hb1 hb2 hd
  go_wp2_with fail
  refine (samplings_any gc _ hC2).mono ?_
  rintro e w3 ⟨v3, l, rfl, hl2, hll, hown, hC3, hG⟩
  clear hll hC2
  go_wp2_with fail
  refine (makeText gc 1 _ hC3 (by omega) (by omega)).mono ?_
  rintro e w4 ⟨p4, rfl, hp4, hC4, hg4⟩
  replace hown := own_grown hown hg4 hgl
  replace hG := grownBy_trans hG hg4
  clear hC3 hg4
  go_wp2_with (first
    | (refine wpList_push elSam rfl rfl _ _ _ rfl rfl rfl w2.heap.size _ (.agg #[.string p4, .int .i64 weight]) _ _ rfl (fun _ => rfl) (fun _ => rfl) hown rfl (by simp [Value.cells, Value.oneCell']) (by omega) (by unfold maxLen; omega) (by omega) hG.size ?_; intro g cap w5 hown5 hb5 hg5 _ _))
  have hown6 : w5.ownsRow w2.heap.size 33 2 (.slice (some ⟨g, 0, none⟩) (l.length + 1) cap) (l ++ [(p4, weight)]).length (sam (l ++ [(p4, weight)])) := by
    rw [sam_snoc, List.length_append]; exact hown5
  have hlen6 : (l ++ [(p4, weight)]).length = l.length + 1 := by simp
  have hC5 := hC4.under hb5 hgl
  replace hG := grownBy_below hG hb5
  clear hown5 hown hC4 hb5 hg5
  refine (pick_lit gc _ _ _ hC5 (by rfl) (by omega) (by omega)).mono ?_
  rintro e w6 ⟨s6, rfl, hs6, hC6, hg6⟩
  replace hown6 := own_grown hown6 hg6 hgl
  replace hG := grownBy_trans hG hg6
  clear hC5 hg6
  go_wp2_with fail
  refine (makeText gc 4 _ hC6 (by omega) (by omega)).mono ?_
  rintro e w7 ⟨s7, rfl, hs7, hC7, hg7⟩
  replace hown6 := own_grown hown6 hg7 hgl
  replace hG := grownBy_trans hG hg7
  clear hC6 hg7 hC7
  have hb7 : Below w.heap.size w w7 := below_grown hbw2 hG hbw2.size (by omega)
  go_wp2_with fail
  have hSl := Sl.of_own hown6
  generalize l ++ [(p4, weight)] = L at *
  have hL10 : L.length ≤ 1000000 := by omega
  clear hlen6 hown6
  obtain ⟨W, hW⟩ : ∃ W, W = w7.alloc (.cells #[.string s, .string s6, .string s7] 9) := ⟨_, rfl⟩
  have hBk : Blk W w7.heap.size 9 #[.string s, .string s6, .string s7] := hW ▸ Blk.new _ _ _
  have hbW : Below w7.heap.size w7 W := hW ▸ (Below.refl _ w7).alloc (Nat.le_refl _) _
  rw [← hW]
  clear hW
  replace hSl := hSl.up hbW
  have hbw := bchain hb7 hbW
  have hDW := h.below hbw
  have hlb := hBk.lt
  have hzW := hbw.size
  clear hbW hb7 hG hbw2
  go_loopw [12, 14, 39] (fun _ _ i wr => ∃ j : Nat, j ≤ 3 ∧ i = .int .i64 j ∧ Below W.heap.size W wr) (fun _ _ i _ => 3 - (intOf i).toNat)
  case atStart => exact ⟨0, Nat.zero_le _, rfl, Below.refl _ _⟩
  case round =>
    obtain ⟨j, hj, rfl, hbr⟩ := hrel
    obtain ⟨wx, rfl⟩ : ∃ wx : World, wx = wr := ⟨_, rfl⟩
    by_cases hj3 : j < 3
    · obtain ⟨t, hcell, hts⟩ : ∃ t : ByteArray, wx.cell? ⟨w7.heap.size, j, none⟩ = some (.string t) ∧ t.size ≤ 300 := by
        have hB := hBk.below hbr hlb
        match j, hj3 with
        | 0, _ => exact ⟨_, (hB.cell 0).trans rfl, hl⟩
        | 1, _ => exact ⟨_, (hB.cell 1).trans rfl, by omega⟩
        | 2, _ => exact ⟨_, (hB.cell 2).trans rfl, by omega⟩
      have hSx := hSl.up hbr
      have hDx := hDW.below (hbr.mono hzW)
      have hzx := hbr.size
      have j1 : (j : Int) < 3 := by omega
      go_wp2_with fail
      refine (weight_any _ L t _ _ (Nat.le_trans hzW hzx) hDx hSx hL10).mono ?_
      rintro e w8 ⟨rfl, hb8⟩
      go_wp2_with fail
      refine (refWeight_any _ L t _ _ (hSx.up hb8) hL10).mono ?_
      rintro e w' ⟨rfl, rfl⟩
      generalize weightOf L t = wt
      have d1 : (wt != wt) = false := by simp
      go_wp2_with fail
      refine (shash_any _ _ (size_max hts)).mono ?_
      rintro e w9 ⟨rfl, hb9⟩
      go_wp2_with fail
      refine (refShash_any _ _ (size_max hts)).mono ?_
      rintro e w' ⟨rfl, rfl⟩
      generalize shash t = sh
      have d2 : (sh != sh) = false := by simp
      go_wp2_with fail
      refine (makeMod _ 60 _ (by omega)).mono ?_
      rintro e w' ⟨q, rfl, q0, q1, rfl⟩
      have q2 := q1 (by omega)
      clear q1
      go_wp2_with fail
      obtain ⟨X, hX⟩ : ∃ X, X = w9.alloc (.cells #[.int .i64 weight, .int .i64 (1 + q), .int .i64 5040] 3) := ⟨_, rfl⟩
      have hBx : Blk X w9.heap.size 3 #[.int .i64 weight, .int .i64 (1 + q), .int .i64 5040] := hX ▸ Blk.new _ _ _
      have hbX : Below w9.heap.size w9 X := hX ▸ (Below.refl _ w9).alloc (Nat.le_refl _) _
      rw [← hX]
      clear hX
      have hbrX := bchain (bchain (bchain hbr hb8) hb9) hbX
      have hDX := hDW.below (hbrX.mono hzW)
      have hlx := hBx.lt
      have hzX : w.heap.size ≤ X.heap.size := Nat.le_trans hzW hbrX.size
      clear hbr hb8 hb9 hbX hSx hDx hcell
      go_loopw [14, 63] (fun _ i wr => ∃ k : Nat, k ≤ 3 ∧ i = .int .i64 k ∧ Below X.heap.size X wr) (fun _ i _ => 3 - (intOf i).toNat)
      case atStart => exact ⟨0, Nat.zero_le _, rfl, Below.refl _ _⟩
      case round =>
        obtain ⟨k, hk, rfl, hbk⟩ := hrel
        obtain ⟨wy, rfl⟩ : ∃ wy : World, wy = wr := ⟨_, rfl⟩
        by_cases hk3 : k < 3
        · obtain ⟨x, hcx⟩ : ∃ x : Int, wy.cell? ⟨w9.heap.size, k, none⟩ = some (.int .i64 x) := by
            have hB := hBx.below hbk hlx
            match k, hk3 with
            | 0, _ => exact ⟨_, (hB.cell 0).trans rfl⟩
            | 1, _ => exact ⟨_, (hB.cell 1).trans rfl⟩
            | 2, _ => exact ⟨_, (hB.cell 2).trans rfl⟩
          have hDy := hDX.below (hbk.mono hzX)
          have k1 : (k : Int) < 3 := by omega
          go_wp2_with fail
          refine (valid_any _ _ _ hDy).mono ?_
          rintro e w' ⟨rfl, rfl⟩
          go_wp2_with fail
          refine (refValid_any _ _).mono ?_
          rintro e w' ⟨rfl, rfl⟩
          cases hv : vld x
          · have HV := keep hv
            clear hv
            go_wp2_with fail
            refine (keep_no _ _ _ _ _ hDy HV.out).mono ?_
            rintro e w' ⟨rfl, rfl⟩
            go_wp2_with fail
            refine (refKeep_no _ _ _ _ HV.out).mono ?_
            rintro e w' ⟨rfl, rfl⟩
            go_wp2_with fail
            go_roundw
            case rel => exact ⟨k + 1, by omega, by go_num, hbk⟩
            case measure => simp [intOf]; omega
          · have HV := keep hv
            clear hv
            go_wp2_with fail
            refine (keep_yes _ _ _ _ _ hDy (size_max hts) HV.out).mono ?_
            rintro e w10 ⟨rfl, hb10⟩
            go_wp2_with fail
            refine (refKeep_yes _ _ _ _ (size_max hts) HV.out).mono ?_
            rintro e w11 ⟨rfl, hb11⟩
            generalize keepB key t x = kb
            have d3 : (kb != kb) = false := by simp
            go_wp2_with fail
            go_roundw
            case rel => exact ⟨k + 1, by omega, by go_num, bchain (bchain hbk hb10) hb11⟩
            case measure => simp [intOf]; omega
        · go_wp2_with fail
          go_roundw
          case rel => exact ⟨j + 1, by omega, by go_num, bchain hbrX hbk⟩
          case measure => simp [intOf]; omega
    · go_wp2_with fail
      go_ret
      exact ⟨rfl, bchain hbw hbr⟩

theorem law_decides_row (vc : Value) (bs : List Int) (s : ByteArray) (weight key : Int) (w : World) (h : Divs w w.heap.size)
    (hsc : Sl w (lt w.heap.size) 1 vc bs.length (bs.map (.int .u8))) (hr : ∀ x ∈ bs, 0 ≤ x ∧ x ≤ 255) (hm : bs.length ≤ maxLen) :
    Calls Tryd.prog 4 #[vc, .string s, .int .i64 weight, .int .i64 key] w fun e w' => e = .returned (.bool true) ∧ Below w.heap.size w w' := by
  by_cases hl : 300 < s.size
  · exact law_decides_long vc s weight key w h hl
  · exact law_decides vc bs s weight key w h (by omega) hsc hr hm
end Go.Proofs.YtncmbdcicjolcaaDoor
