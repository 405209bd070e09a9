/- SampleApplies: the walk of the statement. -/
import Derived.Test.YtncmbdcicjolcaaDoorLawCounts
import Derived.Test.YtncmbdcicjolcaaDoorTotals
import Derived.Test.YtncmbdcicjolcaaDoorSame12
namespace Go.Proofs.YtncmbdcicjolcaaDoor
open Go.RowKit

theorem Sl.upE {w w' : World} {size n : Nat} {v : Value} {xs : List Value} (h : Sl w (lt w.heap.size) size v n xs) (hb : Below w.heap.size w w') : Sl w' (lt w'.heap.size) size v n xs := (h.below hb (Nat.le_refl _)).more hb.size
/-- An event's rows are there. -/
def EvR (w : World) (e : Ev) : Prop := ∃ (L : List (Int × Int × ByteArray)) (F : List (ByteArray × ByteArray)), Sl w (lt w.heap.size) 3 e.ln L.length (L.flatMap lnV) ∧ Sl w (lt w.heap.size) 2 e.fd F.length (F.flatMap fdV) ∧ L.length ≤ 3 ∧ F.length ≤ 4
theorem EvR.up {w w' : World} {e : Ev} (h : EvR w e) (hb : Below w.heap.size w w') : EvR w' e := by
  obtain ⟨L, F, h1, h2, h3, h4⟩ := h
  exact ⟨L, F, h1.upE hb, h2.upE hb, h3, h4⟩
def EvW (e : Ev) : Prop := EvS e ∧ -9223372036854775808 ≤ e.wt ∧ e.wt ≤ 9223372036854775807
theorem smp_le (l : List (ByteArray × Int)) (key : Int) (E : List Ev) : (smp l key E).length ≤ E.length := by
  have := smp_len l key E E.length
  rwa [List.take_length] at this
theorem smp_w {l : List (ByteArray × Int)} {key : Int} {E : List Ev} (h : ∀ e ∈ E, EvS e) : ∀ e ∈ smp l key E, EvW e := by
  intro e he
  unfold smp at he
  obtain ⟨a, ha, rfl⟩ := List.mem_map.1 he
  have := h a (List.mem_filter.1 ha).1
  have hw := vld_bd (weight_vld l a.tr)
  exact ⟨⟨this.ln, this.fd, this.tr⟩, by simp only; omega, by simp only; omega⟩
theorem smp_r {w : World} {l : List (ByteArray × Int)} {key : Int} {E : List Ev} (h : ∀ e ∈ E, EvR w e) : ∀ e ∈ smp l key E, EvR w e := by
  intro e he
  unfold smp at he
  obtain ⟨a, ha, rfl⟩ := List.mem_map.1 he
  exact h a (List.mem_filter.1 ha).1
theorem totG_form (E : List Ev) : ∃ (a : Int) (b : Bool), totG E = .tuple #[.int .i64 a, .bool b] := by
  unfold totG
  split
  · exact ⟨_, _, rfl⟩
  · exact ⟨_, _, rfl⟩
/-- A list of events that Total takes. -/
def EvL (w : World) (v : Value) (E : List Ev) : Prop := Sl w (lt w.heap.size) 10 v E.length (evV E) ∧ (∀ e ∈ E, EvW e) ∧ E.length ≤ 1000000
theorem EvL.up {w w' : World} {v : Value} {E : List Ev} (h : EvL w v E) (hb : Below w.heap.size w w') : EvL w' v E := ⟨h.1.upE hb, h.2⟩
theorem EvL.nil (w : World) : EvL w (.slice none 0 0) [] := ⟨Sl.nil _ _ _ _ _, by simp, by simp⟩
theorem evV_one (E : List Ev) (h : ∀ e ∈ E, EvS e) : ∀ u ∈ evV E, u.oneCell' = true := by
  intro u hu
  unfold evV at hu
  obtain ⟨e, he, hu⟩ := List.mem_flatMap.1 hu
  obtain ⟨⟨lA, ln, lc, hln⟩, ⟨fA, fn, fc, hfd⟩, htr⟩ := h e he
  simp only [Ev.vals, List.mem_cons, List.not_mem_nil, or_false] at hu
  rcases hu with rfl | rfl | rfl | rfl | rfl | rfl | rfl | rfl | rfl | rfl
  all_goals first | rfl | (rw [hln]; rfl) | (rw [hfd]; rfl)
def badEv (odd : Int) : Ev := ⟨0, 0, 0, 0, .slice none 0 0, 0, odd, ⟨#[]⟩, ⟨#[]⟩, .slice none 0 0⟩
set_option maxHeartbeats 4000000 in
set_option maxRecDepth 100000 in
theorem law_applies_row (vc : Value) (bs : List Int) (key odd : Int) (w : World) (h : Divs w w.heap.size)
    (hsc : Sl w (lt w.heap.size) 1 vc bs.length (bs.map (.int .u8))) (hr : ∀ x ∈ bs, 0 ≤ x ∧ x ≤ 255) (hm : bs.length ≤ maxLen) (ho0 : -9223372036854775808 ≤ odd) (ho1 : odd ≤ 9223372036854775807) :
    Calls Tryd.prog 6 #[vc, .int .i64 key, .int .i64 odd] w fun e w' => e = .returned (.bool true) ∧ Below w.heap.size w w' := by
  have HO := keep (And.intro ho0 ho1)
  clear ho0 ho1
  go_enter Tryd.func6, Tryd.ntmps6
  go_wp2_with fail
  refine (awake_true _ h).mono ?_
  rintro e w1 ⟨rfl, hb1⟩
  have hS1 := hsc.upE hb1
  clear hsc
  go_wp2_with fail
  refine (drawNew _ bs 240 _ hS1 hr (by omega) hm).mono ?_
  rintro e w2 ⟨gc, rfl, hgc, hC2, hb2⟩
  have hbw2 := bchain hb1 hb2
  have hgl := hC2.lt_
  have hz1 := hb1.size
  clear hS1 hb1 hb2
  go_wp2_with fail
  refine (samplings_any gc _ hC2).mono ?_
  rintro e w3 ⟨v3, l, rfl, hl2, hll, hown, hC3, hG⟩
  clear hll hC2
  go_wp2_with fail
  refine (events_any gc 8 _ hC3 (by omega)).mono ?_
  rintro e w4 ⟨v4, D, rfl, hown4, hD5, hDok, hC4, hG4⟩
  replace hown := own_grown hown hG4 hgl
  have hG5 := grownBy_trans hG hG4
  have hz3 := hG.size
  have hb7 : Below w.heap.size w w4 := below_grown hbw2 hG5 hbw2.size (by omega)
  obtain ⟨E, hE⟩ : ∃ E, D.map (·.1) = E := ⟨_, rfl⟩
  have hlen : D.length = E.length := by rw [← hE, List.length_map]
  have hES : ∀ e ∈ E, EvS e := by
    intro e he
    rw [← hE] at he
    obtain ⟨t, ht, rfl⟩ := List.mem_map.1 he
    exact (hDok t ht).shapes
  have hEW : ∀ e ∈ E, EvW e := by
    intro e he
    rw [← hE] at he
    obtain ⟨t, ht, rfl⟩ := List.mem_map.1 he
    have := (hDok t ht).wt
    exact ⟨(hDok t ht).shapes, by omega, by omega⟩
  have hER : ∀ e ∈ E, EvR w4 e := by
    intro e he
    rw [← hE] at he
    obtain ⟨t, ht, rfl⟩ := List.mem_map.1 he
    exact ⟨t.2.1, t.2.2, Sl.of_own (hDok t ht).ln, Sl.of_own (hDok t ht).fd, (hDok t ht).l3, (hDok t ht).fl⟩
  rw [hE, hlen] at hown4
  rw [hlen] at hD5
  have hSl := Sl.of_own hown
  have hSe := Sl.of_own hown4
  have hDW := h.below hb7
  have hzW := hb7.size
  have HES := keep hES
  have HEW := keep hEW
  have HER := keep hER
  have e5 : (E.length : Int) ≤ 8 := by omega
  have e6 : E.length ≤ 1000000 := by omega
  have l6 : l.length ≤ 1000000 := by omega
  clear hE hlen hDok hC4 hG4 hG5 hG hC3 hown hown4 hbw2 hES hEW hER D hl2
  go_wp2_with fail
  refine (apply_any v3 l key v4 E w4 _ hDW hzW hSl l6 HES.out hSe e6).mono ?_
  rintro e w5 ⟨v5, rfl, ho5, hb5⟩
  have hz5 := hb5.size
  go_wp2_with fail
  refine (refApply_any v3 l key v4 E w5 (hSl.upE hb5) l6 HES.out (hSe.upE hb5) e6).mono ?_
  rintro e w6 ⟨v6, rfl, ho6, hb6⟩
  have hS5 := (Sl.of_own ho5).upE hb6
  have hS6 := Sl.of_own ho6
  have hb46 := bchain hb5 hb6
  have hle := smp_le l key E
  have HXW := keep (smp_w (l := l) (key := key) HES.out)
  have HXR := keep (fun e he => (smp_r (l := l) (key := key) HER.out e he).up hb46)
  generalize smp l key E = X at hle HXW HXR hS5 hS6 ho5 ho6
  clear ho5 ho6 hb5 hb6
  have hSe6 := hSe.upE hb46
  have hD6 := hDW.below (hb46.mono hzW)
  have hz46 := hb46.size
  have hb06 := hb7.trans (hb46.mono hzW)
  obtain ⟨A5, c5, rfl, hc5, hS5⟩ := hS5.form
  obtain ⟨A6, c6, rfl, hc6, hS6⟩ := hS6.form
  obtain ⟨A4, c4, rfl, hc4, hSe6⟩ := hSe6.form
  have x5 : (X.length : Int) ≤ 8 := by omega
  have d1 : ((X.length : Int) != (X.length : Int)) = false := by simp
  clear hb46 hSe hSl hb7 hle
  go_wp2_with fail
  clear d1
  go_loopw [12, 43] (fun _ i wr => ∃ k : Nat, k ≤ X.length ∧ i = .int .i64 k ∧ Below w6.heap.size w6 wr) (fun _ i _ => X.length - (intOf i).toNat)
  case atStart => exact ⟨0, Nat.zero_le _, rfl, Below.refl _ _⟩
  case round =>
    obtain ⟨k, hk, rfl, hbr⟩ := hrel
    obtain ⟨wo, rfl⟩ : ∃ wo : World, wo = wr := ⟨_, rfl⟩
    by_cases hlt : k < X.length
    · obtain ⟨b, o, rfl, hb, c0, c1, c2, c3, c4', c5', c6', c7, c8, c9⟩ := ev_cells (hS5.upE hbr) hlt
      obtain ⟨b2, o2, rfl, hb2, g0, g1, g2, g3, g4, g5, g6, g7, g8, g9⟩ := ev_cells (hS6.upE hbr) hlt
      have hXW := (HXW.out _ (List.getElem_mem hlt)).1
      obtain ⟨L, F, hL, hF, hl3, hf4⟩ := ((HXR.out _ (List.getElem_mem hlt)).up hbr)
      have hs12 := same12 X[k] L F wo.drew hXW hL hF hl3 hf4
      generalize X[k] = e at c0 c1 c2 c3 c4' c5' c6' c7 c8 c9 g0 g1 g2 g3 g4 g5 g6 g7 g8 g9 hXW hs12 hL hF
      obtain ⟨vho, vfi, vfr, vto, vln, vti, vwt, vtr, vst, vfd⟩ := e
      obtain ⟨⟨lA, ln, lc, hln⟩, ⟨fA, fn, fc, hfd⟩, htr⟩ := hXW
      simp only at hln hfd htr c0 c1 c2 c3 c4' c5' c6' c7 c8 c9 g0 g1 g2 g3 g4 g5 g6 g7 g8 g9
      subst hln
      subst hfd
      simp only [Ev.vals] at hs12
      have HS := keep hs12
      clear htr hs12 hL hF hl3 hf4
      have i1 : (k : Int) < (X.length : Int) := by omega
      have k1 : (k : Int) ≤ 1000000 := by omega
      go_wp2_with fail
      go_still_tail 10, (by kernel_rfl)
      change wpList _ _ _ _ _ wo.drew
      go_wp2_with fail
      refine (HS.out).mono ?_
      rintro x w7 ⟨rfl, hb7⟩
      go_wp2_with fail
      go_roundw
      case rel => exact ⟨k + 1, by omega, by go_num, hbr.drew.trans (hb7.mono hbr.size)⟩
      case measure => simp [intOf]; omega
    · obtain rfl : k = X.length := by omega
      have hz7 := hbr.size
      have hS5' := hS5.upE hbr
      have hS6' := hS6.upE hbr
      have hSe' := hSe6.upE hbr
      have hD7 := hD6.below (hbr.mono (by omega))
      have hb07 := hb06.trans (hbr.mono (by omega))
      have hz07 := hb07.size
      clear hS5 hS6 hSe6 hD6 hbr hb06 HXR HER hDW hS6'
      go_wp2_with (first
        | (refine wpList_push elEv rfl rfl _ _ _ rfl rfl rfl wo.heap.size _ (.agg (badEv odd).vals.toArray) _ _ rfl (fun _ => rfl) (fun _ => rfl) hown7 rfl (by simp [badEv, Ev.vals, Value.cells, Value.oneCell']) (by omega) (by unfold maxLen; omega) (by omega) hz8 ?_; intro g8 cap8 w8 hown8 hb8 hg8 _ _)
        | (refine wpList_appendS elEv rfl (.const (.slice none 0 0)) _ rfl wo.heap.size _ 0 [] rfl (World.ownsRow_nil _ _ _ _) _ _ _ (evV E) rfl hSe' (evV_one E HES.out) (by unfold maxLen; omega) (by omega) (Nat.le_refl _) ?_; intro v7 w7 hown7 hb7 hg7; simp only [Nat.zero_add, List.nil_append] at hown7; have hz8 := hb7.size))
      have hbd : ∀ e ∈ E ++ [badEv odd], EvW e := by
        intro e he
        rcases List.mem_append.1 he with he | he
        · exact HEW.out e he
        · simp at he
          subst he
          exact ⟨⟨⟨_, _, _, rfl⟩, ⟨_, _, _, rfl⟩, by show (⟨#[]⟩ : ByteArray).size ≤ 36; decide⟩, HO.out.1, HO.out.2⟩
      have hSb : Sl w8 (lt w8.heap.size) 10 (.slice (some ⟨g8, 0, none⟩) (E.length + 1) cap8) (E ++ [badEv odd]).length (evV (E ++ [badEv odd])) := by
        rw [evV_snoc, List.length_append]
        exact Sl.of_own hown8
      have hb78 : Below wo.heap.size wo w8 := hb7.trans hb8
      have L5 : EvL w8 (.slice A5 X.length c5) X := ⟨hS5'.upE hb78, HXW.out, by omega⟩
      have L4 : EvL w8 (.slice A4 E.length c4) E := ⟨hSe'.upE hb78, HEW.out, e6⟩
      have L8 : EvL w8 (.slice (some ⟨g8, 0, none⟩) (E.length + 1) cap8) (E ++ [badEv odd]) := ⟨hSb, hbd, by simp; omega⟩
      have L0 := EvL.nil w8
      have hD8 := hD7.below (hb78.mono hz07)
      have hb08 := hb07.trans (hb78.mono hz07)
      have hz08 := hb08.size
      clear hbd hSb hb7 hb8 hown7 hown8 hS5' hSe' hg7 hg8 hD7 hb07 hb78 hz8
      obtain ⟨W, hW⟩ : ∃ W, W = w8.alloc (.cells #[.slice A5 X.length c5, .slice A4 E.length c4, .slice (some ⟨g8, 0, none⟩) (E.length + 1) cap8, .slice none 0 0] 41) := ⟨_, rfl⟩
      have hBk : Blk W w8.heap.size 41 #[.slice A5 X.length c5, .slice A4 E.length c4, .slice (some ⟨g8, 0, none⟩) (E.length + 1) cap8, .slice none 0 0] := hW ▸ Blk.new _ _ _
      have hbW : Below w8.heap.size w8 W := hW ▸ (Below.refl _ w8).alloc (Nat.le_refl _) _
      rw [← hW]
      clear hW
      have hall : ∀ k, k < 4 → ∃ v Y A n c, W.cell? ⟨w8.heap.size, k, none⟩ = some v ∧ v = .slice A n c ∧ EvL W v Y := by
        intro k hk
        match k, hk with
        | 0, _ => exact ⟨_, X, _, _, _, (hBk.cell 0).trans rfl, rfl, L5.up hbW⟩
        | 1, _ => exact ⟨_, E, _, _, _, (hBk.cell 1).trans rfl, rfl, L4.up hbW⟩
        | 2, _ => exact ⟨_, E ++ [badEv odd], _, _, _, (hBk.cell 2).trans rfl, rfl, L8.up hbW⟩
        | 3, _ => exact ⟨_, [], _, _, _, (hBk.cell 3).trans rfl, rfl, L0.up hbW⟩
      have hlb := hBk.lt
      have HA := keep hall
      have hDW := hD8.below (hbW.mono hz08)
      have hbw := hb08.trans (hbW.mono hz08)
      have hzW := hbw.size
      clear hall L5 L4 L8 L0 hBk hbW hD8 hb08
      go_loopw [15, 16, 17, 18, 19, 70] (fun _ _ _ _ _ i wr => ∃ k : Nat, k ≤ 4 ∧ i = .int .i64 k ∧ Below W.heap.size W wr) (fun _ _ _ _ _ i _ => 4 - (intOf i).toNat)
      case atStart => exact ⟨0, by omega, rfl, Below.refl _ _⟩
      case round =>
        obtain ⟨k, hk, rfl, hbr⟩ := hrel
        obtain ⟨wx, rfl⟩ : ∃ wx : World, wx = wr := ⟨_, rfl⟩
        by_cases hlt : k < 4
        · obtain ⟨v, Y, A, n, c, hcell, rfl, hL⟩ := HA.out k hlt
          have hcx : wx.cell? ⟨w8.heap.size, k, none⟩ = some (.slice A n c) := (hbr.cell (p := ⟨w8.heap.size, k, none⟩) hlb).trans hcell
          have hLx := hL.up hbr
          have hDx := hDW.below (hbr.mono hzW)
          have hzx := hbr.size
          have i1 : (k : Int) < 4 := by omega
          obtain ⟨ta, tb, htt⟩ := totG_form Y
          have HT := keep htt
          have d2 : (ta != ta) = false := by simp
          have d3 : (tb != tb) = false := by simp
          clear hcell hL htt
          go_wp2_with fail
          refine (total_gen _ Y wx _ hDx (by omega) hLx.2.1 hLx.1 hLx.2.2).mono ?_
          rintro e w9 ⟨rfl, hb9⟩
          rw [HT.out]
          go_wp2_with fail
          refine (refTotal_gen _ Y w9 hLx.2.1 (hLx.1.upE hb9) hLx.2.2).mono ?_
          rintro e w10 ⟨rfl, hb10⟩
          rw [HT.out]
          go_wp2_with fail
          go_roundw
          case rel => exact ⟨k + 1, by omega, by go_num, bchain (bchain hbr hb9) hb10⟩
          case measure => simp [intOf]; omega
        · go_wp2_with fail
          go_ret
          exact ⟨rfl, hbw.trans (hbr.mono hzW)⟩
end Go.Proofs.YtncmbdcicjolcaaDoor
