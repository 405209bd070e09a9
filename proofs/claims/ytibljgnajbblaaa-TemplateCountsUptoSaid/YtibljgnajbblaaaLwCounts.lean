/- TemplateCounts: the walk of the statement. -/
import Derived.Test.YtibljgnajbblaaaR14X
import Derived.Test.YtibljgnajbblaaaRegAll
namespace Go.Proofs.Ytibljgnajbblaaa
open Go.RowKit

/-- A list of templates that neither the choices nor what is made hereafter touches. -/
def XOk (oB gc : Nat) (w : World) (v : Value) (X : List Tm) : Prop :=
  Sl w (fun b => b < w.heap.size ∧ b ≠ gc) 2 v X.length (tms X) ∧ ∀ t ∈ X, Sl w (fun b => strB oB w b ∧ b ≠ gc) 1 t.tv t.tk.length (t.tk.map .string) ∧ t.tk.length ≤ 1000000
theorem XOk.grown {oB gc : Nat} {w w' : World} {v : Value} {X : List Tm} (h : XOk oB gc w v X) (hg : w.grownBy w' (some gc)) : XOk oB gc w' v X :=
  ⟨(h.1.grown hg fun b hb => ⟨hb.1, fun e => hb.2 (by injection e)⟩).mono fun b hb => ⟨Nat.lt_of_lt_of_le hb.1 hg.size, hb.2⟩,
   fun t ht => ⟨((h.2 t ht).1.grown hg fun b hb => ⟨hb.1.lt_, fun e => hb.2 (by injection e)⟩).mono fun b hb => ⟨hb.1.grown hg (fun e => hb.2 (by injection e)), hb.2⟩, (h.2 t ht).2⟩⟩
theorem XOk.ms {oB gc : Nat} {w : World} {v : Value} {X : List Tm} (h : XOk oB gc w v X) : MS oB w v X :=
  ⟨h.1.mono fun _ hb => hb.1, fun t ht => ⟨(h.2 t ht).1.mono fun _ hb => hb.1, (h.2 t ht).2⟩⟩
/-- The loop's state: the elements so far, the choices. -/
structure QSt (W : World) (gc : Nat) (wr : World) (v : Value) (Q : List Tm) : Prop where
  q : wr.ownsRow W.heap.size 33 2 v Q.length (tms Q)
  t : ∀ t ∈ Q, TkM wr W.heap.size t ∧ t.ct ≤ 9223372036854775807
  c : Codes wr gc
  w : W.grownBy wr (some gc)
section
variable {W wr wr' : World} {gc : Nat} {v : Value} {Q : List Tm}
theorem TkM.keep {w w' : World} {B : Nat} {row : Option Nat} {t : Tm} (h : TkM w B t) (hg : w.grownBy w' row) (hr : t.tv.ownBlock = none ∨ t.tv.ownBlock ≠ row) : TkM w' B t := ⟨h.1.kept hg hr, h.2⟩
theorem QSt.up (h : QSt W gc wr v Q) (hb : Below wr.heap.size wr wr') : QSt W gc wr' v Q :=
  ⟨own_bel h.q hb, fun t ht => ⟨⟨own_bel (h.t t ht).1.1 hb, (h.t t ht).1.2⟩, (h.t t ht).2⟩, h.c.under hb h.c.lt_, grownBy_below h.w (hb.mono h.w.size)⟩
theorem QSt.next (h : QSt W gc wr v Q) (h2 : gc < W.heap.size) (hg : wr.grownBy wr' (some gc)) (hc : Codes wr' gc) : QSt W gc wr' v Q :=
  ⟨own_grown h.q hg h2, fun t ht => ⟨⟨own_grown (h.t t ht).1.1 hg h2, (h.t t ht).1.2⟩, (h.t t ht).2⟩, hc, grownBy_trans h.w hg⟩
theorem QSt.push (h : QSt W gc wr v Q) {v' : Value} {t : Tm} (hl : wr'.ownsRow W.heap.size 33 2 v' (Q ++ [t]).length (tms (Q ++ [t]))) (hb : Below W.heap.size wr wr') (hg : wr.grownBy wr' v.ownBlock) (h2 : gc < W.heap.size) (ht : TkM wr W.heap.size t) (hc : t.ct ≤ 9223372036854775807) : QSt W gc wr' v' (Q ++ [t]) :=
  ⟨hl, fun u hu => by
    rcases List.mem_append.1 hu with hu | hu
    · exact ⟨(h.t u hu).1.keep hg (own_part (h.t u hu).1.1 h.q (by decide)), (h.t u hu).2⟩
    · rw [List.mem_singleton.1 hu]
      exact ⟨ht.keep hg (own_part ht.1 h.q (by decide)), hc⟩, h.c.under hb h2, grownBy_below h.w hb⟩
theorem QSt.xok (h : QSt W gc wr v Q) (h2 : gc < W.heap.size) (oB : Nat) : XOk oB gc wr v Q :=
  ⟨(Sl.of_own_btw h.q).mono fun b hb => ⟨hb.2, by have := hb.1; omega⟩, fun t ht => ⟨((own_str (oB := oB) (h.t t ht).1.1).and (Sl.of_own_btw (h.t t ht).1.1)).mono fun b hb => ⟨hb.1, by have := hb.2.1; omega⟩, by have := (h.t t ht).1.2; omega⟩⟩
end
def fr167 (x : Nat → Value) : Array Value := #[x 0, x 1, x 2, x 3, x 4, x 5, x 6, x 7, x 8, x 9, x 10, x 11, x 12, x 13, x 14, x 15, x 16, x 17, x 18, x 19, x 20, x 21, x 22, x 23, x 24, x 25, x 26, x 27, x 28, x 29, x 30, x 31, x 32, x 33, x 34, x 35, x 36, x 37, x 38, x 39, x 40, x 41, x 42, x 43, x 44, x 45, x 46, x 47, x 48, x 49, x 50, x 51, x 52, x 53, x 54, x 55, x 56, x 57, x 58, x 59, x 60, x 61, x 62, x 63, x 64, x 65, x 66, x 67, x 68, x 69, x 70, x 71, x 72, x 73, x 74, x 75, x 76, x 77, x 78, x 79, x 80, x 81, x 82, x 83, x 84, x 85, x 86, x 87, x 88, x 89, x 90, x 91, x 92, x 93, x 94, x 95, x 96, x 97, x 98, x 99, x 100, x 101, x 102, x 103, x 104, x 105, x 106, x 107, x 108, x 109, x 110, x 111, x 112, x 113, x 114, x 115, x 116, x 117, x 118, x 119, x 120, x 121, x 122, x 123, x 124, x 125, x 126, x 127, x 128, x 129, x 130, x 131, x 132, x 133, x 134, x 135, x 136, x 137, x 138, x 139, x 140, x 141, x 142, x 143, x 144, x 145, x 146, x 147, x 148, x 149, x 150, x 151, x 152, x 153, x 154, x 155, x 156, x 157, x 158, x 159, x 160, x 161, x 162, x 163, x 164, x 165, x 166]
/-- The counts that are picked. -/
def ct6 : List Int := [1, 2, 3, 0, -1, 9223372036854775807]
theorem ct6_get {r : Nat} (h : r < 6) : ∃ z : Int, (#[.int .i64 1, .int .i64 2, .int .i64 3, .int .i64 0, .int .i64 (-1), .int .i64 9223372036854775807] : Array Value)[r]? = some (.int .i64 z) ∧ z ≤ 9223372036854775807 := by
  have e : r = 0 ∨ r = 1 ∨ r = 2 ∨ r = 3 ∨ r = 4 ∨ r = 5 := by omega
  rcases e with rfl | rfl | rfl | rfl | rfl | rfl
  · exact ⟨1, rfl, by decide⟩
  · exact ⟨2, rfl, by decide⟩
  · exact ⟨3, rfl, by decide⟩
  · exact ⟨0, rfl, by decide⟩
  · exact ⟨-1, rfl, by decide⟩
  · exact ⟨9223372036854775807, rfl, by decide⟩
set_option maxHeartbeats 16000000 in
set_option maxRecDepth 100000 in
theorem law_counts (v0 vc : Value) (L0 : List Tm) (bs : List Int) (s : ByteArray) (w : World)
    (hs0 : Sl w (lt w.heap.size) 2 v0 L0.length (tms L0)) (ht0 : ∀ t ∈ L0, Sl w (lt w.heap.size) 1 t.tv t.tk.length (t.tk.map .string) ∧ t.ct ≤ 9223372036854775807)
    (hsc : Sl w (lt w.heap.size) 1 vc bs.length (bs.map (.int .u8))) (hr : ∀ x ∈ bs, 0 ≤ x ∧ x ≤ 255) (hm : bs.length ≤ maxLen) (hss : s.size ≤ 1048576) :
    Calls Try.prog 6 #[v0, vc, .string s] w fun e w' => e = .returned (.bool true) ∧ Below w.heap.size w w' := by
  obtain ⟨A0, c0, rfl, _, hs0⟩ := hs0.form
  have HS0 := keep hs0
  have HT0 := keep ht0
  have HR := keep hr
  clear hs0 ht0 hr
  go_enter Try.func6, Try.ntmps6
  go_wp2_with fail
  refine (awake_true _).mono ?_
  rintro e w1 ⟨rfl, hb1⟩
  have HSC := keep (hsc.upW hb1)
  have HB1 := keep hb1
  clear hsc hb1
  by_cases h20 : (20 : Int) < (L0.length : Int)
  · go_wp2_with fail
    go_ret
    exact ⟨rfl, HB1.out⟩
  · go_wp2_with fail
    go_loopw [32] (fun u32 wr => ∃ k : Nat, k ≤ L0.length ∧ u32 = .int .i64 k ∧ Hid (∀ j, (hj : j < L0.length) → j < k → L0[j].tk.length ≤ 70) ∧ Hid (Below w1.heap.size w1 wr)) (fun u32 _ => L0.length - (intOf u32).toNat)
    case atStart => exact ⟨0, Nat.zero_le _, rfl, keep (fun j _ h => absurd h (by omega)), keep (Below.refl _ _)⟩
    case round =>
      obtain ⟨k, hk, rfl, h70, hB⟩ := hrel
      obtain ⟨wo, rfl⟩ : ∃ wo : World, wo = wr := ⟨_, rfl⟩
      have HBo := keep (HB1.out.trans (hB.out.mono HB1.out.size))
      by_cases hlt : k < L0.length
      · obtain ⟨b1, o1, rfl, _, d0, d1⟩ := tm_cells (HS0.out.below HBo.out (Nat.le_refl _)) hlt
        have htr := (HT0.out _ (List.getElem_mem hlt)).1
        obtain ⟨t, ht⟩ : ∃ t, L0[k] = t := ⟨_, rfl⟩
        have HLT := keep ht
        rw [ht] at d0 d1 htr
        obtain ⟨tv, T, ct⟩ := t
        simp only at d0 d1 htr
        obtain ⟨ya, yc, hyv, _, _⟩ := htr.form
        subst hyv
        have HBa := keep (hB.out.trans (((Below.refl _ wo).alloc (Nat.le_refl _) (.cells #[.slice ya T.length yc, .int .i64 ct] 33)).mono hB.out.size))
        have i1 : (k : Int) < (L0.length : Int) := by omega
        have i2 : (k : Int) ≤ 20 := by omega
        clear htr ht
        by_cases hl70 : (70 : Int) < (T.length : Int)
        · go_wp2_with fail
          go_ret
          exact ⟨rfl, HB1.out.trans (HBa.out.mono HB1.out.size)⟩
        · have H71 : Hid (∀ j, (hj : j < L0.length) → j < k + 1 → L0[j].tk.length ≤ 70) := keep (fun j hj hjk => by
            by_cases e : j = k
            · subst e; rw [HLT.out]; show T.length ≤ 70; omega
            · exact h70.out j hj (by omega))
          go_wp2_with fail
          go_roundw
          case rel => exact ⟨k + 1, by omega, by go_num, H71, HBa⟩
          case measure => simp [intOf]; omega
      · obtain rfl : k = L0.length := by omega
        have HT7 : Hid (∀ t ∈ L0, t.tk.length ≤ 70) := keep (fun t ht => by
          obtain ⟨j, hj, rfl⟩ := List.getElem_of_mem ht
          exact h70.out j hj hj)
        have HSC1 := keep (HSC.out.upW hB.out)
        clear h70
        go_wp2_with fail
        refine (drawNew _ bs 200 _ HSC1.out HR.out (by omega) hm).mono ?_
        rintro e w2 ⟨gc, rfl, hgc, hC2, hb2⟩
        have HB2 := keep (HBo.out.trans (hb2.mono HBo.out.size))
        have hgl := hC2.lt_
        have hgw : w.heap.size ≤ gc := Nat.le_trans HBo.out.size hgc
        clear hb2
        go_wp2_with fail
        refine (lines_any gc 14 _ hC2 (by omega)).mono ?_
        rintro e W ⟨vl, S, rfl, hSl, hSz, hV, hCW, hg3⟩
        obtain ⟨A2, c2, rfl, hc2⟩ := own_sl hV
        have hb3 : Below w.heap.size w W := below_grown HB2.out hg3 HB2.out.size hgw
        have HSZ := keep hSz
        have HBW := keep hb3
        have HVL := keep (own_str (oB := 0) hV)
        have HNS := keep (codes_noStr hCW)
        have hgcW := hCW.lt_
        have HCW := keep hCW
        have hl := fun (w : World) => run_len_slice (P := Try.prog) w 22 3 A2 S.length c2 (by kernel_rfl)
        clear hV hSz hg3 hb3 hC2 hc2 hCW
        go_wp2_with fail
        clear hl
        go_loopw [10, 46] (fun u10 u46 wr => ∃ (k : Nat) (Q : List Tm) (Aq : Option Addr) (cq : Nat), k ≤ S.length ∧ u46 = .int .i64 k ∧ u10 = .slice Aq Q.length cq ∧ Q.length ≤ k ∧ Hid (QSt W gc wr (.slice Aq Q.length cq) Q)) (fun _ u46 _ => S.length - (intOf u46).toNat)
        case atStart => exact ⟨0, [], none, 0, Nat.zero_le _, rfl, rfl, Nat.le_refl _, keep ⟨World.ownsRow_nil _ _ _ _, (by intro t ht; cases ht), HCW.out, World.grownBy.refl _ _⟩⟩
        case round =>
          obtain ⟨k, Q, Aq, cq, hk, rfl, rfl, hQl, hK⟩ := hrel
          obtain ⟨wo, rfl⟩ : ∃ wo : World, wo = wr := ⟨_, rfl⟩
          by_cases hlt : k < S.length
          · obtain ⟨b, o, hAe, _, q0⟩ := str_at (HVL.out.strGrown hK.out.w HNS.out) hlt
            subst hAe
            obtain ⟨x, hx⟩ : ∃ x, S[k] = x := ⟨_, rfl⟩
            have hsz : x.size ≤ 1000 := by rw [← hx]; exact HSZ.out _ (List.getElem_mem hlt)
            rw [hx] at q0
            have HTOK := keep (refTok_any x wo (by omega))
            have i1 : (k : Int) < (S.length : Int) := by omega
            have i2 : (k : Int) ≤ 14 := by omega
            clear hx
            go_wp2_with fail
            refine HTOK.out.mono ?_
            rintro e w5 ⟨tv, T, rfl, hT, hT6, hown5, hb5⟩
            obtain ⟨TA, TC, rfl, _⟩ := own_sl hown5
            have HK5 := keep (hK.out.up hb5)
            have HTM := keep (own_base hown5 hK.out.w.size)
            obtain ⟨q, hq⟩ : ∃ q, (tokW (lb x)).isSome = q := ⟨_, rfl⟩
            rw [hq]
            clear hown5 hb5 HTOK hT hq hK
            cases q with
            | false =>
              go_wp2_with fail
              go_roundw
              case rel => exact ⟨k + 1, Q, Aq, cq, by omega, by go_num, rfl, by omega, HK5⟩
              case measure => simp [intOf]; omega
            | true =>
              obtain ⟨w6, hw6⟩ : ∃ w6, w6 = w5.alloc (.cells #[.int .i64 1, .int .i64 2, .int .i64 3, .int .i64 0, .int .i64 (-1), .int .i64 9223372036854775807] 3) := ⟨_, rfl⟩
              have hal : Below w5.heap.size w5 w6 := hw6 ▸ (Below.refl _ w5).alloc (Nat.le_refl _) _
              have hbk : Blk w6 w5.heap.size 3 #[.int .i64 1, .int .i64 2, .int .i64 3, .int .i64 0, .int .i64 (-1), .int .i64 9223372036854775807] := hw6 ▸ Blk.new w5 _ _
              have HK6 := keep (HK5.out.up hal)
              have HTM6 := keep (own_bel HTM.out hal)
              have HBK := keep hbk
              have HNX := keep (drawNext gc 6 w6 HK6.out.c (by omega) (by omega))
              have hgne : w5.heap.size ≠ gc := by have := HK5.out.c.lt_; omega
              have HW6 := keep hw6
              clear hal hbk hw6
              go_wp2_with fail
              rw [← HW6.out]
              refine HNX.out.mono ?_
              rintro e w7 ⟨r, rfl, r0, r1, _, hC7, hg7⟩
              obtain ⟨m, rfl⟩ := Int.eq_ofNat_of_zero_le r0
              have hm6 : m < 6 := by have := r1 (by omega); omega
              obtain ⟨z, hz, hzm⟩ := ct6_get hm6
              have e0 : w7.cell? ⟨w5.heap.size, m, none⟩ = some (.int .i64 z) := ((HBK.out.grown hg7 (fun e => hgne (by injection e))).cell m).trans hz
              have HK7 := keep (HK6.out.next hgcW hg7 hC7)
              have HTM7 := keep (own_grown HTM6.out hg7 hgcW)
              have m1 : (m : Int) < 6 := by omega
              have hx1 : ∀ c ∈ (Value.agg #[.slice TA T.length TC, .int .i64 z]).cells.toList, c.oneCell' = true := by
                intro c hc
                simp [Value.cells] at hc
                rcases hc with rfl | rfl <;> rfl
              have HX1 := keep hx1
              have HZM := keep hzm
              clear hx1 hC7 hg7 HNX r0 r1 HK6 HTM6 HBK hzm hz
              go_wp2_with (refine wpList_push elTm rfl rfl (.tmp 63) (.tmp 56) 64 rfl rfl rfl W.heap.size (.slice Aq Q.length cq) (.agg #[.slice TA T.length TC, .int .i64 z]) Q.length (tms Q) ?_ ?_ ?_ ?_ ?_ ?_ ?_ ?_ ?_ ?_ ?_)
              case refine_1 => rfl
              case refine_2 => intro q; rfl
              case refine_3 => intro q; rfl
              case refine_4 => exact HK7.out.q
              case refine_5 => rfl
              case refine_6 => exact HX1.out
              case refine_7 => decide
              case refine_8 => unfold maxLen; omega
              case refine_9 => omega
              case refine_10 => exact HK7.out.w.size
              case refine_11 =>
                intro g cap w9 hown9 hb9 hg9 _ _
                have hl9 : (Q ++ [(⟨.slice TA T.length TC, T, z⟩ : Tm)]).length = Q.length + 1 := by simp
                rw [← hl9] at hown9 ⊢
                have hown9' : w9.ownsRow W.heap.size 33 2 (.slice (some ⟨g, 0, none⟩) (Q ++ [(⟨.slice TA T.length TC, T, z⟩ : Tm)]).length cap) (Q ++ [(⟨.slice TA T.length TC, T, z⟩ : Tm)]).length (tms (Q ++ [(⟨.slice TA T.length TC, T, z⟩ : Tm)])) := by
                  rw [tms_append]
                  exact hown9
                have HK9 := keep (HK7.out.push (t := ⟨.slice TA T.length TC, T, z⟩) hown9' hb9 hg9 hgcW ⟨HTM7.out, hT6⟩ HZM.out)
                have hP9 : (Q ++ [(⟨.slice TA T.length TC, T, z⟩ : Tm)]).length ≤ k + 1 := by omega
                clear hown9 hown9' hb9 hg9 hl9 e0
                generalize Q ++ [(⟨.slice TA T.length TC, T, z⟩ : Tm)] = Q2 at HK9 hP9 ⊢
                go_wp2_with fail
                go_roundw
                case rel => exact ⟨k + 1, Q2, _, _, by omega, by go_num, rfl, hP9, HK9⟩
                case measure => simp [intOf]; omega
          · obtain rfl : k = S.length := by omega
            have HTOLD := keep (HT0.out)
            have HBQ : Hid (Below w.heap.size w wo) := keep (below_grown HBW.out hK.out.w HBW.out.size hgw)
            have HQO := keep (Sl.of_own hK.out.q)
            have HQX := keep (hK.out.xok hgcW w.heap.size)
            have HCo := keep hK.out.c
            have HQC : Hid (∀ t ∈ Q, t.ct ≤ 9223372036854775807) := keep (fun t ht => (hK.out.t t ht).2)
            have HS3 := keep (HS0.out.below HBQ.out (Nat.le_refl _))
            have HONE := keep (tms_one Q fun t ht => ((hK.out.t t ht).1.r (oB := 0)).form)
            have HONE0 := keep (tms_one L0 fun t ht => by obtain ⟨A, c, hv, _⟩ := (HT0.out t ht).1.form; exact ⟨A, _, c, hv⟩)
            have HLA : Hid (0 + Q.length ≤ maxLen) := keep (by unfold maxLen; omega)
            have HLB : Hid ((0 + Q.length) * 32 ≤ 140737488355328) := keep (by omega)
            have HLC : Hid (Q.length + L0.length ≤ maxLen) := keep (by unfold maxLen; omega)
            have HLD : Hid ((Q.length + L0.length) * 32 ≤ 140737488355328) := keep (by omega)
            have hgco := HCo.out.lt_
            clear hK
            go_wp2_with (first
              | (refine wpList_appendS elTm rfl (.tmp 70) (.tmp 71) rfl wo.heap.size (.slice A5 Q.length c5) Q.length (tms Q) rfl HO5.out (lt w.heap.size) (.slice A0 L0.length c0) L0.length (tms L0) rfl (HS3.out.below (HB5.out.mono HBQ.out.size) (Nat.le_refl _)) HONE0.out HLC.out HLD.out HB5.out.size ?_; intro v6 w6 hown6 hb6 hg6; obtain ⟨A6, c6, rfl, _⟩ := own_sl hown6; have HO6 := keep hown6; have HB6 := keep (HB5.out.trans (hb6.mono (Nat.le_refl _))); clear hown6 hb6 hg6)
              | (refine wpList_appendS elTm rfl (.const (.slice none 0 0)) (.tmp 69) rfl wo.heap.size (.slice none 0 0) 0 [] rfl (World.ownsRow_nil _ _ _ _) _ (.slice Aq Q.length cq) Q.length (tms Q) rfl HQO.out HONE.out HLA.out HLB.out (Nat.le_refl _) ?_; intro v5 w5 hown5 hb5 hg5; rw [Nat.zero_add, List.nil_append] at hown5; obtain ⟨A5, c5, rfl, _⟩ := own_sl hown5; have HO5 := keep hown5; have HB5 := keep hb5; clear hown5 hb5 hg5)
              | fail)
            obtain ⟨W2, hW2⟩ : ∃ W2, W2 = w6.alloc (.cells #[.slice A0 L0.length c0, .slice Aq Q.length cq, .slice A6 (Q.length + L0.length) c6] 29) := ⟨_, rfl⟩
            have hal : Below w6.heap.size w6 W2 := hW2 ▸ (Below.refl _ w6).alloc (Nat.le_refl _) _
            have hbx : Blk W2 w6.heap.size 29 #[.slice A0 L0.length c0, .slice Aq Q.length cq, .slice A6 (Q.length + L0.length) c6] := hW2 ▸ Blk.new w6 _ _
            have hW6 : Below wo.heap.size wo W2 := HB6.out.trans (hal.mono HB6.out.size)
            have hQ2 := HQX.out.grown (grownBy_of_below hW6 _)
            have hoB : w.heap.size ≤ W2.heap.size := Nat.le_trans HBQ.out.size hW6.size
            have hL2 : XOk w.heap.size gc W2 (.slice A0 L0.length c0) L0 :=
              ⟨(HS3.out.below (hW6.mono HBQ.out.size) (Nat.le_refl _)).mono fun b hb => ⟨Nat.lt_of_lt_of_le hb hoB, fun e => by have hb' : b < w.heap.size := hb; omega⟩,
               fun t ht => ⟨(((HTOLD.out t ht).1.below HBQ.out (Nat.le_refl _)).below (hW6.mono HBQ.out.size) (Nat.le_refl _)).mono fun b hb => ⟨⟨Nat.lt_of_lt_of_le hb hoB, .inl hb⟩, fun e => by have hb' : b < w.heap.size := hb; omega⟩, by have := HT7.out t ht; omega⟩⟩
            have HX : Hid (∀ k, k < 3 → ∃ (A : Option Addr) (c : Nat) (X : List Tm), W2.cell? ⟨w6.heap.size, k, none⟩ = some (.slice A X.length c) ∧ XOk w.heap.size gc W2 (.slice A X.length c) X ∧ (∀ t ∈ X, t.ct ≤ 9223372036854775807) ∧ X.length ≤ 34) := keep (fun k hk => by
              have b0 : W2.cell? ⟨w6.heap.size, 0, none⟩ = some (.slice A0 L0.length c0) := (hbx.cell 0).trans rfl
              have b1 : W2.cell? ⟨w6.heap.size, 1, none⟩ = some (.slice Aq Q.length cq) := (hbx.cell 1).trans rfl
              have b2 : W2.cell? ⟨w6.heap.size, 2, none⟩ = some (.slice A6 (Q.length + L0.length) c6) := (hbx.cell 2).trans rfl
              have e : k = 0 ∨ k = 1 ∨ k = 2 := by omega
              rcases e with rfl | rfl | rfl
              · exact ⟨A0, c0, L0, b0, hL2, fun t ht => (HTOLD.out t ht).2, by omega⟩
              · exact ⟨Aq, cq, Q, b1, hQ2, HQC.out, by omega⟩
              · refine ⟨A6, c6, Q ++ L0, by rw [List.length_append]; exact b2, ⟨?_, fun t ht => ?_⟩, fun t ht => ?_, by rw [List.length_append]; omega⟩
                · have h := (Sl.of_own_btw (own_bel HO6.out hal)).mono fun b (hb : btw wo.heap.size W2.heap.size b) => (⟨hb.2, by have := hb.1; omega⟩ : b < W2.heap.size ∧ b ≠ gc)
                  rw [List.length_append, tms_append]
                  exact h
                · rcases List.mem_append.1 ht with h | h
                  · exact hQ2.2 t h
                  · exact hL2.2 t h
                · rcases List.mem_append.1 ht with h | h
                  · exact HQC.out t h
                  · exact (HTOLD.out t h).2)
            have HBX := keep hbx
            have HC2 := keep (HCo.out.under hW6 hgco)
            have HBW2 := keep (HBQ.out.trans (hW6.mono HBQ.out.size))
            rw [← hW2]
            have hbl := hbx.lt
            have hgcl : gc < w6.heap.size := Nat.lt_of_lt_of_le hgco HB6.out.size
            clear hW2 hal hbx hW6 HO6 HB6 HO5 HB5 HS3 hQ2 hL2 HQX HQO HTOLD HQC HCo
            go_loopw [75] (fun u75 wr => ∃ k : Nat, k ≤ 3 ∧ u75 = .int .i64 k ∧ Hid (Codes wr gc) ∧ Hid (W2.grownBy wr (some gc))) (fun u75 _ => 3 - (intOf u75).toNat)
            case atStart => exact ⟨0, by omega, rfl, HC2, keep (World.grownBy.refl _ _)⟩
            case round =>
              obtain ⟨k, hk, rfl, hC, hG⟩ := hrel
              obtain ⟨wa, rfl⟩ : ∃ wa : World, wa = wr := ⟨_, rfl⟩
              by_cases hlt : k < 3
              · obtain ⟨A, c, X, q0, hxo, hxc, hXl⟩ := HX.out k hlt
                have q1 : wa.cell? ⟨w6.heap.size, k, none⟩ = some (.slice A X.length c) := (World.cell?_of_block (hG.out.block w6.heap.size hbl (fun e => by injection e; omega))).trans q0
                have HXO := keep (hxo.grown hG.out)
                have HXC := keep hxc
                have hoBa : w.heap.size ≤ wa.heap.size := Nat.le_trans hoB hG.out.size
                have i1 : (k : Int) < 3 := by omega
                have HM1 := keep (of_any (oB := w.heap.size) (.slice A X.length c) X wa HXO.out.ms.1 HXO.out.ms.2 hxc (by omega) hoBa)
                clear q0 hxo hxc
                go_wp2_with fail
                refine HM1.out.mono ?_
                rintro e w7 ⟨v7, R1, rfl, ho7, ht7, hp7, hs7, hl7, hb7⟩
                obtain ⟨AR, cR, rfl, _⟩ := own_sl ho7
                have HR1 := keep (Sl.of_own ho7)
                have HT1 : Hid (∀ t ∈ R1, TkR w.heap.size w7 t) := keep (fun t ht => (ht7 t ht).r)
                have HP1 := keep hp7
                have HS1 := keep hs7
                have hR1l : R1.length ≤ 34 := by omega
                have HG7 := keep (grownBy_below hG.out (hb7.mono hG.out.size))
                have HC7 := keep (hC.out.under hb7 hC.out.lt_)
                have HXO7 := keep (HXO.out.grown (grownBy_of_below hb7 _))
                have HM2 := keep (refOf_any (.slice A X.length c) X w7 HXO7.out.ms.1 HXO7.out.ms.2 HXC.out (by omega))
                clear ho7 ht7 hp7 hs7 hl7 hb7 HM1 q1
                go_wp2_with fail
                refine HM2.out.mono ?_
                rintro e w8 ⟨v8, R2, rfl, hM8, hp8, hs8, hl8, hb8⟩
                obtain ⟨AQ, cQ, rfl, _, _⟩ := hM8.1.form
                have hR1b : MS w.heap.size w8 (.slice AR R1.length cR) R1 := ⟨HR1.out.upW hb8, fun t ht => (HT1.out t ht).up hb8⟩
                have HG8 := keep (grownBy_below HG7.out (hb8.mono HG7.out.size))
                have HC8 := keep (HC7.out.under hb8 HC7.out.lt_)
                have HXO8 := keep (HXO7.out.grown (grownBy_of_below hb8 _))
                have HSAME := keep (same_any (.slice AR R1.length cR) (.slice AQ R2.length cQ) R1 R2 w8 hR1b hM8 (srt_eq HS1.out hs8 (HP1.out.trans hp8.symm)) (by omega))
                clear hM8 hp8 hs8 hl8 hb8 HM2 HP1 HS1 hR1b HR1 HT1
                go_wp2_with fail
                refine HSAME.out.mono ?_
                rintro e w9 ⟨rfl, hb9⟩
                have HG9 := keep (grownBy_below HG8.out (hb9.mono HG8.out.size))
                have HC9 := keep (HC8.out.under hb9 HC8.out.lt_)
                have HXO9 := keep (HXO8.out.grown (grownBy_of_below hb9 _))
                clear hb9 HSAME
                go_wp2_with fail
                go_loopw [18] (fun u18 wr => ∃ ii : Nat, 1 ≤ ii ∧ (ii ≤ X.length ∨ ii = 1) ∧ u18 = .int .i64 ii ∧ Hid (Below w9.heap.size w9 wr)) (fun u18 _ => X.length + 1 - (intOf u18).toNat)
                case atStart => exact ⟨1, Nat.le_refl _, .inr rfl, rfl, keep (Below.refl _ _)⟩
                case round =>
                  obtain ⟨ii, hi1, hil, rfl, hBi⟩ := hrel
                  obtain ⟨wp, rfl⟩ : ∃ wp : World, wp = wr := ⟨_, rfl⟩
                  by_cases hlt2 : ii < X.length
                  · obtain ⟨bb, hib⟩ : ∃ bb, ii = bb + 1 := ⟨ii - 1, by omega⟩
                    have hbX : bb < X.length := by omega
                    have hms := (HXO9.out.grown (grownBy_of_below hBi.out _)).ms
                    have hcx : ∀ W' : World, Below wp.heap.size wp W' → ∃ bx ox, A = some ⟨bx, ox, none⟩ ∧ (W'.cell? ⟨bx, ox + bb * 2, none⟩ = some X[bb].tv ∧ W'.cell? ⟨bx, ox + bb * 2 + 1, none⟩ = some (.int .i64 X[bb].ct)) ∧ (W'.cell? ⟨bx, ox + ii * 2, none⟩ = some X[ii].tv ∧ W'.cell? ⟨bx, ox + ii * 2 + 1, none⟩ = some (.int .i64 X[ii].ct)) := fun W' h => by
                      have h2 := hms.up h
                      obtain ⟨bx, ox, rfl, _, p0, p1⟩ := tm_cells h2.1 hbX
                      obtain ⟨bx', ox', hA, _, p2, p3⟩ := tm_cells h2.1 hlt2
                      injection hA with hA
                      injection hA with e1 e2 _
                      subst e1
                      subst e2
                      exact ⟨_, _, rfl, ⟨p0, p1⟩, p2, p3⟩
                    obtain ⟨bx, ox, rfl, -⟩ := hcx wp (Below.refl _ _)
                    have htr0 := hms.2 _ (List.getElem_mem hbX)
                    have htr1 := hms.2 _ (List.getElem_mem hlt2)
                    obtain ⟨t0, ht0⟩ : ∃ t, X[bb] = t := ⟨_, rfl⟩
                    obtain ⟨t1, ht1⟩ : ∃ t, X[ii] = t := ⟨_, rfl⟩
                    have hcx2 : ∀ W' : World, Below wp.heap.size wp W' → (W'.cell? ⟨bx, ox + bb * 2, none⟩ = some t0.tv ∧ W'.cell? ⟨bx, ox + bb * 2 + 1, none⟩ = some (.int .i64 t0.ct)) ∧ (W'.cell? ⟨bx, ox + ii * 2, none⟩ = some t1.tv ∧ W'.cell? ⟨bx, ox + ii * 2 + 1, none⟩ = some (.int .i64 t1.ct)) := fun W' h => by
                      obtain ⟨bx', ox', hA, h1, h2⟩ := hcx W' h
                      injection hA with hA
                      injection hA with e1 e2 _
                      subst e1
                      subst e2
                      rw [← ht0, ← ht1]
                      exact ⟨h1, h2⟩
                    rw [ht0] at htr0
                    rw [ht1] at htr1
                    obtain ⟨tv0, T0, ct0⟩ := t0
                    obtain ⟨tv1, T1, ct1⟩ := t1
                    obtain ⟨y0, n0, k0, hv0⟩ := htr0.form
                    obtain ⟨y1, n1, k1, hv1⟩ := htr1.form
                    simp only at hv0 hv1 hcx2
                    subst hv0
                    subst hv1
                    obtain ⟨z1, hz1⟩ : ∃ z, decide (cmpO (⟨.slice y0 n0 k0, T0, ct0⟩ : Tm) ⟨.slice y1 n1 k1, T1, ct1⟩ < 0) = z := ⟨_, rfl⟩
                    obtain ⟨z2, hz2⟩ : ∃ z, decide (cmpO (⟨.slice y1 n1 k1, T1, ct1⟩ : Tm) ⟨.slice y0 n0 k0, T0, ct0⟩ < 0) = z := ⟨_, rfl⟩
                    have P1 := keep (fun (W' : World) (h : Below wp.heap.size wp W') => pless_any (⟨.slice y0 n0 k0, T0, ct0⟩ : Tm) ⟨.slice y1 n1 k1, T1, ct1⟩ W' (htr0.up h) (htr1.up h))
                    have P2 := keep (fun (W' : World) (h : Below wp.heap.size wp W') => rless_any (⟨.slice y0 n0 k0, T0, ct0⟩ : Tm) ⟨.slice y1 n1 k1, T1, ct1⟩ W' (htr0.up h) (htr1.up h))
                    have P3 := keep (fun (W' : World) (h : Below wp.heap.size wp W') => pless_any (⟨.slice y1 n1 k1, T1, ct1⟩ : Tm) ⟨.slice y0 n0 k0, T0, ct0⟩ W' (htr1.up h) (htr0.up h))
                    have P4 := keep (fun (W' : World) (h : Below wp.heap.size wp W') => rless_any (⟨.slice y1 n1 k1, T1, ct1⟩ : Tm) ⟨.slice y0 n0 k0, T0, ct0⟩ W' (htr1.up h) (htr0.up h))
                    rw [hz1] at P1 P2
                    rw [hz2] at P3 P4
                    simp only [tmV] at P1 P2 P3 P4
                    have HCX := keep hcx2
                    obtain ⟨⟨a0, a1⟩, a2, a3⟩ := HCX.out wp (Below.refl _ _)
                    have zz1 : (z1 != z1) = false := by simp
                    have zz2 : (z2 != z2) = false := by simp
                    have hwb : IntKind.i64.wrap ((ii : Int) - 1) = (bb : Int) := by rw [IntWalk.i64_in _ (by omega)]; omega
                    have j1 : (bb : Int) < (X.length : Int) := by omega
                    have j2 : (ii : Int) < (X.length : Int) := by omega
                    have j4 : (0 : Int) ≤ (bb : Int) := by omega
                    have HIB := keep hib
                    have j3 : (bb : Int) ≤ 34 := by omega
                    clear hms hcx hcx2 htr0 htr1 ht0 ht1 hz1 hz2 hib a0 a1 a2 a3
                    -- REGION
                    go_wp2_with fail
                    refine reg_start 167 fr167 (fun _ => rfl) _ rfl fun x0 hx0 => ?_
                    have y16 : x0 16 = .slice (some ⟨bx, ox, none⟩) X.length c := hx0 16
                    have y18 : x0 18 = .int .i64 (ii : Int) := hx0 18
                    refine wp_regT (by kernel_rfl) 167 (by kernel_rfl) fr167 (fun _ => rfl) x0 (Below wp.heap.size wp) (fun _ _ _ => True) (fun i v wa => match i with
                        | 0 => v = .slice (some ⟨bx, ox, none⟩) X.length c
                        | 1 => v = .int .i64 (ii : Int)
                        | 2 => v = .int .i64 (bb : Int)
                        | 3 => v = .pointer (some ⟨bx, ox + bb * 2, none⟩)
                        | 4 => v = .agg #[.slice y0 n0 k0, .int .i64 ct0]
                        | 5 => v = .slice (some ⟨bx, ox, none⟩) X.length c
                        | 6 => v = .int .i64 (ii : Int)
                        | 7 => v = .pointer (some ⟨bx, ox + ii * 2, none⟩)
                        | 8 => v = .agg #[.slice y1 n1 k1, .int .i64 ct1]
                        | 9 => v = .bool z1
                        | 10 => v = .slice (some ⟨bx, ox, none⟩) X.length c
                        | 11 => v = .int .i64 (ii : Int)
                        | 12 => v = .int .i64 (bb : Int)
                        | 13 => v = .pointer (some ⟨bx, ox + bb * 2, none⟩)
                        | 14 => v = .agg #[.slice y0 n0 k0, .int .i64 ct0]
                        | 15 => v = .slice (some ⟨bx, ox, none⟩) X.length c
                        | 16 => v = .int .i64 (ii : Int)
                        | 17 => v = .pointer (some ⟨bx, ox + ii * 2, none⟩)
                        | 18 => v = .agg #[.slice y1 n1 k1, .int .i64 ct1]
                        | 19 => v = .bool z1
                        | 20 => v = .bool false
                        | 21 => v = .bool false
                        | 22 => v = .slice (some ⟨bx, ox, none⟩) X.length c
                        | 23 => v = .int .i64 (ii : Int)
                        | 24 => v = .pointer (some ⟨bx, ox + ii * 2, none⟩)
                        | 25 => v = .agg #[.slice y1 n1 k1, .int .i64 ct1]
                        | 26 => v = .slice (some ⟨bx, ox, none⟩) X.length c
                        | 27 => v = .int .i64 (ii : Int)
                        | 28 => v = .int .i64 (bb : Int)
                        | 29 => v = .pointer (some ⟨bx, ox + bb * 2, none⟩)
                        | 30 => v = .agg #[.slice y0 n0 k0, .int .i64 ct0]
                        | 31 => v = .bool z2
                        | 32 => v = .slice (some ⟨bx, ox, none⟩) X.length c
                        | 33 => v = .int .i64 (ii : Int)
                        | 34 => v = .pointer (some ⟨bx, ox + ii * 2, none⟩)
                        | 35 => v = .agg #[.slice y1 n1 k1, .int .i64 ct1]
                        | 36 => v = .slice (some ⟨bx, ox, none⟩) X.length c
                        | 37 => v = .int .i64 (ii : Int)
                        | 38 => v = .int .i64 (bb : Int)
                        | 39 => v = .pointer (some ⟨bx, ox + bb * 2, none⟩)
                        | 40 => v = .agg #[.slice y0 n0 k0, .int .i64 ct0]
                        | 41 => v = .bool z2
                        | 42 => v = .bool false
                        | 43 => v = .bool false
                        | _ => True) (fun _ _ _ _ _ _ _ h => h) (below_drewN (Below.refl _ _) 1) ?step ?skip ?done
                    case step =>
                      intro i o ho x wa K hW hout hdep hgd hK
                      have E16 : Hid (x 16 = .slice (some ⟨bx, ox, none⟩) X.length c) := keep ((hout 16 (by decide)).trans y16)
                      have E18 : Hid (x 18 = .int .i64 (ii : Int)) := keep ((hout 18 (by decide)).trans y18)
                      clear hout hx0 y16 y18
                      have hi : i < 44 := (Array.getElem?_eq_some_iff.1 ho).1
                      have hcase : i = 0 ∨ i = 1 ∨ i = 2 ∨ i = 3 ∨ i = 4 ∨ i = 5 ∨ i = 6 ∨ i = 7 ∨ i = 8 ∨ i = 9 ∨ i = 10 ∨ i = 11 ∨ i = 12 ∨ i = 13 ∨ i = 14 ∨ i = 15 ∨ i = 16 ∨ i = 17 ∨ i = 18 ∨ i = 19 ∨ i = 20 ∨ i = 21 ∨ i = 22 ∨ i = 23 ∨ i = 24 ∨ i = 25 ∨ i = 26 ∨ i = 27 ∨ i = 28 ∨ i = 29 ∨ i = 30 ∨ i = 31 ∨ i = 32 ∨ i = 33 ∨ i = 34 ∨ i = 35 ∨ i = 36 ∨ i = 37 ∨ i = 38 ∨ i = 39 ∨ i = 40 ∨ i = 41 ∨ i = 42 ∨ i = 43 := by omega
                      clear hi
                      rcases hcase with rfl | rfl | rfl | rfl | rfl | rfl | rfl | rfl | rfl | rfl | rfl | rfl | rfl | rfl | rfl | rfl | rfl | rfl | rfl | rfl | rfl | rfl | rfl | rfl | rfl | rfl | rfl | rfl | rfl | rfl | rfl | rfl | rfl | rfl | rfl | rfl | rfl | rfl | rfl | rfl | rfl | rfl | rfl | rfl
                      · -- operation 0
                        simp only [List.getElem?_toArray, List.getElem?_cons_zero, Option.some.injEq] at ho
                        subst ho
                        clear hdep hgd
                        unfold fr167
                        rw [E16.out]
                        go_simp
                        have hk : K { tmps := #[x 0, x 1, x 2, x 3, x 4, x 5, x 6, x 7, x 8, x 9, x 10, x 11, x 12, x 13, x 14, x 15, x 16, x 17, x 18, x 19, x 20, x 21, x 22, x 23, x 24, x 25, x 26, x 27, x 28, x 29, x 30, x 31, x 32, x 33, x 34, x 35, x 36, x 37, x 38, x 39, x 40, x 41, x 42, x 43, x 44, x 45, x 46, x 47, x 48, x 49, x 50, x 51, x 52, x 53, x 54, x 55, x 56, x 57, x 58, x 59, x 60, x 61, x 62, x 63, x 64, x 65, x 66, x 67, x 68, x 69, x 70, x 71, x 72, x 73, x 74, x 75, x 76, x 77, x 78, x 79, x 80, x 81, x 82, x 83, x 84, x 85, x 86, x 87, x 88, x 89, x 90, x 91, .slice (some ⟨bx, ox, none⟩) X.length c, x 93, x 94, x 95, x 96, x 97, x 98, x 99, x 100, x 101, x 102, x 103, x 104, x 105, x 106, x 107, x 108, x 109, x 110, x 111, x 112, x 113, x 114, x 115, x 116, x 117, x 118, x 119, x 120, x 121, x 122, x 123, x 124, x 125, x 126, x 127, x 128, x 129, x 130, x 131, x 132, x 133, x 134, x 135, x 136, x 137, x 138, x 139, x 140, x 141, x 142, x 143, x 144, x 145, x 146, x 147, x 148, x 149, x 150, x 151, x 152, x 153, x 154, x 155, x 156, x 157, x 158, x 159, x 160, x 161, x 162, x 163, x 164, x 165, x 166], defers := [] } wa := hK _ _ hW trivial rfl
                        rw [E16.out] at hk
                        exact hk
                      · -- operation 1
                        simp only [List.getElem?_toArray, List.getElem?_cons_succ, List.getElem?_cons_zero, Option.some.injEq] at ho
                        subst ho
                        clear hdep hgd
                        unfold fr167
                        rw [E18.out]
                        go_simp
                        have hk : K { tmps := #[x 0, x 1, x 2, x 3, x 4, x 5, x 6, x 7, x 8, x 9, x 10, x 11, x 12, x 13, x 14, x 15, x 16, x 17, x 18, x 19, x 20, x 21, x 22, x 23, x 24, x 25, x 26, x 27, x 28, x 29, x 30, x 31, x 32, x 33, x 34, x 35, x 36, x 37, x 38, x 39, x 40, x 41, x 42, x 43, x 44, x 45, x 46, x 47, x 48, x 49, x 50, x 51, x 52, x 53, x 54, x 55, x 56, x 57, x 58, x 59, x 60, x 61, x 62, x 63, x 64, x 65, x 66, x 67, x 68, x 69, x 70, x 71, x 72, x 73, x 74, x 75, x 76, x 77, x 78, x 79, x 80, x 81, x 82, x 83, x 84, x 85, x 86, x 87, x 88, x 89, x 90, x 91, x 92, .int .i64 (ii : Int), x 94, x 95, x 96, x 97, x 98, x 99, x 100, x 101, x 102, x 103, x 104, x 105, x 106, x 107, x 108, x 109, x 110, x 111, x 112, x 113, x 114, x 115, x 116, x 117, x 118, x 119, x 120, x 121, x 122, x 123, x 124, x 125, x 126, x 127, x 128, x 129, x 130, x 131, x 132, x 133, x 134, x 135, x 136, x 137, x 138, x 139, x 140, x 141, x 142, x 143, x 144, x 145, x 146, x 147, x 148, x 149, x 150, x 151, x 152, x 153, x 154, x 155, x 156, x 157, x 158, x 159, x 160, x 161, x 162, x 163, x 164, x 165, x 166], defers := [] } wa := hK _ _ hW trivial rfl
                        rw [E18.out] at hk
                        exact hk
                      · -- operation 2
                        simp only [List.getElem?_toArray, List.getElem?_cons_succ, List.getElem?_cons_zero, Option.some.injEq] at ho
                        subst ho
                        have p1 : (x 93) = .int .i64 (ii : Int) := hdep 1 (List.mem_of_elem_eq_true (by kernel_rfl))
                        clear hdep hgd
                        unfold fr167
                        rw [p1]
                        go_simp
                        have hk : K { tmps := #[x 0, x 1, x 2, x 3, x 4, x 5, x 6, x 7, x 8, x 9, x 10, x 11, x 12, x 13, x 14, x 15, x 16, x 17, x 18, x 19, x 20, x 21, x 22, x 23, x 24, x 25, x 26, x 27, x 28, x 29, x 30, x 31, x 32, x 33, x 34, x 35, x 36, x 37, x 38, x 39, x 40, x 41, x 42, x 43, x 44, x 45, x 46, x 47, x 48, x 49, x 50, x 51, x 52, x 53, x 54, x 55, x 56, x 57, x 58, x 59, x 60, x 61, x 62, x 63, x 64, x 65, x 66, x 67, x 68, x 69, x 70, x 71, x 72, x 73, x 74, x 75, x 76, x 77, x 78, x 79, x 80, x 81, x 82, x 83, x 84, x 85, x 86, x 87, x 88, x 89, x 90, x 91, x 92, x 93, .int .i64 (bb : Int), x 95, x 96, x 97, x 98, x 99, x 100, x 101, x 102, x 103, x 104, x 105, x 106, x 107, x 108, x 109, x 110, x 111, x 112, x 113, x 114, x 115, x 116, x 117, x 118, x 119, x 120, x 121, x 122, x 123, x 124, x 125, x 126, x 127, x 128, x 129, x 130, x 131, x 132, x 133, x 134, x 135, x 136, x 137, x 138, x 139, x 140, x 141, x 142, x 143, x 144, x 145, x 146, x 147, x 148, x 149, x 150, x 151, x 152, x 153, x 154, x 155, x 156, x 157, x 158, x 159, x 160, x 161, x 162, x 163, x 164, x 165, x 166], defers := [] } wa := hK _ _ hW trivial rfl
                        rw [p1] at hk
                        exact hk
                      · -- operation 3
                        simp only [List.getElem?_toArray, List.getElem?_cons_succ, List.getElem?_cons_zero, Option.some.injEq] at ho
                        subst ho
                        have p0 : (x 92) = .slice (some ⟨bx, ox, none⟩) X.length c := hdep 0 (List.mem_of_elem_eq_true (by kernel_rfl))
                        have p2 : (x 94) = .int .i64 (bb : Int) := hdep 2 (List.mem_of_elem_eq_true (by kernel_rfl))
                        clear hdep hgd
                        unfold fr167
                        rw [p0, p2]
                        go_simp
                        have hk : K { tmps := #[x 0, x 1, x 2, x 3, x 4, x 5, x 6, x 7, x 8, x 9, x 10, x 11, x 12, x 13, x 14, x 15, x 16, x 17, x 18, x 19, x 20, x 21, x 22, x 23, x 24, x 25, x 26, x 27, x 28, x 29, x 30, x 31, x 32, x 33, x 34, x 35, x 36, x 37, x 38, x 39, x 40, x 41, x 42, x 43, x 44, x 45, x 46, x 47, x 48, x 49, x 50, x 51, x 52, x 53, x 54, x 55, x 56, x 57, x 58, x 59, x 60, x 61, x 62, x 63, x 64, x 65, x 66, x 67, x 68, x 69, x 70, x 71, x 72, x 73, x 74, x 75, x 76, x 77, x 78, x 79, x 80, x 81, x 82, x 83, x 84, x 85, x 86, x 87, x 88, x 89, x 90, x 91, x 92, x 93, x 94, .pointer (some ⟨bx, ox + bb * 2, none⟩), x 96, x 97, x 98, x 99, x 100, x 101, x 102, x 103, x 104, x 105, x 106, x 107, x 108, x 109, x 110, x 111, x 112, x 113, x 114, x 115, x 116, x 117, x 118, x 119, x 120, x 121, x 122, x 123, x 124, x 125, x 126, x 127, x 128, x 129, x 130, x 131, x 132, x 133, x 134, x 135, x 136, x 137, x 138, x 139, x 140, x 141, x 142, x 143, x 144, x 145, x 146, x 147, x 148, x 149, x 150, x 151, x 152, x 153, x 154, x 155, x 156, x 157, x 158, x 159, x 160, x 161, x 162, x 163, x 164, x 165, x 166], defers := [] } wa := hK _ _ hW trivial rfl
                        rw [p0, p2] at hk
                        exact hk
                      · -- operation 4
                        simp only [List.getElem?_toArray, List.getElem?_cons_succ, List.getElem?_cons_zero, Option.some.injEq] at ho
                        subst ho
                        have p3 : (x 95) = .pointer (some ⟨bx, ox + bb * 2, none⟩) := hdep 3 (List.mem_of_elem_eq_true (by kernel_rfl))
                        clear hdep hgd
                        obtain ⟨⟨a0, a1⟩, a2, a3⟩ := HCX.out wa hW
                        unfold fr167
                        rw [p3]
                        go_simp
                        have hk : K { tmps := #[x 0, x 1, x 2, x 3, x 4, x 5, x 6, x 7, x 8, x 9, x 10, x 11, x 12, x 13, x 14, x 15, x 16, x 17, x 18, x 19, x 20, x 21, x 22, x 23, x 24, x 25, x 26, x 27, x 28, x 29, x 30, x 31, x 32, x 33, x 34, x 35, x 36, x 37, x 38, x 39, x 40, x 41, x 42, x 43, x 44, x 45, x 46, x 47, x 48, x 49, x 50, x 51, x 52, x 53, x 54, x 55, x 56, x 57, x 58, x 59, x 60, x 61, x 62, x 63, x 64, x 65, x 66, x 67, x 68, x 69, x 70, x 71, x 72, x 73, x 74, x 75, x 76, x 77, x 78, x 79, x 80, x 81, x 82, x 83, x 84, x 85, x 86, x 87, x 88, x 89, x 90, x 91, x 92, x 93, x 94, x 95, .agg #[.slice y0 n0 k0, .int .i64 ct0], x 97, x 98, x 99, x 100, x 101, x 102, x 103, x 104, x 105, x 106, x 107, x 108, x 109, x 110, x 111, x 112, x 113, x 114, x 115, x 116, x 117, x 118, x 119, x 120, x 121, x 122, x 123, x 124, x 125, x 126, x 127, x 128, x 129, x 130, x 131, x 132, x 133, x 134, x 135, x 136, x 137, x 138, x 139, x 140, x 141, x 142, x 143, x 144, x 145, x 146, x 147, x 148, x 149, x 150, x 151, x 152, x 153, x 154, x 155, x 156, x 157, x 158, x 159, x 160, x 161, x 162, x 163, x 164, x 165, x 166], defers := [] } wa := hK _ _ hW trivial rfl
                        rw [p3] at hk
                        exact hk
                      · -- operation 5
                        simp only [List.getElem?_toArray, List.getElem?_cons_succ, List.getElem?_cons_zero, Option.some.injEq] at ho
                        subst ho
                        clear hdep hgd
                        unfold fr167
                        rw [E16.out]
                        go_simp
                        have hk : K { tmps := #[x 0, x 1, x 2, x 3, x 4, x 5, x 6, x 7, x 8, x 9, x 10, x 11, x 12, x 13, x 14, x 15, x 16, x 17, x 18, x 19, x 20, x 21, x 22, x 23, x 24, x 25, x 26, x 27, x 28, x 29, x 30, x 31, x 32, x 33, x 34, x 35, x 36, x 37, x 38, x 39, x 40, x 41, x 42, x 43, x 44, x 45, x 46, x 47, x 48, x 49, x 50, x 51, x 52, x 53, x 54, x 55, x 56, x 57, x 58, x 59, x 60, x 61, x 62, x 63, x 64, x 65, x 66, x 67, x 68, x 69, x 70, x 71, x 72, x 73, x 74, x 75, x 76, x 77, x 78, x 79, x 80, x 81, x 82, x 83, x 84, x 85, x 86, x 87, x 88, x 89, x 90, x 91, x 92, x 93, x 94, x 95, x 96, .slice (some ⟨bx, ox, none⟩) X.length c, x 98, x 99, x 100, x 101, x 102, x 103, x 104, x 105, x 106, x 107, x 108, x 109, x 110, x 111, x 112, x 113, x 114, x 115, x 116, x 117, x 118, x 119, x 120, x 121, x 122, x 123, x 124, x 125, x 126, x 127, x 128, x 129, x 130, x 131, x 132, x 133, x 134, x 135, x 136, x 137, x 138, x 139, x 140, x 141, x 142, x 143, x 144, x 145, x 146, x 147, x 148, x 149, x 150, x 151, x 152, x 153, x 154, x 155, x 156, x 157, x 158, x 159, x 160, x 161, x 162, x 163, x 164, x 165, x 166], defers := [] } wa := hK _ _ hW trivial rfl
                        rw [E16.out] at hk
                        exact hk
                      · -- operation 6
                        simp only [List.getElem?_toArray, List.getElem?_cons_succ, List.getElem?_cons_zero, Option.some.injEq] at ho
                        subst ho
                        clear hdep hgd
                        unfold fr167
                        rw [E18.out]
                        go_simp
                        have hk : K { tmps := #[x 0, x 1, x 2, x 3, x 4, x 5, x 6, x 7, x 8, x 9, x 10, x 11, x 12, x 13, x 14, x 15, x 16, x 17, x 18, x 19, x 20, x 21, x 22, x 23, x 24, x 25, x 26, x 27, x 28, x 29, x 30, x 31, x 32, x 33, x 34, x 35, x 36, x 37, x 38, x 39, x 40, x 41, x 42, x 43, x 44, x 45, x 46, x 47, x 48, x 49, x 50, x 51, x 52, x 53, x 54, x 55, x 56, x 57, x 58, x 59, x 60, x 61, x 62, x 63, x 64, x 65, x 66, x 67, x 68, x 69, x 70, x 71, x 72, x 73, x 74, x 75, x 76, x 77, x 78, x 79, x 80, x 81, x 82, x 83, x 84, x 85, x 86, x 87, x 88, x 89, x 90, x 91, x 92, x 93, x 94, x 95, x 96, x 97, .int .i64 (ii : Int), x 99, x 100, x 101, x 102, x 103, x 104, x 105, x 106, x 107, x 108, x 109, x 110, x 111, x 112, x 113, x 114, x 115, x 116, x 117, x 118, x 119, x 120, x 121, x 122, x 123, x 124, x 125, x 126, x 127, x 128, x 129, x 130, x 131, x 132, x 133, x 134, x 135, x 136, x 137, x 138, x 139, x 140, x 141, x 142, x 143, x 144, x 145, x 146, x 147, x 148, x 149, x 150, x 151, x 152, x 153, x 154, x 155, x 156, x 157, x 158, x 159, x 160, x 161, x 162, x 163, x 164, x 165, x 166], defers := [] } wa := hK _ _ hW trivial rfl
                        rw [E18.out] at hk
                        exact hk
                      · -- operation 7
                        simp only [List.getElem?_toArray, List.getElem?_cons_succ, List.getElem?_cons_zero, Option.some.injEq] at ho
                        subst ho
                        have p5 : (x 97) = .slice (some ⟨bx, ox, none⟩) X.length c := hdep 5 (List.mem_of_elem_eq_true (by kernel_rfl))
                        have p6 : (x 98) = .int .i64 (ii : Int) := hdep 6 (List.mem_of_elem_eq_true (by kernel_rfl))
                        clear hdep hgd
                        unfold fr167
                        rw [p5, p6]
                        go_simp
                        have hk : K { tmps := #[x 0, x 1, x 2, x 3, x 4, x 5, x 6, x 7, x 8, x 9, x 10, x 11, x 12, x 13, x 14, x 15, x 16, x 17, x 18, x 19, x 20, x 21, x 22, x 23, x 24, x 25, x 26, x 27, x 28, x 29, x 30, x 31, x 32, x 33, x 34, x 35, x 36, x 37, x 38, x 39, x 40, x 41, x 42, x 43, x 44, x 45, x 46, x 47, x 48, x 49, x 50, x 51, x 52, x 53, x 54, x 55, x 56, x 57, x 58, x 59, x 60, x 61, x 62, x 63, x 64, x 65, x 66, x 67, x 68, x 69, x 70, x 71, x 72, x 73, x 74, x 75, x 76, x 77, x 78, x 79, x 80, x 81, x 82, x 83, x 84, x 85, x 86, x 87, x 88, x 89, x 90, x 91, x 92, x 93, x 94, x 95, x 96, x 97, x 98, .pointer (some ⟨bx, ox + ii * 2, none⟩), x 100, x 101, x 102, x 103, x 104, x 105, x 106, x 107, x 108, x 109, x 110, x 111, x 112, x 113, x 114, x 115, x 116, x 117, x 118, x 119, x 120, x 121, x 122, x 123, x 124, x 125, x 126, x 127, x 128, x 129, x 130, x 131, x 132, x 133, x 134, x 135, x 136, x 137, x 138, x 139, x 140, x 141, x 142, x 143, x 144, x 145, x 146, x 147, x 148, x 149, x 150, x 151, x 152, x 153, x 154, x 155, x 156, x 157, x 158, x 159, x 160, x 161, x 162, x 163, x 164, x 165, x 166], defers := [] } wa := hK _ _ hW trivial rfl
                        rw [p5, p6] at hk
                        exact hk
                      · -- operation 8
                        simp only [List.getElem?_toArray, List.getElem?_cons_succ, List.getElem?_cons_zero, Option.some.injEq] at ho
                        subst ho
                        have p7 : (x 99) = .pointer (some ⟨bx, ox + ii * 2, none⟩) := hdep 7 (List.mem_of_elem_eq_true (by kernel_rfl))
                        clear hdep hgd
                        obtain ⟨⟨a0, a1⟩, a2, a3⟩ := HCX.out wa hW
                        unfold fr167
                        rw [p7]
                        go_simp
                        have hk : K { tmps := #[x 0, x 1, x 2, x 3, x 4, x 5, x 6, x 7, x 8, x 9, x 10, x 11, x 12, x 13, x 14, x 15, x 16, x 17, x 18, x 19, x 20, x 21, x 22, x 23, x 24, x 25, x 26, x 27, x 28, x 29, x 30, x 31, x 32, x 33, x 34, x 35, x 36, x 37, x 38, x 39, x 40, x 41, x 42, x 43, x 44, x 45, x 46, x 47, x 48, x 49, x 50, x 51, x 52, x 53, x 54, x 55, x 56, x 57, x 58, x 59, x 60, x 61, x 62, x 63, x 64, x 65, x 66, x 67, x 68, x 69, x 70, x 71, x 72, x 73, x 74, x 75, x 76, x 77, x 78, x 79, x 80, x 81, x 82, x 83, x 84, x 85, x 86, x 87, x 88, x 89, x 90, x 91, x 92, x 93, x 94, x 95, x 96, x 97, x 98, x 99, .agg #[.slice y1 n1 k1, .int .i64 ct1], x 101, x 102, x 103, x 104, x 105, x 106, x 107, x 108, x 109, x 110, x 111, x 112, x 113, x 114, x 115, x 116, x 117, x 118, x 119, x 120, x 121, x 122, x 123, x 124, x 125, x 126, x 127, x 128, x 129, x 130, x 131, x 132, x 133, x 134, x 135, x 136, x 137, x 138, x 139, x 140, x 141, x 142, x 143, x 144, x 145, x 146, x 147, x 148, x 149, x 150, x 151, x 152, x 153, x 154, x 155, x 156, x 157, x 158, x 159, x 160, x 161, x 162, x 163, x 164, x 165, x 166], defers := [] } wa := hK _ _ hW trivial rfl
                        rw [p7] at hk
                        exact hk
                      · -- operation 9
                        simp only [List.getElem?_toArray, List.getElem?_cons_succ, List.getElem?_cons_zero, Option.some.injEq] at ho
                        subst ho
                        have p4 : (x 96) = .agg #[.slice y0 n0 k0, .int .i64 ct0] := hdep 4 (List.mem_of_elem_eq_true (by kernel_rfl))
                        have p8 : (x 100) = .agg #[.slice y1 n1 k1, .int .i64 ct1] := hdep 8 (List.mem_of_elem_eq_true (by kernel_rfl))
                        clear hdep hgd
                        unfold fr167
                        rw [p4, p8]
                        go_simp
                        refine (P1.out wa hW).mono ?_
                        rintro e w5 ⟨rfl, hb5⟩
                        have hk : K { tmps := #[x 0, x 1, x 2, x 3, x 4, x 5, x 6, x 7, x 8, x 9, x 10, x 11, x 12, x 13, x 14, x 15, x 16, x 17, x 18, x 19, x 20, x 21, x 22, x 23, x 24, x 25, x 26, x 27, x 28, x 29, x 30, x 31, x 32, x 33, x 34, x 35, x 36, x 37, x 38, x 39, x 40, x 41, x 42, x 43, x 44, x 45, x 46, x 47, x 48, x 49, x 50, x 51, x 52, x 53, x 54, x 55, x 56, x 57, x 58, x 59, x 60, x 61, x 62, x 63, x 64, x 65, x 66, x 67, x 68, x 69, x 70, x 71, x 72, x 73, x 74, x 75, x 76, x 77, x 78, x 79, x 80, x 81, x 82, x 83, x 84, x 85, x 86, x 87, x 88, x 89, x 90, x 91, x 92, x 93, x 94, x 95, x 96, x 97, x 98, x 99, x 100, .bool z1, x 102, x 103, x 104, x 105, x 106, x 107, x 108, x 109, x 110, x 111, x 112, x 113, x 114, x 115, x 116, x 117, x 118, x 119, x 120, x 121, x 122, x 123, x 124, x 125, x 126, x 127, x 128, x 129, x 130, x 131, x 132, x 133, x 134, x 135, x 136, x 137, x 138, x 139, x 140, x 141, x 142, x 143, x 144, x 145, x 146, x 147, x 148, x 149, x 150, x 151, x 152, x 153, x 154, x 155, x 156, x 157, x 158, x 159, x 160, x 161, x 162, x 163, x 164, x 165, x 166], defers := [] } w5 := hK _ _ (hW.trans (hb5.mono hW.size)) trivial rfl
                        rw [p4, p8] at hk
                        exact hk
                      · -- operation 10
                        simp only [List.getElem?_toArray, List.getElem?_cons_succ, List.getElem?_cons_zero, Option.some.injEq] at ho
                        subst ho
                        clear hdep hgd
                        unfold fr167
                        rw [E16.out]
                        go_simp
                        have hk : K { tmps := #[x 0, x 1, x 2, x 3, x 4, x 5, x 6, x 7, x 8, x 9, x 10, x 11, x 12, x 13, x 14, x 15, x 16, x 17, x 18, x 19, x 20, x 21, x 22, x 23, x 24, x 25, x 26, x 27, x 28, x 29, x 30, x 31, x 32, x 33, x 34, x 35, x 36, x 37, x 38, x 39, x 40, x 41, x 42, x 43, x 44, x 45, x 46, x 47, x 48, x 49, x 50, x 51, x 52, x 53, x 54, x 55, x 56, x 57, x 58, x 59, x 60, x 61, x 62, x 63, x 64, x 65, x 66, x 67, x 68, x 69, x 70, x 71, x 72, x 73, x 74, x 75, x 76, x 77, x 78, x 79, x 80, x 81, x 82, x 83, x 84, x 85, x 86, x 87, x 88, x 89, x 90, x 91, x 92, x 93, x 94, x 95, x 96, x 97, x 98, x 99, x 100, x 101, .slice (some ⟨bx, ox, none⟩) X.length c, x 103, x 104, x 105, x 106, x 107, x 108, x 109, x 110, x 111, x 112, x 113, x 114, x 115, x 116, x 117, x 118, x 119, x 120, x 121, x 122, x 123, x 124, x 125, x 126, x 127, x 128, x 129, x 130, x 131, x 132, x 133, x 134, x 135, x 136, x 137, x 138, x 139, x 140, x 141, x 142, x 143, x 144, x 145, x 146, x 147, x 148, x 149, x 150, x 151, x 152, x 153, x 154, x 155, x 156, x 157, x 158, x 159, x 160, x 161, x 162, x 163, x 164, x 165, x 166], defers := [] } wa := hK _ _ hW trivial rfl
                        rw [E16.out] at hk
                        exact hk
                      · -- operation 11
                        simp only [List.getElem?_toArray, List.getElem?_cons_succ, List.getElem?_cons_zero, Option.some.injEq] at ho
                        subst ho
                        clear hdep hgd
                        unfold fr167
                        rw [E18.out]
                        go_simp
                        have hk : K { tmps := #[x 0, x 1, x 2, x 3, x 4, x 5, x 6, x 7, x 8, x 9, x 10, x 11, x 12, x 13, x 14, x 15, x 16, x 17, x 18, x 19, x 20, x 21, x 22, x 23, x 24, x 25, x 26, x 27, x 28, x 29, x 30, x 31, x 32, x 33, x 34, x 35, x 36, x 37, x 38, x 39, x 40, x 41, x 42, x 43, x 44, x 45, x 46, x 47, x 48, x 49, x 50, x 51, x 52, x 53, x 54, x 55, x 56, x 57, x 58, x 59, x 60, x 61, x 62, x 63, x 64, x 65, x 66, x 67, x 68, x 69, x 70, x 71, x 72, x 73, x 74, x 75, x 76, x 77, x 78, x 79, x 80, x 81, x 82, x 83, x 84, x 85, x 86, x 87, x 88, x 89, x 90, x 91, x 92, x 93, x 94, x 95, x 96, x 97, x 98, x 99, x 100, x 101, x 102, .int .i64 (ii : Int), x 104, x 105, x 106, x 107, x 108, x 109, x 110, x 111, x 112, x 113, x 114, x 115, x 116, x 117, x 118, x 119, x 120, x 121, x 122, x 123, x 124, x 125, x 126, x 127, x 128, x 129, x 130, x 131, x 132, x 133, x 134, x 135, x 136, x 137, x 138, x 139, x 140, x 141, x 142, x 143, x 144, x 145, x 146, x 147, x 148, x 149, x 150, x 151, x 152, x 153, x 154, x 155, x 156, x 157, x 158, x 159, x 160, x 161, x 162, x 163, x 164, x 165, x 166], defers := [] } wa := hK _ _ hW trivial rfl
                        rw [E18.out] at hk
                        exact hk
                      · -- operation 12
                        simp only [List.getElem?_toArray, List.getElem?_cons_succ, List.getElem?_cons_zero, Option.some.injEq] at ho
                        subst ho
                        have p11 : (x 103) = .int .i64 (ii : Int) := hdep 11 (List.mem_of_elem_eq_true (by kernel_rfl))
                        clear hdep hgd
                        unfold fr167
                        rw [p11]
                        go_simp
                        have hk : K { tmps := #[x 0, x 1, x 2, x 3, x 4, x 5, x 6, x 7, x 8, x 9, x 10, x 11, x 12, x 13, x 14, x 15, x 16, x 17, x 18, x 19, x 20, x 21, x 22, x 23, x 24, x 25, x 26, x 27, x 28, x 29, x 30, x 31, x 32, x 33, x 34, x 35, x 36, x 37, x 38, x 39, x 40, x 41, x 42, x 43, x 44, x 45, x 46, x 47, x 48, x 49, x 50, x 51, x 52, x 53, x 54, x 55, x 56, x 57, x 58, x 59, x 60, x 61, x 62, x 63, x 64, x 65, x 66, x 67, x 68, x 69, x 70, x 71, x 72, x 73, x 74, x 75, x 76, x 77, x 78, x 79, x 80, x 81, x 82, x 83, x 84, x 85, x 86, x 87, x 88, x 89, x 90, x 91, x 92, x 93, x 94, x 95, x 96, x 97, x 98, x 99, x 100, x 101, x 102, x 103, .int .i64 (bb : Int), x 105, x 106, x 107, x 108, x 109, x 110, x 111, x 112, x 113, x 114, x 115, x 116, x 117, x 118, x 119, x 120, x 121, x 122, x 123, x 124, x 125, x 126, x 127, x 128, x 129, x 130, x 131, x 132, x 133, x 134, x 135, x 136, x 137, x 138, x 139, x 140, x 141, x 142, x 143, x 144, x 145, x 146, x 147, x 148, x 149, x 150, x 151, x 152, x 153, x 154, x 155, x 156, x 157, x 158, x 159, x 160, x 161, x 162, x 163, x 164, x 165, x 166], defers := [] } wa := hK _ _ hW trivial rfl
                        rw [p11] at hk
                        exact hk
                      · -- operation 13
                        simp only [List.getElem?_toArray, List.getElem?_cons_succ, List.getElem?_cons_zero, Option.some.injEq] at ho
                        subst ho
                        have p10 : (x 102) = .slice (some ⟨bx, ox, none⟩) X.length c := hdep 10 (List.mem_of_elem_eq_true (by kernel_rfl))
                        have p12 : (x 104) = .int .i64 (bb : Int) := hdep 12 (List.mem_of_elem_eq_true (by kernel_rfl))
                        clear hdep hgd
                        unfold fr167
                        rw [p10, p12]
                        go_simp
                        have hk : K { tmps := #[x 0, x 1, x 2, x 3, x 4, x 5, x 6, x 7, x 8, x 9, x 10, x 11, x 12, x 13, x 14, x 15, x 16, x 17, x 18, x 19, x 20, x 21, x 22, x 23, x 24, x 25, x 26, x 27, x 28, x 29, x 30, x 31, x 32, x 33, x 34, x 35, x 36, x 37, x 38, x 39, x 40, x 41, x 42, x 43, x 44, x 45, x 46, x 47, x 48, x 49, x 50, x 51, x 52, x 53, x 54, x 55, x 56, x 57, x 58, x 59, x 60, x 61, x 62, x 63, x 64, x 65, x 66, x 67, x 68, x 69, x 70, x 71, x 72, x 73, x 74, x 75, x 76, x 77, x 78, x 79, x 80, x 81, x 82, x 83, x 84, x 85, x 86, x 87, x 88, x 89, x 90, x 91, x 92, x 93, x 94, x 95, x 96, x 97, x 98, x 99, x 100, x 101, x 102, x 103, x 104, .pointer (some ⟨bx, ox + bb * 2, none⟩), x 106, x 107, x 108, x 109, x 110, x 111, x 112, x 113, x 114, x 115, x 116, x 117, x 118, x 119, x 120, x 121, x 122, x 123, x 124, x 125, x 126, x 127, x 128, x 129, x 130, x 131, x 132, x 133, x 134, x 135, x 136, x 137, x 138, x 139, x 140, x 141, x 142, x 143, x 144, x 145, x 146, x 147, x 148, x 149, x 150, x 151, x 152, x 153, x 154, x 155, x 156, x 157, x 158, x 159, x 160, x 161, x 162, x 163, x 164, x 165, x 166], defers := [] } wa := hK _ _ hW trivial rfl
                        rw [p10, p12] at hk
                        exact hk
                      · -- operation 14
                        simp only [List.getElem?_toArray, List.getElem?_cons_succ, List.getElem?_cons_zero, Option.some.injEq] at ho
                        subst ho
                        have p13 : (x 105) = .pointer (some ⟨bx, ox + bb * 2, none⟩) := hdep 13 (List.mem_of_elem_eq_true (by kernel_rfl))
                        clear hdep hgd
                        obtain ⟨⟨a0, a1⟩, a2, a3⟩ := HCX.out wa hW
                        unfold fr167
                        rw [p13]
                        go_simp
                        have hk : K { tmps := #[x 0, x 1, x 2, x 3, x 4, x 5, x 6, x 7, x 8, x 9, x 10, x 11, x 12, x 13, x 14, x 15, x 16, x 17, x 18, x 19, x 20, x 21, x 22, x 23, x 24, x 25, x 26, x 27, x 28, x 29, x 30, x 31, x 32, x 33, x 34, x 35, x 36, x 37, x 38, x 39, x 40, x 41, x 42, x 43, x 44, x 45, x 46, x 47, x 48, x 49, x 50, x 51, x 52, x 53, x 54, x 55, x 56, x 57, x 58, x 59, x 60, x 61, x 62, x 63, x 64, x 65, x 66, x 67, x 68, x 69, x 70, x 71, x 72, x 73, x 74, x 75, x 76, x 77, x 78, x 79, x 80, x 81, x 82, x 83, x 84, x 85, x 86, x 87, x 88, x 89, x 90, x 91, x 92, x 93, x 94, x 95, x 96, x 97, x 98, x 99, x 100, x 101, x 102, x 103, x 104, x 105, .agg #[.slice y0 n0 k0, .int .i64 ct0], x 107, x 108, x 109, x 110, x 111, x 112, x 113, x 114, x 115, x 116, x 117, x 118, x 119, x 120, x 121, x 122, x 123, x 124, x 125, x 126, x 127, x 128, x 129, x 130, x 131, x 132, x 133, x 134, x 135, x 136, x 137, x 138, x 139, x 140, x 141, x 142, x 143, x 144, x 145, x 146, x 147, x 148, x 149, x 150, x 151, x 152, x 153, x 154, x 155, x 156, x 157, x 158, x 159, x 160, x 161, x 162, x 163, x 164, x 165, x 166], defers := [] } wa := hK _ _ hW trivial rfl
                        rw [p13] at hk
                        exact hk
                      · -- operation 15
                        simp only [List.getElem?_toArray, List.getElem?_cons_succ, List.getElem?_cons_zero, Option.some.injEq] at ho
                        subst ho
                        clear hdep hgd
                        unfold fr167
                        rw [E16.out]
                        go_simp
                        have hk : K { tmps := #[x 0, x 1, x 2, x 3, x 4, x 5, x 6, x 7, x 8, x 9, x 10, x 11, x 12, x 13, x 14, x 15, x 16, x 17, x 18, x 19, x 20, x 21, x 22, x 23, x 24, x 25, x 26, x 27, x 28, x 29, x 30, x 31, x 32, x 33, x 34, x 35, x 36, x 37, x 38, x 39, x 40, x 41, x 42, x 43, x 44, x 45, x 46, x 47, x 48, x 49, x 50, x 51, x 52, x 53, x 54, x 55, x 56, x 57, x 58, x 59, x 60, x 61, x 62, x 63, x 64, x 65, x 66, x 67, x 68, x 69, x 70, x 71, x 72, x 73, x 74, x 75, x 76, x 77, x 78, x 79, x 80, x 81, x 82, x 83, x 84, x 85, x 86, x 87, x 88, x 89, x 90, x 91, x 92, x 93, x 94, x 95, x 96, x 97, x 98, x 99, x 100, x 101, x 102, x 103, x 104, x 105, x 106, .slice (some ⟨bx, ox, none⟩) X.length c, x 108, x 109, x 110, x 111, x 112, x 113, x 114, x 115, x 116, x 117, x 118, x 119, x 120, x 121, x 122, x 123, x 124, x 125, x 126, x 127, x 128, x 129, x 130, x 131, x 132, x 133, x 134, x 135, x 136, x 137, x 138, x 139, x 140, x 141, x 142, x 143, x 144, x 145, x 146, x 147, x 148, x 149, x 150, x 151, x 152, x 153, x 154, x 155, x 156, x 157, x 158, x 159, x 160, x 161, x 162, x 163, x 164, x 165, x 166], defers := [] } wa := hK _ _ hW trivial rfl
                        rw [E16.out] at hk
                        exact hk
                      · -- operation 16
                        simp only [List.getElem?_toArray, List.getElem?_cons_succ, List.getElem?_cons_zero, Option.some.injEq] at ho
                        subst ho
                        clear hdep hgd
                        unfold fr167
                        rw [E18.out]
                        go_simp
                        have hk : K { tmps := #[x 0, x 1, x 2, x 3, x 4, x 5, x 6, x 7, x 8, x 9, x 10, x 11, x 12, x 13, x 14, x 15, x 16, x 17, x 18, x 19, x 20, x 21, x 22, x 23, x 24, x 25, x 26, x 27, x 28, x 29, x 30, x 31, x 32, x 33, x 34, x 35, x 36, x 37, x 38, x 39, x 40, x 41, x 42, x 43, x 44, x 45, x 46, x 47, x 48, x 49, x 50, x 51, x 52, x 53, x 54, x 55, x 56, x 57, x 58, x 59, x 60, x 61, x 62, x 63, x 64, x 65, x 66, x 67, x 68, x 69, x 70, x 71, x 72, x 73, x 74, x 75, x 76, x 77, x 78, x 79, x 80, x 81, x 82, x 83, x 84, x 85, x 86, x 87, x 88, x 89, x 90, x 91, x 92, x 93, x 94, x 95, x 96, x 97, x 98, x 99, x 100, x 101, x 102, x 103, x 104, x 105, x 106, x 107, .int .i64 (ii : Int), x 109, x 110, x 111, x 112, x 113, x 114, x 115, x 116, x 117, x 118, x 119, x 120, x 121, x 122, x 123, x 124, x 125, x 126, x 127, x 128, x 129, x 130, x 131, x 132, x 133, x 134, x 135, x 136, x 137, x 138, x 139, x 140, x 141, x 142, x 143, x 144, x 145, x 146, x 147, x 148, x 149, x 150, x 151, x 152, x 153, x 154, x 155, x 156, x 157, x 158, x 159, x 160, x 161, x 162, x 163, x 164, x 165, x 166], defers := [] } wa := hK _ _ hW trivial rfl
                        rw [E18.out] at hk
                        exact hk
                      · -- operation 17
                        simp only [List.getElem?_toArray, List.getElem?_cons_succ, List.getElem?_cons_zero, Option.some.injEq] at ho
                        subst ho
                        have p15 : (x 107) = .slice (some ⟨bx, ox, none⟩) X.length c := hdep 15 (List.mem_of_elem_eq_true (by kernel_rfl))
                        have p16 : (x 108) = .int .i64 (ii : Int) := hdep 16 (List.mem_of_elem_eq_true (by kernel_rfl))
                        clear hdep hgd
                        unfold fr167
                        rw [p15, p16]
                        go_simp
                        have hk : K { tmps := #[x 0, x 1, x 2, x 3, x 4, x 5, x 6, x 7, x 8, x 9, x 10, x 11, x 12, x 13, x 14, x 15, x 16, x 17, x 18, x 19, x 20, x 21, x 22, x 23, x 24, x 25, x 26, x 27, x 28, x 29, x 30, x 31, x 32, x 33, x 34, x 35, x 36, x 37, x 38, x 39, x 40, x 41, x 42, x 43, x 44, x 45, x 46, x 47, x 48, x 49, x 50, x 51, x 52, x 53, x 54, x 55, x 56, x 57, x 58, x 59, x 60, x 61, x 62, x 63, x 64, x 65, x 66, x 67, x 68, x 69, x 70, x 71, x 72, x 73, x 74, x 75, x 76, x 77, x 78, x 79, x 80, x 81, x 82, x 83, x 84, x 85, x 86, x 87, x 88, x 89, x 90, x 91, x 92, x 93, x 94, x 95, x 96, x 97, x 98, x 99, x 100, x 101, x 102, x 103, x 104, x 105, x 106, x 107, x 108, .pointer (some ⟨bx, ox + ii * 2, none⟩), x 110, x 111, x 112, x 113, x 114, x 115, x 116, x 117, x 118, x 119, x 120, x 121, x 122, x 123, x 124, x 125, x 126, x 127, x 128, x 129, x 130, x 131, x 132, x 133, x 134, x 135, x 136, x 137, x 138, x 139, x 140, x 141, x 142, x 143, x 144, x 145, x 146, x 147, x 148, x 149, x 150, x 151, x 152, x 153, x 154, x 155, x 156, x 157, x 158, x 159, x 160, x 161, x 162, x 163, x 164, x 165, x 166], defers := [] } wa := hK _ _ hW trivial rfl
                        rw [p15, p16] at hk
                        exact hk
                      · -- operation 18
                        simp only [List.getElem?_toArray, List.getElem?_cons_succ, List.getElem?_cons_zero, Option.some.injEq] at ho
                        subst ho
                        have p17 : (x 109) = .pointer (some ⟨bx, ox + ii * 2, none⟩) := hdep 17 (List.mem_of_elem_eq_true (by kernel_rfl))
                        clear hdep hgd
                        obtain ⟨⟨a0, a1⟩, a2, a3⟩ := HCX.out wa hW
                        unfold fr167
                        rw [p17]
                        go_simp
                        have hk : K { tmps := #[x 0, x 1, x 2, x 3, x 4, x 5, x 6, x 7, x 8, x 9, x 10, x 11, x 12, x 13, x 14, x 15, x 16, x 17, x 18, x 19, x 20, x 21, x 22, x 23, x 24, x 25, x 26, x 27, x 28, x 29, x 30, x 31, x 32, x 33, x 34, x 35, x 36, x 37, x 38, x 39, x 40, x 41, x 42, x 43, x 44, x 45, x 46, x 47, x 48, x 49, x 50, x 51, x 52, x 53, x 54, x 55, x 56, x 57, x 58, x 59, x 60, x 61, x 62, x 63, x 64, x 65, x 66, x 67, x 68, x 69, x 70, x 71, x 72, x 73, x 74, x 75, x 76, x 77, x 78, x 79, x 80, x 81, x 82, x 83, x 84, x 85, x 86, x 87, x 88, x 89, x 90, x 91, x 92, x 93, x 94, x 95, x 96, x 97, x 98, x 99, x 100, x 101, x 102, x 103, x 104, x 105, x 106, x 107, x 108, x 109, .agg #[.slice y1 n1 k1, .int .i64 ct1], x 111, x 112, x 113, x 114, x 115, x 116, x 117, x 118, x 119, x 120, x 121, x 122, x 123, x 124, x 125, x 126, x 127, x 128, x 129, x 130, x 131, x 132, x 133, x 134, x 135, x 136, x 137, x 138, x 139, x 140, x 141, x 142, x 143, x 144, x 145, x 146, x 147, x 148, x 149, x 150, x 151, x 152, x 153, x 154, x 155, x 156, x 157, x 158, x 159, x 160, x 161, x 162, x 163, x 164, x 165, x 166], defers := [] } wa := hK _ _ hW trivial rfl
                        rw [p17] at hk
                        exact hk
                      · -- operation 19
                        simp only [List.getElem?_toArray, List.getElem?_cons_succ, List.getElem?_cons_zero, Option.some.injEq] at ho
                        subst ho
                        have p14 : (x 106) = .agg #[.slice y0 n0 k0, .int .i64 ct0] := hdep 14 (List.mem_of_elem_eq_true (by kernel_rfl))
                        have p18 : (x 110) = .agg #[.slice y1 n1 k1, .int .i64 ct1] := hdep 18 (List.mem_of_elem_eq_true (by kernel_rfl))
                        clear hdep hgd
                        unfold fr167
                        rw [p14, p18]
                        go_simp
                        refine (P2.out wa hW).mono ?_
                        rintro e w5 ⟨rfl, hb5⟩
                        have hk : K { tmps := #[x 0, x 1, x 2, x 3, x 4, x 5, x 6, x 7, x 8, x 9, x 10, x 11, x 12, x 13, x 14, x 15, x 16, x 17, x 18, x 19, x 20, x 21, x 22, x 23, x 24, x 25, x 26, x 27, x 28, x 29, x 30, x 31, x 32, x 33, x 34, x 35, x 36, x 37, x 38, x 39, x 40, x 41, x 42, x 43, x 44, x 45, x 46, x 47, x 48, x 49, x 50, x 51, x 52, x 53, x 54, x 55, x 56, x 57, x 58, x 59, x 60, x 61, x 62, x 63, x 64, x 65, x 66, x 67, x 68, x 69, x 70, x 71, x 72, x 73, x 74, x 75, x 76, x 77, x 78, x 79, x 80, x 81, x 82, x 83, x 84, x 85, x 86, x 87, x 88, x 89, x 90, x 91, x 92, x 93, x 94, x 95, x 96, x 97, x 98, x 99, x 100, x 101, x 102, x 103, x 104, x 105, x 106, x 107, x 108, x 109, x 110, .bool z1, x 112, x 113, x 114, x 115, x 116, x 117, x 118, x 119, x 120, x 121, x 122, x 123, x 124, x 125, x 126, x 127, x 128, x 129, x 130, x 131, x 132, x 133, x 134, x 135, x 136, x 137, x 138, x 139, x 140, x 141, x 142, x 143, x 144, x 145, x 146, x 147, x 148, x 149, x 150, x 151, x 152, x 153, x 154, x 155, x 156, x 157, x 158, x 159, x 160, x 161, x 162, x 163, x 164, x 165, x 166], defers := [] } w5 := hK _ _ (hW.trans (hb5.mono hW.size)) trivial rfl
                        rw [p14, p18] at hk
                        exact hk
                      · -- operation 20
                        simp only [List.getElem?_toArray, List.getElem?_cons_succ, List.getElem?_cons_zero, Option.some.injEq] at ho
                        subst ho
                        have p9 : (x 101) = .bool z1 := hdep 9 (List.mem_of_elem_eq_true (by kernel_rfl))
                        have p19 : (x 111) = .bool z1 := hdep 19 (List.mem_of_elem_eq_true (by kernel_rfl))
                        clear hdep hgd
                        unfold fr167
                        rw [p9, p19]
                        go_simp
                        have hk : K { tmps := #[x 0, x 1, x 2, x 3, x 4, x 5, x 6, x 7, x 8, x 9, x 10, x 11, x 12, x 13, x 14, x 15, x 16, x 17, x 18, x 19, x 20, x 21, x 22, x 23, x 24, x 25, x 26, x 27, x 28, x 29, x 30, x 31, x 32, x 33, x 34, x 35, x 36, x 37, x 38, x 39, x 40, x 41, x 42, x 43, x 44, x 45, x 46, x 47, x 48, x 49, x 50, x 51, x 52, x 53, x 54, x 55, x 56, x 57, x 58, x 59, x 60, x 61, x 62, x 63, x 64, x 65, x 66, x 67, x 68, x 69, x 70, x 71, x 72, x 73, x 74, x 75, x 76, x 77, x 78, x 79, x 80, x 81, x 82, x 83, x 84, x 85, x 86, x 87, x 88, x 89, x 90, x 91, x 92, x 93, x 94, x 95, x 96, x 97, x 98, x 99, x 100, x 101, x 102, x 103, x 104, x 105, x 106, x 107, x 108, x 109, x 110, x 111, .bool false, x 113, x 114, x 115, x 116, x 117, x 118, x 119, x 120, x 121, x 122, x 123, x 124, x 125, x 126, x 127, x 128, x 129, x 130, x 131, x 132, x 133, x 134, x 135, x 136, x 137, x 138, x 139, x 140, x 141, x 142, x 143, x 144, x 145, x 146, x 147, x 148, x 149, x 150, x 151, x 152, x 153, x 154, x 155, x 156, x 157, x 158, x 159, x 160, x 161, x 162, x 163, x 164, x 165, x 166], defers := [] } wa := hK _ _ hW trivial rfl
                        rw [p9, p19] at hk
                        exact hk
                      · -- operation 21
                        simp only [List.getElem?_toArray, List.getElem?_cons_succ, List.getElem?_cons_zero, Option.some.injEq] at ho
                        subst ho
                        have p20 : (x 112) = .bool false := hdep 20 (List.mem_of_elem_eq_true (by kernel_rfl))
                        clear hdep hgd
                        unfold fr167
                        rw [p20]
                        go_simp
                        have hk : K { tmps := #[x 0, x 1, x 2, x 3, x 4, x 5, x 6, x 7, x 8, x 9, x 10, x 11, x 12, x 13, x 14, x 15, x 16, x 17, x 18, x 19, x 20, x 21, x 22, x 23, x 24, x 25, x 26, x 27, x 28, x 29, x 30, x 31, x 32, x 33, x 34, x 35, x 36, x 37, x 38, x 39, x 40, x 41, x 42, x 43, x 44, x 45, x 46, x 47, x 48, x 49, x 50, x 51, x 52, x 53, x 54, x 55, x 56, x 57, x 58, x 59, x 60, x 61, x 62, x 63, x 64, x 65, x 66, x 67, x 68, x 69, x 70, x 71, x 72, x 73, x 74, x 75, x 76, x 77, x 78, x 79, x 80, x 81, x 82, x 83, x 84, x 85, x 86, x 87, x 88, x 89, x 90, x 91, x 92, x 93, x 94, x 95, x 96, x 97, x 98, x 99, x 100, x 101, x 102, x 103, x 104, x 105, x 106, x 107, x 108, x 109, x 110, x 111, x 112, .bool false, x 114, x 115, x 116, x 117, x 118, x 119, x 120, x 121, x 122, x 123, x 124, x 125, x 126, x 127, x 128, x 129, x 130, x 131, x 132, x 133, x 134, x 135, x 136, x 137, x 138, x 139, x 140, x 141, x 142, x 143, x 144, x 145, x 146, x 147, x 148, x 149, x 150, x 151, x 152, x 153, x 154, x 155, x 156, x 157, x 158, x 159, x 160, x 161, x 162, x 163, x 164, x 165, x 166], defers := [] } wa := hK _ _ hW trivial rfl
                        rw [p20] at hk
                        exact hk
                      · -- operation 22
                        simp only [List.getElem?_toArray, List.getElem?_cons_succ, List.getElem?_cons_zero, Option.some.injEq] at ho
                        subst ho
                        have hg : x 113 = .bool false := hgd 21 false rfl
                        clear hdep hgd
                        clear hg
                        unfold fr167
                        rw [E16.out]
                        go_simp
                        have hk : K { tmps := #[x 0, x 1, x 2, x 3, x 4, x 5, x 6, x 7, x 8, x 9, x 10, x 11, x 12, x 13, x 14, x 15, x 16, x 17, x 18, x 19, x 20, x 21, x 22, x 23, x 24, x 25, x 26, x 27, x 28, x 29, x 30, x 31, x 32, x 33, x 34, x 35, x 36, x 37, x 38, x 39, x 40, x 41, x 42, x 43, x 44, x 45, x 46, x 47, x 48, x 49, x 50, x 51, x 52, x 53, x 54, x 55, x 56, x 57, x 58, x 59, x 60, x 61, x 62, x 63, x 64, x 65, x 66, x 67, x 68, x 69, x 70, x 71, x 72, x 73, x 74, x 75, x 76, x 77, x 78, x 79, x 80, x 81, x 82, x 83, x 84, x 85, x 86, x 87, x 88, x 89, x 90, x 91, x 92, x 93, x 94, x 95, x 96, x 97, x 98, x 99, x 100, x 101, x 102, x 103, x 104, x 105, x 106, x 107, x 108, x 109, x 110, x 111, x 112, x 113, .slice (some ⟨bx, ox, none⟩) X.length c, x 115, x 116, x 117, x 118, x 119, x 120, x 121, x 122, x 123, x 124, x 125, x 126, x 127, x 128, x 129, x 130, x 131, x 132, x 133, x 134, x 135, x 136, x 137, x 138, x 139, x 140, x 141, x 142, x 143, x 144, x 145, x 146, x 147, x 148, x 149, x 150, x 151, x 152, x 153, x 154, x 155, x 156, x 157, x 158, x 159, x 160, x 161, x 162, x 163, x 164, x 165, x 166], defers := [] } wa := hK _ _ hW trivial rfl
                        rw [E16.out] at hk
                        exact hk
                      · -- operation 23
                        simp only [List.getElem?_toArray, List.getElem?_cons_succ, List.getElem?_cons_zero, Option.some.injEq] at ho
                        subst ho
                        have hg : x 113 = .bool false := hgd 21 false rfl
                        clear hdep hgd
                        clear hg
                        unfold fr167
                        rw [E18.out]
                        go_simp
                        have hk : K { tmps := #[x 0, x 1, x 2, x 3, x 4, x 5, x 6, x 7, x 8, x 9, x 10, x 11, x 12, x 13, x 14, x 15, x 16, x 17, x 18, x 19, x 20, x 21, x 22, x 23, x 24, x 25, x 26, x 27, x 28, x 29, x 30, x 31, x 32, x 33, x 34, x 35, x 36, x 37, x 38, x 39, x 40, x 41, x 42, x 43, x 44, x 45, x 46, x 47, x 48, x 49, x 50, x 51, x 52, x 53, x 54, x 55, x 56, x 57, x 58, x 59, x 60, x 61, x 62, x 63, x 64, x 65, x 66, x 67, x 68, x 69, x 70, x 71, x 72, x 73, x 74, x 75, x 76, x 77, x 78, x 79, x 80, x 81, x 82, x 83, x 84, x 85, x 86, x 87, x 88, x 89, x 90, x 91, x 92, x 93, x 94, x 95, x 96, x 97, x 98, x 99, x 100, x 101, x 102, x 103, x 104, x 105, x 106, x 107, x 108, x 109, x 110, x 111, x 112, x 113, x 114, .int .i64 (ii : Int), x 116, x 117, x 118, x 119, x 120, x 121, x 122, x 123, x 124, x 125, x 126, x 127, x 128, x 129, x 130, x 131, x 132, x 133, x 134, x 135, x 136, x 137, x 138, x 139, x 140, x 141, x 142, x 143, x 144, x 145, x 146, x 147, x 148, x 149, x 150, x 151, x 152, x 153, x 154, x 155, x 156, x 157, x 158, x 159, x 160, x 161, x 162, x 163, x 164, x 165, x 166], defers := [] } wa := hK _ _ hW trivial rfl
                        rw [E18.out] at hk
                        exact hk
                      · -- operation 24
                        simp only [List.getElem?_toArray, List.getElem?_cons_succ, List.getElem?_cons_zero, Option.some.injEq] at ho
                        subst ho
                        have hg : x 113 = .bool false := hgd 21 false rfl
                        have p22 : (x 114) = .slice (some ⟨bx, ox, none⟩) X.length c := hdep 22 (List.mem_of_elem_eq_true (by kernel_rfl))
                        have p23 : (x 115) = .int .i64 (ii : Int) := hdep 23 (List.mem_of_elem_eq_true (by kernel_rfl))
                        clear hdep hgd
                        clear hg
                        unfold fr167
                        rw [p22, p23]
                        go_simp
                        have hk : K { tmps := #[x 0, x 1, x 2, x 3, x 4, x 5, x 6, x 7, x 8, x 9, x 10, x 11, x 12, x 13, x 14, x 15, x 16, x 17, x 18, x 19, x 20, x 21, x 22, x 23, x 24, x 25, x 26, x 27, x 28, x 29, x 30, x 31, x 32, x 33, x 34, x 35, x 36, x 37, x 38, x 39, x 40, x 41, x 42, x 43, x 44, x 45, x 46, x 47, x 48, x 49, x 50, x 51, x 52, x 53, x 54, x 55, x 56, x 57, x 58, x 59, x 60, x 61, x 62, x 63, x 64, x 65, x 66, x 67, x 68, x 69, x 70, x 71, x 72, x 73, x 74, x 75, x 76, x 77, x 78, x 79, x 80, x 81, x 82, x 83, x 84, x 85, x 86, x 87, x 88, x 89, x 90, x 91, x 92, x 93, x 94, x 95, x 96, x 97, x 98, x 99, x 100, x 101, x 102, x 103, x 104, x 105, x 106, x 107, x 108, x 109, x 110, x 111, x 112, x 113, x 114, x 115, .pointer (some ⟨bx, ox + ii * 2, none⟩), x 117, x 118, x 119, x 120, x 121, x 122, x 123, x 124, x 125, x 126, x 127, x 128, x 129, x 130, x 131, x 132, x 133, x 134, x 135, x 136, x 137, x 138, x 139, x 140, x 141, x 142, x 143, x 144, x 145, x 146, x 147, x 148, x 149, x 150, x 151, x 152, x 153, x 154, x 155, x 156, x 157, x 158, x 159, x 160, x 161, x 162, x 163, x 164, x 165, x 166], defers := [] } wa := hK _ _ hW trivial rfl
                        rw [p22, p23] at hk
                        exact hk
                      · -- operation 25
                        simp only [List.getElem?_toArray, List.getElem?_cons_succ, List.getElem?_cons_zero, Option.some.injEq] at ho
                        subst ho
                        have hg : x 113 = .bool false := hgd 21 false rfl
                        have p24 : (x 116) = .pointer (some ⟨bx, ox + ii * 2, none⟩) := hdep 24 (List.mem_of_elem_eq_true (by kernel_rfl))
                        clear hdep hgd
                        obtain ⟨⟨a0, a1⟩, a2, a3⟩ := HCX.out wa hW
                        clear hg
                        unfold fr167
                        rw [p24]
                        go_simp
                        have hk : K { tmps := #[x 0, x 1, x 2, x 3, x 4, x 5, x 6, x 7, x 8, x 9, x 10, x 11, x 12, x 13, x 14, x 15, x 16, x 17, x 18, x 19, x 20, x 21, x 22, x 23, x 24, x 25, x 26, x 27, x 28, x 29, x 30, x 31, x 32, x 33, x 34, x 35, x 36, x 37, x 38, x 39, x 40, x 41, x 42, x 43, x 44, x 45, x 46, x 47, x 48, x 49, x 50, x 51, x 52, x 53, x 54, x 55, x 56, x 57, x 58, x 59, x 60, x 61, x 62, x 63, x 64, x 65, x 66, x 67, x 68, x 69, x 70, x 71, x 72, x 73, x 74, x 75, x 76, x 77, x 78, x 79, x 80, x 81, x 82, x 83, x 84, x 85, x 86, x 87, x 88, x 89, x 90, x 91, x 92, x 93, x 94, x 95, x 96, x 97, x 98, x 99, x 100, x 101, x 102, x 103, x 104, x 105, x 106, x 107, x 108, x 109, x 110, x 111, x 112, x 113, x 114, x 115, x 116, .agg #[.slice y1 n1 k1, .int .i64 ct1], x 118, x 119, x 120, x 121, x 122, x 123, x 124, x 125, x 126, x 127, x 128, x 129, x 130, x 131, x 132, x 133, x 134, x 135, x 136, x 137, x 138, x 139, x 140, x 141, x 142, x 143, x 144, x 145, x 146, x 147, x 148, x 149, x 150, x 151, x 152, x 153, x 154, x 155, x 156, x 157, x 158, x 159, x 160, x 161, x 162, x 163, x 164, x 165, x 166], defers := [] } wa := hK _ _ hW trivial rfl
                        rw [p24] at hk
                        exact hk
                      · -- operation 26
                        simp only [List.getElem?_toArray, List.getElem?_cons_succ, List.getElem?_cons_zero, Option.some.injEq] at ho
                        subst ho
                        have hg : x 113 = .bool false := hgd 21 false rfl
                        clear hdep hgd
                        clear hg
                        unfold fr167
                        rw [E16.out]
                        go_simp
                        have hk : K { tmps := #[x 0, x 1, x 2, x 3, x 4, x 5, x 6, x 7, x 8, x 9, x 10, x 11, x 12, x 13, x 14, x 15, x 16, x 17, x 18, x 19, x 20, x 21, x 22, x 23, x 24, x 25, x 26, x 27, x 28, x 29, x 30, x 31, x 32, x 33, x 34, x 35, x 36, x 37, x 38, x 39, x 40, x 41, x 42, x 43, x 44, x 45, x 46, x 47, x 48, x 49, x 50, x 51, x 52, x 53, x 54, x 55, x 56, x 57, x 58, x 59, x 60, x 61, x 62, x 63, x 64, x 65, x 66, x 67, x 68, x 69, x 70, x 71, x 72, x 73, x 74, x 75, x 76, x 77, x 78, x 79, x 80, x 81, x 82, x 83, x 84, x 85, x 86, x 87, x 88, x 89, x 90, x 91, x 92, x 93, x 94, x 95, x 96, x 97, x 98, x 99, x 100, x 101, x 102, x 103, x 104, x 105, x 106, x 107, x 108, x 109, x 110, x 111, x 112, x 113, x 114, x 115, x 116, x 117, .slice (some ⟨bx, ox, none⟩) X.length c, x 119, x 120, x 121, x 122, x 123, x 124, x 125, x 126, x 127, x 128, x 129, x 130, x 131, x 132, x 133, x 134, x 135, x 136, x 137, x 138, x 139, x 140, x 141, x 142, x 143, x 144, x 145, x 146, x 147, x 148, x 149, x 150, x 151, x 152, x 153, x 154, x 155, x 156, x 157, x 158, x 159, x 160, x 161, x 162, x 163, x 164, x 165, x 166], defers := [] } wa := hK _ _ hW trivial rfl
                        rw [E16.out] at hk
                        exact hk
                      · -- operation 27
                        simp only [List.getElem?_toArray, List.getElem?_cons_succ, List.getElem?_cons_zero, Option.some.injEq] at ho
                        subst ho
                        have hg : x 113 = .bool false := hgd 21 false rfl
                        clear hdep hgd
                        clear hg
                        unfold fr167
                        rw [E18.out]
                        go_simp
                        have hk : K { tmps := #[x 0, x 1, x 2, x 3, x 4, x 5, x 6, x 7, x 8, x 9, x 10, x 11, x 12, x 13, x 14, x 15, x 16, x 17, x 18, x 19, x 20, x 21, x 22, x 23, x 24, x 25, x 26, x 27, x 28, x 29, x 30, x 31, x 32, x 33, x 34, x 35, x 36, x 37, x 38, x 39, x 40, x 41, x 42, x 43, x 44, x 45, x 46, x 47, x 48, x 49, x 50, x 51, x 52, x 53, x 54, x 55, x 56, x 57, x 58, x 59, x 60, x 61, x 62, x 63, x 64, x 65, x 66, x 67, x 68, x 69, x 70, x 71, x 72, x 73, x 74, x 75, x 76, x 77, x 78, x 79, x 80, x 81, x 82, x 83, x 84, x 85, x 86, x 87, x 88, x 89, x 90, x 91, x 92, x 93, x 94, x 95, x 96, x 97, x 98, x 99, x 100, x 101, x 102, x 103, x 104, x 105, x 106, x 107, x 108, x 109, x 110, x 111, x 112, x 113, x 114, x 115, x 116, x 117, x 118, .int .i64 (ii : Int), x 120, x 121, x 122, x 123, x 124, x 125, x 126, x 127, x 128, x 129, x 130, x 131, x 132, x 133, x 134, x 135, x 136, x 137, x 138, x 139, x 140, x 141, x 142, x 143, x 144, x 145, x 146, x 147, x 148, x 149, x 150, x 151, x 152, x 153, x 154, x 155, x 156, x 157, x 158, x 159, x 160, x 161, x 162, x 163, x 164, x 165, x 166], defers := [] } wa := hK _ _ hW trivial rfl
                        rw [E18.out] at hk
                        exact hk
                      · -- operation 28
                        simp only [List.getElem?_toArray, List.getElem?_cons_succ, List.getElem?_cons_zero, Option.some.injEq] at ho
                        subst ho
                        have hg : x 113 = .bool false := hgd 21 false rfl
                        have p27 : (x 119) = .int .i64 (ii : Int) := hdep 27 (List.mem_of_elem_eq_true (by kernel_rfl))
                        clear hdep hgd
                        clear hg
                        unfold fr167
                        rw [p27]
                        go_simp
                        have hk : K { tmps := #[x 0, x 1, x 2, x 3, x 4, x 5, x 6, x 7, x 8, x 9, x 10, x 11, x 12, x 13, x 14, x 15, x 16, x 17, x 18, x 19, x 20, x 21, x 22, x 23, x 24, x 25, x 26, x 27, x 28, x 29, x 30, x 31, x 32, x 33, x 34, x 35, x 36, x 37, x 38, x 39, x 40, x 41, x 42, x 43, x 44, x 45, x 46, x 47, x 48, x 49, x 50, x 51, x 52, x 53, x 54, x 55, x 56, x 57, x 58, x 59, x 60, x 61, x 62, x 63, x 64, x 65, x 66, x 67, x 68, x 69, x 70, x 71, x 72, x 73, x 74, x 75, x 76, x 77, x 78, x 79, x 80, x 81, x 82, x 83, x 84, x 85, x 86, x 87, x 88, x 89, x 90, x 91, x 92, x 93, x 94, x 95, x 96, x 97, x 98, x 99, x 100, x 101, x 102, x 103, x 104, x 105, x 106, x 107, x 108, x 109, x 110, x 111, x 112, x 113, x 114, x 115, x 116, x 117, x 118, x 119, .int .i64 (bb : Int), x 121, x 122, x 123, x 124, x 125, x 126, x 127, x 128, x 129, x 130, x 131, x 132, x 133, x 134, x 135, x 136, x 137, x 138, x 139, x 140, x 141, x 142, x 143, x 144, x 145, x 146, x 147, x 148, x 149, x 150, x 151, x 152, x 153, x 154, x 155, x 156, x 157, x 158, x 159, x 160, x 161, x 162, x 163, x 164, x 165, x 166], defers := [] } wa := hK _ _ hW trivial rfl
                        rw [p27] at hk
                        exact hk
                      · -- operation 29
                        simp only [List.getElem?_toArray, List.getElem?_cons_succ, List.getElem?_cons_zero, Option.some.injEq] at ho
                        subst ho
                        have hg : x 113 = .bool false := hgd 21 false rfl
                        have p26 : (x 118) = .slice (some ⟨bx, ox, none⟩) X.length c := hdep 26 (List.mem_of_elem_eq_true (by kernel_rfl))
                        have p28 : (x 120) = .int .i64 (bb : Int) := hdep 28 (List.mem_of_elem_eq_true (by kernel_rfl))
                        clear hdep hgd
                        clear hg
                        unfold fr167
                        rw [p26, p28]
                        go_simp
                        have hk : K { tmps := #[x 0, x 1, x 2, x 3, x 4, x 5, x 6, x 7, x 8, x 9, x 10, x 11, x 12, x 13, x 14, x 15, x 16, x 17, x 18, x 19, x 20, x 21, x 22, x 23, x 24, x 25, x 26, x 27, x 28, x 29, x 30, x 31, x 32, x 33, x 34, x 35, x 36, x 37, x 38, x 39, x 40, x 41, x 42, x 43, x 44, x 45, x 46, x 47, x 48, x 49, x 50, x 51, x 52, x 53, x 54, x 55, x 56, x 57, x 58, x 59, x 60, x 61, x 62, x 63, x 64, x 65, x 66, x 67, x 68, x 69, x 70, x 71, x 72, x 73, x 74, x 75, x 76, x 77, x 78, x 79, x 80, x 81, x 82, x 83, x 84, x 85, x 86, x 87, x 88, x 89, x 90, x 91, x 92, x 93, x 94, x 95, x 96, x 97, x 98, x 99, x 100, x 101, x 102, x 103, x 104, x 105, x 106, x 107, x 108, x 109, x 110, x 111, x 112, x 113, x 114, x 115, x 116, x 117, x 118, x 119, x 120, .pointer (some ⟨bx, ox + bb * 2, none⟩), x 122, x 123, x 124, x 125, x 126, x 127, x 128, x 129, x 130, x 131, x 132, x 133, x 134, x 135, x 136, x 137, x 138, x 139, x 140, x 141, x 142, x 143, x 144, x 145, x 146, x 147, x 148, x 149, x 150, x 151, x 152, x 153, x 154, x 155, x 156, x 157, x 158, x 159, x 160, x 161, x 162, x 163, x 164, x 165, x 166], defers := [] } wa := hK _ _ hW trivial rfl
                        rw [p26, p28] at hk
                        exact hk
                      · -- operation 30
                        simp only [List.getElem?_toArray, List.getElem?_cons_succ, List.getElem?_cons_zero, Option.some.injEq] at ho
                        subst ho
                        have hg : x 113 = .bool false := hgd 21 false rfl
                        have p29 : (x 121) = .pointer (some ⟨bx, ox + bb * 2, none⟩) := hdep 29 (List.mem_of_elem_eq_true (by kernel_rfl))
                        clear hdep hgd
                        obtain ⟨⟨a0, a1⟩, a2, a3⟩ := HCX.out wa hW
                        clear hg
                        unfold fr167
                        rw [p29]
                        go_simp
                        have hk : K { tmps := #[x 0, x 1, x 2, x 3, x 4, x 5, x 6, x 7, x 8, x 9, x 10, x 11, x 12, x 13, x 14, x 15, x 16, x 17, x 18, x 19, x 20, x 21, x 22, x 23, x 24, x 25, x 26, x 27, x 28, x 29, x 30, x 31, x 32, x 33, x 34, x 35, x 36, x 37, x 38, x 39, x 40, x 41, x 42, x 43, x 44, x 45, x 46, x 47, x 48, x 49, x 50, x 51, x 52, x 53, x 54, x 55, x 56, x 57, x 58, x 59, x 60, x 61, x 62, x 63, x 64, x 65, x 66, x 67, x 68, x 69, x 70, x 71, x 72, x 73, x 74, x 75, x 76, x 77, x 78, x 79, x 80, x 81, x 82, x 83, x 84, x 85, x 86, x 87, x 88, x 89, x 90, x 91, x 92, x 93, x 94, x 95, x 96, x 97, x 98, x 99, x 100, x 101, x 102, x 103, x 104, x 105, x 106, x 107, x 108, x 109, x 110, x 111, x 112, x 113, x 114, x 115, x 116, x 117, x 118, x 119, x 120, x 121, .agg #[.slice y0 n0 k0, .int .i64 ct0], x 123, x 124, x 125, x 126, x 127, x 128, x 129, x 130, x 131, x 132, x 133, x 134, x 135, x 136, x 137, x 138, x 139, x 140, x 141, x 142, x 143, x 144, x 145, x 146, x 147, x 148, x 149, x 150, x 151, x 152, x 153, x 154, x 155, x 156, x 157, x 158, x 159, x 160, x 161, x 162, x 163, x 164, x 165, x 166], defers := [] } wa := hK _ _ hW trivial rfl
                        rw [p29] at hk
                        exact hk
                      · -- operation 31
                        simp only [List.getElem?_toArray, List.getElem?_cons_succ, List.getElem?_cons_zero, Option.some.injEq] at ho
                        subst ho
                        have hg : x 113 = .bool false := hgd 21 false rfl
                        have p25 : (x 117) = .agg #[.slice y1 n1 k1, .int .i64 ct1] := hdep 25 (List.mem_of_elem_eq_true (by kernel_rfl))
                        have p30 : (x 122) = .agg #[.slice y0 n0 k0, .int .i64 ct0] := hdep 30 (List.mem_of_elem_eq_true (by kernel_rfl))
                        clear hdep hgd
                        clear hg
                        unfold fr167
                        rw [p25, p30]
                        go_simp
                        refine (P3.out wa hW).mono ?_
                        rintro e w5 ⟨rfl, hb5⟩
                        have hk : K { tmps := #[x 0, x 1, x 2, x 3, x 4, x 5, x 6, x 7, x 8, x 9, x 10, x 11, x 12, x 13, x 14, x 15, x 16, x 17, x 18, x 19, x 20, x 21, x 22, x 23, x 24, x 25, x 26, x 27, x 28, x 29, x 30, x 31, x 32, x 33, x 34, x 35, x 36, x 37, x 38, x 39, x 40, x 41, x 42, x 43, x 44, x 45, x 46, x 47, x 48, x 49, x 50, x 51, x 52, x 53, x 54, x 55, x 56, x 57, x 58, x 59, x 60, x 61, x 62, x 63, x 64, x 65, x 66, x 67, x 68, x 69, x 70, x 71, x 72, x 73, x 74, x 75, x 76, x 77, x 78, x 79, x 80, x 81, x 82, x 83, x 84, x 85, x 86, x 87, x 88, x 89, x 90, x 91, x 92, x 93, x 94, x 95, x 96, x 97, x 98, x 99, x 100, x 101, x 102, x 103, x 104, x 105, x 106, x 107, x 108, x 109, x 110, x 111, x 112, x 113, x 114, x 115, x 116, x 117, x 118, x 119, x 120, x 121, x 122, .bool z2, x 124, x 125, x 126, x 127, x 128, x 129, x 130, x 131, x 132, x 133, x 134, x 135, x 136, x 137, x 138, x 139, x 140, x 141, x 142, x 143, x 144, x 145, x 146, x 147, x 148, x 149, x 150, x 151, x 152, x 153, x 154, x 155, x 156, x 157, x 158, x 159, x 160, x 161, x 162, x 163, x 164, x 165, x 166], defers := [] } w5 := hK _ _ (hW.trans (hb5.mono hW.size)) trivial rfl
                        rw [p25, p30] at hk
                        exact hk
                      · -- operation 32
                        simp only [List.getElem?_toArray, List.getElem?_cons_succ, List.getElem?_cons_zero, Option.some.injEq] at ho
                        subst ho
                        have hg : x 113 = .bool false := hgd 21 false rfl
                        clear hdep hgd
                        clear hg
                        unfold fr167
                        rw [E16.out]
                        go_simp
                        have hk : K { tmps := #[x 0, x 1, x 2, x 3, x 4, x 5, x 6, x 7, x 8, x 9, x 10, x 11, x 12, x 13, x 14, x 15, x 16, x 17, x 18, x 19, x 20, x 21, x 22, x 23, x 24, x 25, x 26, x 27, x 28, x 29, x 30, x 31, x 32, x 33, x 34, x 35, x 36, x 37, x 38, x 39, x 40, x 41, x 42, x 43, x 44, x 45, x 46, x 47, x 48, x 49, x 50, x 51, x 52, x 53, x 54, x 55, x 56, x 57, x 58, x 59, x 60, x 61, x 62, x 63, x 64, x 65, x 66, x 67, x 68, x 69, x 70, x 71, x 72, x 73, x 74, x 75, x 76, x 77, x 78, x 79, x 80, x 81, x 82, x 83, x 84, x 85, x 86, x 87, x 88, x 89, x 90, x 91, x 92, x 93, x 94, x 95, x 96, x 97, x 98, x 99, x 100, x 101, x 102, x 103, x 104, x 105, x 106, x 107, x 108, x 109, x 110, x 111, x 112, x 113, x 114, x 115, x 116, x 117, x 118, x 119, x 120, x 121, x 122, x 123, .slice (some ⟨bx, ox, none⟩) X.length c, x 125, x 126, x 127, x 128, x 129, x 130, x 131, x 132, x 133, x 134, x 135, x 136, x 137, x 138, x 139, x 140, x 141, x 142, x 143, x 144, x 145, x 146, x 147, x 148, x 149, x 150, x 151, x 152, x 153, x 154, x 155, x 156, x 157, x 158, x 159, x 160, x 161, x 162, x 163, x 164, x 165, x 166], defers := [] } wa := hK _ _ hW trivial rfl
                        rw [E16.out] at hk
                        exact hk
                      · -- operation 33
                        simp only [List.getElem?_toArray, List.getElem?_cons_succ, List.getElem?_cons_zero, Option.some.injEq] at ho
                        subst ho
                        have hg : x 113 = .bool false := hgd 21 false rfl
                        clear hdep hgd
                        clear hg
                        unfold fr167
                        rw [E18.out]
                        go_simp
                        have hk : K { tmps := #[x 0, x 1, x 2, x 3, x 4, x 5, x 6, x 7, x 8, x 9, x 10, x 11, x 12, x 13, x 14, x 15, x 16, x 17, x 18, x 19, x 20, x 21, x 22, x 23, x 24, x 25, x 26, x 27, x 28, x 29, x 30, x 31, x 32, x 33, x 34, x 35, x 36, x 37, x 38, x 39, x 40, x 41, x 42, x 43, x 44, x 45, x 46, x 47, x 48, x 49, x 50, x 51, x 52, x 53, x 54, x 55, x 56, x 57, x 58, x 59, x 60, x 61, x 62, x 63, x 64, x 65, x 66, x 67, x 68, x 69, x 70, x 71, x 72, x 73, x 74, x 75, x 76, x 77, x 78, x 79, x 80, x 81, x 82, x 83, x 84, x 85, x 86, x 87, x 88, x 89, x 90, x 91, x 92, x 93, x 94, x 95, x 96, x 97, x 98, x 99, x 100, x 101, x 102, x 103, x 104, x 105, x 106, x 107, x 108, x 109, x 110, x 111, x 112, x 113, x 114, x 115, x 116, x 117, x 118, x 119, x 120, x 121, x 122, x 123, x 124, .int .i64 (ii : Int), x 126, x 127, x 128, x 129, x 130, x 131, x 132, x 133, x 134, x 135, x 136, x 137, x 138, x 139, x 140, x 141, x 142, x 143, x 144, x 145, x 146, x 147, x 148, x 149, x 150, x 151, x 152, x 153, x 154, x 155, x 156, x 157, x 158, x 159, x 160, x 161, x 162, x 163, x 164, x 165, x 166], defers := [] } wa := hK _ _ hW trivial rfl
                        rw [E18.out] at hk
                        exact hk
                      · -- operation 34
                        simp only [List.getElem?_toArray, List.getElem?_cons_succ, List.getElem?_cons_zero, Option.some.injEq] at ho
                        subst ho
                        have hg : x 113 = .bool false := hgd 21 false rfl
                        have p32 : (x 124) = .slice (some ⟨bx, ox, none⟩) X.length c := hdep 32 (List.mem_of_elem_eq_true (by kernel_rfl))
                        have p33 : (x 125) = .int .i64 (ii : Int) := hdep 33 (List.mem_of_elem_eq_true (by kernel_rfl))
                        clear hdep hgd
                        clear hg
                        unfold fr167
                        rw [p32, p33]
                        go_simp
                        have hk : K { tmps := #[x 0, x 1, x 2, x 3, x 4, x 5, x 6, x 7, x 8, x 9, x 10, x 11, x 12, x 13, x 14, x 15, x 16, x 17, x 18, x 19, x 20, x 21, x 22, x 23, x 24, x 25, x 26, x 27, x 28, x 29, x 30, x 31, x 32, x 33, x 34, x 35, x 36, x 37, x 38, x 39, x 40, x 41, x 42, x 43, x 44, x 45, x 46, x 47, x 48, x 49, x 50, x 51, x 52, x 53, x 54, x 55, x 56, x 57, x 58, x 59, x 60, x 61, x 62, x 63, x 64, x 65, x 66, x 67, x 68, x 69, x 70, x 71, x 72, x 73, x 74, x 75, x 76, x 77, x 78, x 79, x 80, x 81, x 82, x 83, x 84, x 85, x 86, x 87, x 88, x 89, x 90, x 91, x 92, x 93, x 94, x 95, x 96, x 97, x 98, x 99, x 100, x 101, x 102, x 103, x 104, x 105, x 106, x 107, x 108, x 109, x 110, x 111, x 112, x 113, x 114, x 115, x 116, x 117, x 118, x 119, x 120, x 121, x 122, x 123, x 124, x 125, .pointer (some ⟨bx, ox + ii * 2, none⟩), x 127, x 128, x 129, x 130, x 131, x 132, x 133, x 134, x 135, x 136, x 137, x 138, x 139, x 140, x 141, x 142, x 143, x 144, x 145, x 146, x 147, x 148, x 149, x 150, x 151, x 152, x 153, x 154, x 155, x 156, x 157, x 158, x 159, x 160, x 161, x 162, x 163, x 164, x 165, x 166], defers := [] } wa := hK _ _ hW trivial rfl
                        rw [p32, p33] at hk
                        exact hk
                      · -- operation 35
                        simp only [List.getElem?_toArray, List.getElem?_cons_succ, List.getElem?_cons_zero, Option.some.injEq] at ho
                        subst ho
                        have hg : x 113 = .bool false := hgd 21 false rfl
                        have p34 : (x 126) = .pointer (some ⟨bx, ox + ii * 2, none⟩) := hdep 34 (List.mem_of_elem_eq_true (by kernel_rfl))
                        clear hdep hgd
                        obtain ⟨⟨a0, a1⟩, a2, a3⟩ := HCX.out wa hW
                        clear hg
                        unfold fr167
                        rw [p34]
                        go_simp
                        have hk : K { tmps := #[x 0, x 1, x 2, x 3, x 4, x 5, x 6, x 7, x 8, x 9, x 10, x 11, x 12, x 13, x 14, x 15, x 16, x 17, x 18, x 19, x 20, x 21, x 22, x 23, x 24, x 25, x 26, x 27, x 28, x 29, x 30, x 31, x 32, x 33, x 34, x 35, x 36, x 37, x 38, x 39, x 40, x 41, x 42, x 43, x 44, x 45, x 46, x 47, x 48, x 49, x 50, x 51, x 52, x 53, x 54, x 55, x 56, x 57, x 58, x 59, x 60, x 61, x 62, x 63, x 64, x 65, x 66, x 67, x 68, x 69, x 70, x 71, x 72, x 73, x 74, x 75, x 76, x 77, x 78, x 79, x 80, x 81, x 82, x 83, x 84, x 85, x 86, x 87, x 88, x 89, x 90, x 91, x 92, x 93, x 94, x 95, x 96, x 97, x 98, x 99, x 100, x 101, x 102, x 103, x 104, x 105, x 106, x 107, x 108, x 109, x 110, x 111, x 112, x 113, x 114, x 115, x 116, x 117, x 118, x 119, x 120, x 121, x 122, x 123, x 124, x 125, x 126, .agg #[.slice y1 n1 k1, .int .i64 ct1], x 128, x 129, x 130, x 131, x 132, x 133, x 134, x 135, x 136, x 137, x 138, x 139, x 140, x 141, x 142, x 143, x 144, x 145, x 146, x 147, x 148, x 149, x 150, x 151, x 152, x 153, x 154, x 155, x 156, x 157, x 158, x 159, x 160, x 161, x 162, x 163, x 164, x 165, x 166], defers := [] } wa := hK _ _ hW trivial rfl
                        rw [p34] at hk
                        exact hk
                      · -- operation 36
                        simp only [List.getElem?_toArray, List.getElem?_cons_succ, List.getElem?_cons_zero, Option.some.injEq] at ho
                        subst ho
                        have hg : x 113 = .bool false := hgd 21 false rfl
                        clear hdep hgd
                        clear hg
                        unfold fr167
                        rw [E16.out]
                        go_simp
                        have hk : K { tmps := #[x 0, x 1, x 2, x 3, x 4, x 5, x 6, x 7, x 8, x 9, x 10, x 11, x 12, x 13, x 14, x 15, x 16, x 17, x 18, x 19, x 20, x 21, x 22, x 23, x 24, x 25, x 26, x 27, x 28, x 29, x 30, x 31, x 32, x 33, x 34, x 35, x 36, x 37, x 38, x 39, x 40, x 41, x 42, x 43, x 44, x 45, x 46, x 47, x 48, x 49, x 50, x 51, x 52, x 53, x 54, x 55, x 56, x 57, x 58, x 59, x 60, x 61, x 62, x 63, x 64, x 65, x 66, x 67, x 68, x 69, x 70, x 71, x 72, x 73, x 74, x 75, x 76, x 77, x 78, x 79, x 80, x 81, x 82, x 83, x 84, x 85, x 86, x 87, x 88, x 89, x 90, x 91, x 92, x 93, x 94, x 95, x 96, x 97, x 98, x 99, x 100, x 101, x 102, x 103, x 104, x 105, x 106, x 107, x 108, x 109, x 110, x 111, x 112, x 113, x 114, x 115, x 116, x 117, x 118, x 119, x 120, x 121, x 122, x 123, x 124, x 125, x 126, x 127, .slice (some ⟨bx, ox, none⟩) X.length c, x 129, x 130, x 131, x 132, x 133, x 134, x 135, x 136, x 137, x 138, x 139, x 140, x 141, x 142, x 143, x 144, x 145, x 146, x 147, x 148, x 149, x 150, x 151, x 152, x 153, x 154, x 155, x 156, x 157, x 158, x 159, x 160, x 161, x 162, x 163, x 164, x 165, x 166], defers := [] } wa := hK _ _ hW trivial rfl
                        rw [E16.out] at hk
                        exact hk
                      · -- operation 37
                        simp only [List.getElem?_toArray, List.getElem?_cons_succ, List.getElem?_cons_zero, Option.some.injEq] at ho
                        subst ho
                        have hg : x 113 = .bool false := hgd 21 false rfl
                        clear hdep hgd
                        clear hg
                        unfold fr167
                        rw [E18.out]
                        go_simp
                        have hk : K { tmps := #[x 0, x 1, x 2, x 3, x 4, x 5, x 6, x 7, x 8, x 9, x 10, x 11, x 12, x 13, x 14, x 15, x 16, x 17, x 18, x 19, x 20, x 21, x 22, x 23, x 24, x 25, x 26, x 27, x 28, x 29, x 30, x 31, x 32, x 33, x 34, x 35, x 36, x 37, x 38, x 39, x 40, x 41, x 42, x 43, x 44, x 45, x 46, x 47, x 48, x 49, x 50, x 51, x 52, x 53, x 54, x 55, x 56, x 57, x 58, x 59, x 60, x 61, x 62, x 63, x 64, x 65, x 66, x 67, x 68, x 69, x 70, x 71, x 72, x 73, x 74, x 75, x 76, x 77, x 78, x 79, x 80, x 81, x 82, x 83, x 84, x 85, x 86, x 87, x 88, x 89, x 90, x 91, x 92, x 93, x 94, x 95, x 96, x 97, x 98, x 99, x 100, x 101, x 102, x 103, x 104, x 105, x 106, x 107, x 108, x 109, x 110, x 111, x 112, x 113, x 114, x 115, x 116, x 117, x 118, x 119, x 120, x 121, x 122, x 123, x 124, x 125, x 126, x 127, x 128, .int .i64 (ii : Int), x 130, x 131, x 132, x 133, x 134, x 135, x 136, x 137, x 138, x 139, x 140, x 141, x 142, x 143, x 144, x 145, x 146, x 147, x 148, x 149, x 150, x 151, x 152, x 153, x 154, x 155, x 156, x 157, x 158, x 159, x 160, x 161, x 162, x 163, x 164, x 165, x 166], defers := [] } wa := hK _ _ hW trivial rfl
                        rw [E18.out] at hk
                        exact hk
                      · -- operation 38
                        simp only [List.getElem?_toArray, List.getElem?_cons_succ, List.getElem?_cons_zero, Option.some.injEq] at ho
                        subst ho
                        have hg : x 113 = .bool false := hgd 21 false rfl
                        have p37 : (x 129) = .int .i64 (ii : Int) := hdep 37 (List.mem_of_elem_eq_true (by kernel_rfl))
                        clear hdep hgd
                        clear hg
                        unfold fr167
                        rw [p37]
                        go_simp
                        have hk : K { tmps := #[x 0, x 1, x 2, x 3, x 4, x 5, x 6, x 7, x 8, x 9, x 10, x 11, x 12, x 13, x 14, x 15, x 16, x 17, x 18, x 19, x 20, x 21, x 22, x 23, x 24, x 25, x 26, x 27, x 28, x 29, x 30, x 31, x 32, x 33, x 34, x 35, x 36, x 37, x 38, x 39, x 40, x 41, x 42, x 43, x 44, x 45, x 46, x 47, x 48, x 49, x 50, x 51, x 52, x 53, x 54, x 55, x 56, x 57, x 58, x 59, x 60, x 61, x 62, x 63, x 64, x 65, x 66, x 67, x 68, x 69, x 70, x 71, x 72, x 73, x 74, x 75, x 76, x 77, x 78, x 79, x 80, x 81, x 82, x 83, x 84, x 85, x 86, x 87, x 88, x 89, x 90, x 91, x 92, x 93, x 94, x 95, x 96, x 97, x 98, x 99, x 100, x 101, x 102, x 103, x 104, x 105, x 106, x 107, x 108, x 109, x 110, x 111, x 112, x 113, x 114, x 115, x 116, x 117, x 118, x 119, x 120, x 121, x 122, x 123, x 124, x 125, x 126, x 127, x 128, x 129, .int .i64 (bb : Int), x 131, x 132, x 133, x 134, x 135, x 136, x 137, x 138, x 139, x 140, x 141, x 142, x 143, x 144, x 145, x 146, x 147, x 148, x 149, x 150, x 151, x 152, x 153, x 154, x 155, x 156, x 157, x 158, x 159, x 160, x 161, x 162, x 163, x 164, x 165, x 166], defers := [] } wa := hK _ _ hW trivial rfl
                        rw [p37] at hk
                        exact hk
                      · -- operation 39
                        simp only [List.getElem?_toArray, List.getElem?_cons_succ, List.getElem?_cons_zero, Option.some.injEq] at ho
                        subst ho
                        have hg : x 113 = .bool false := hgd 21 false rfl
                        have p36 : (x 128) = .slice (some ⟨bx, ox, none⟩) X.length c := hdep 36 (List.mem_of_elem_eq_true (by kernel_rfl))
                        have p38 : (x 130) = .int .i64 (bb : Int) := hdep 38 (List.mem_of_elem_eq_true (by kernel_rfl))
                        clear hdep hgd
                        clear hg
                        unfold fr167
                        rw [p36, p38]
                        go_simp
                        have hk : K { tmps := #[x 0, x 1, x 2, x 3, x 4, x 5, x 6, x 7, x 8, x 9, x 10, x 11, x 12, x 13, x 14, x 15, x 16, x 17, x 18, x 19, x 20, x 21, x 22, x 23, x 24, x 25, x 26, x 27, x 28, x 29, x 30, x 31, x 32, x 33, x 34, x 35, x 36, x 37, x 38, x 39, x 40, x 41, x 42, x 43, x 44, x 45, x 46, x 47, x 48, x 49, x 50, x 51, x 52, x 53, x 54, x 55, x 56, x 57, x 58, x 59, x 60, x 61, x 62, x 63, x 64, x 65, x 66, x 67, x 68, x 69, x 70, x 71, x 72, x 73, x 74, x 75, x 76, x 77, x 78, x 79, x 80, x 81, x 82, x 83, x 84, x 85, x 86, x 87, x 88, x 89, x 90, x 91, x 92, x 93, x 94, x 95, x 96, x 97, x 98, x 99, x 100, x 101, x 102, x 103, x 104, x 105, x 106, x 107, x 108, x 109, x 110, x 111, x 112, x 113, x 114, x 115, x 116, x 117, x 118, x 119, x 120, x 121, x 122, x 123, x 124, x 125, x 126, x 127, x 128, x 129, x 130, .pointer (some ⟨bx, ox + bb * 2, none⟩), x 132, x 133, x 134, x 135, x 136, x 137, x 138, x 139, x 140, x 141, x 142, x 143, x 144, x 145, x 146, x 147, x 148, x 149, x 150, x 151, x 152, x 153, x 154, x 155, x 156, x 157, x 158, x 159, x 160, x 161, x 162, x 163, x 164, x 165, x 166], defers := [] } wa := hK _ _ hW trivial rfl
                        rw [p36, p38] at hk
                        exact hk
                      · -- operation 40
                        simp only [List.getElem?_toArray, List.getElem?_cons_succ, List.getElem?_cons_zero, Option.some.injEq] at ho
                        subst ho
                        have hg : x 113 = .bool false := hgd 21 false rfl
                        have p39 : (x 131) = .pointer (some ⟨bx, ox + bb * 2, none⟩) := hdep 39 (List.mem_of_elem_eq_true (by kernel_rfl))
                        clear hdep hgd
                        obtain ⟨⟨a0, a1⟩, a2, a3⟩ := HCX.out wa hW
                        clear hg
                        unfold fr167
                        rw [p39]
                        go_simp
                        have hk : K { tmps := #[x 0, x 1, x 2, x 3, x 4, x 5, x 6, x 7, x 8, x 9, x 10, x 11, x 12, x 13, x 14, x 15, x 16, x 17, x 18, x 19, x 20, x 21, x 22, x 23, x 24, x 25, x 26, x 27, x 28, x 29, x 30, x 31, x 32, x 33, x 34, x 35, x 36, x 37, x 38, x 39, x 40, x 41, x 42, x 43, x 44, x 45, x 46, x 47, x 48, x 49, x 50, x 51, x 52, x 53, x 54, x 55, x 56, x 57, x 58, x 59, x 60, x 61, x 62, x 63, x 64, x 65, x 66, x 67, x 68, x 69, x 70, x 71, x 72, x 73, x 74, x 75, x 76, x 77, x 78, x 79, x 80, x 81, x 82, x 83, x 84, x 85, x 86, x 87, x 88, x 89, x 90, x 91, x 92, x 93, x 94, x 95, x 96, x 97, x 98, x 99, x 100, x 101, x 102, x 103, x 104, x 105, x 106, x 107, x 108, x 109, x 110, x 111, x 112, x 113, x 114, x 115, x 116, x 117, x 118, x 119, x 120, x 121, x 122, x 123, x 124, x 125, x 126, x 127, x 128, x 129, x 130, x 131, .agg #[.slice y0 n0 k0, .int .i64 ct0], x 133, x 134, x 135, x 136, x 137, x 138, x 139, x 140, x 141, x 142, x 143, x 144, x 145, x 146, x 147, x 148, x 149, x 150, x 151, x 152, x 153, x 154, x 155, x 156, x 157, x 158, x 159, x 160, x 161, x 162, x 163, x 164, x 165, x 166], defers := [] } wa := hK _ _ hW trivial rfl
                        rw [p39] at hk
                        exact hk
                      · -- operation 41
                        simp only [List.getElem?_toArray, List.getElem?_cons_succ, List.getElem?_cons_zero, Option.some.injEq] at ho
                        subst ho
                        have hg : x 113 = .bool false := hgd 21 false rfl
                        have p35 : (x 127) = .agg #[.slice y1 n1 k1, .int .i64 ct1] := hdep 35 (List.mem_of_elem_eq_true (by kernel_rfl))
                        have p40 : (x 132) = .agg #[.slice y0 n0 k0, .int .i64 ct0] := hdep 40 (List.mem_of_elem_eq_true (by kernel_rfl))
                        clear hdep hgd
                        clear hg
                        unfold fr167
                        rw [p35, p40]
                        go_simp
                        refine (P4.out wa hW).mono ?_
                        rintro e w5 ⟨rfl, hb5⟩
                        have hk : K { tmps := #[x 0, x 1, x 2, x 3, x 4, x 5, x 6, x 7, x 8, x 9, x 10, x 11, x 12, x 13, x 14, x 15, x 16, x 17, x 18, x 19, x 20, x 21, x 22, x 23, x 24, x 25, x 26, x 27, x 28, x 29, x 30, x 31, x 32, x 33, x 34, x 35, x 36, x 37, x 38, x 39, x 40, x 41, x 42, x 43, x 44, x 45, x 46, x 47, x 48, x 49, x 50, x 51, x 52, x 53, x 54, x 55, x 56, x 57, x 58, x 59, x 60, x 61, x 62, x 63, x 64, x 65, x 66, x 67, x 68, x 69, x 70, x 71, x 72, x 73, x 74, x 75, x 76, x 77, x 78, x 79, x 80, x 81, x 82, x 83, x 84, x 85, x 86, x 87, x 88, x 89, x 90, x 91, x 92, x 93, x 94, x 95, x 96, x 97, x 98, x 99, x 100, x 101, x 102, x 103, x 104, x 105, x 106, x 107, x 108, x 109, x 110, x 111, x 112, x 113, x 114, x 115, x 116, x 117, x 118, x 119, x 120, x 121, x 122, x 123, x 124, x 125, x 126, x 127, x 128, x 129, x 130, x 131, x 132, .bool z2, x 134, x 135, x 136, x 137, x 138, x 139, x 140, x 141, x 142, x 143, x 144, x 145, x 146, x 147, x 148, x 149, x 150, x 151, x 152, x 153, x 154, x 155, x 156, x 157, x 158, x 159, x 160, x 161, x 162, x 163, x 164, x 165, x 166], defers := [] } w5 := hK _ _ (hW.trans (hb5.mono hW.size)) trivial rfl
                        rw [p35, p40] at hk
                        exact hk
                      · -- operation 42
                        simp only [List.getElem?_toArray, List.getElem?_cons_succ, List.getElem?_cons_zero, Option.some.injEq] at ho
                        subst ho
                        have hg : x 113 = .bool false := hgd 21 false rfl
                        have p31 : (x 123) = .bool z2 := hdep 31 (List.mem_of_elem_eq_true (by kernel_rfl))
                        have p41 : (x 133) = .bool z2 := hdep 41 (List.mem_of_elem_eq_true (by kernel_rfl))
                        clear hdep hgd
                        clear hg
                        unfold fr167
                        rw [p31, p41]
                        go_simp
                        have hk : K { tmps := #[x 0, x 1, x 2, x 3, x 4, x 5, x 6, x 7, x 8, x 9, x 10, x 11, x 12, x 13, x 14, x 15, x 16, x 17, x 18, x 19, x 20, x 21, x 22, x 23, x 24, x 25, x 26, x 27, x 28, x 29, x 30, x 31, x 32, x 33, x 34, x 35, x 36, x 37, x 38, x 39, x 40, x 41, x 42, x 43, x 44, x 45, x 46, x 47, x 48, x 49, x 50, x 51, x 52, x 53, x 54, x 55, x 56, x 57, x 58, x 59, x 60, x 61, x 62, x 63, x 64, x 65, x 66, x 67, x 68, x 69, x 70, x 71, x 72, x 73, x 74, x 75, x 76, x 77, x 78, x 79, x 80, x 81, x 82, x 83, x 84, x 85, x 86, x 87, x 88, x 89, x 90, x 91, x 92, x 93, x 94, x 95, x 96, x 97, x 98, x 99, x 100, x 101, x 102, x 103, x 104, x 105, x 106, x 107, x 108, x 109, x 110, x 111, x 112, x 113, x 114, x 115, x 116, x 117, x 118, x 119, x 120, x 121, x 122, x 123, x 124, x 125, x 126, x 127, x 128, x 129, x 130, x 131, x 132, x 133, .bool false, x 135, x 136, x 137, x 138, x 139, x 140, x 141, x 142, x 143, x 144, x 145, x 146, x 147, x 148, x 149, x 150, x 151, x 152, x 153, x 154, x 155, x 156, x 157, x 158, x 159, x 160, x 161, x 162, x 163, x 164, x 165, x 166], defers := [] } wa := hK _ _ hW trivial rfl
                        rw [p31, p41] at hk
                        exact hk
                      · -- operation 43
                        simp only [List.getElem?_toArray, List.getElem?_cons_succ, List.getElem?_cons_zero, Option.some.injEq] at ho
                        subst ho
                        have p21 : (x 113) = .bool false := hdep 21 (List.mem_of_elem_eq_true (by kernel_rfl))
                        have p42 : (x 134) = .bool false := hdep 42 (List.mem_of_elem_eq_true (by kernel_rfl))
                        clear hdep hgd
                        unfold fr167
                        rw [p21, p42]
                        go_simp
                        have hk : K { tmps := #[x 0, x 1, x 2, x 3, x 4, x 5, x 6, x 7, x 8, x 9, x 10, x 11, x 12, x 13, x 14, x 15, x 16, x 17, x 18, x 19, x 20, x 21, x 22, x 23, x 24, x 25, x 26, x 27, x 28, x 29, x 30, x 31, x 32, x 33, x 34, x 35, x 36, x 37, x 38, x 39, x 40, x 41, x 42, x 43, x 44, x 45, x 46, x 47, x 48, x 49, x 50, x 51, x 52, x 53, x 54, x 55, x 56, x 57, x 58, x 59, x 60, x 61, x 62, x 63, x 64, x 65, x 66, x 67, x 68, x 69, x 70, x 71, x 72, x 73, x 74, x 75, x 76, x 77, x 78, x 79, x 80, x 81, x 82, x 83, x 84, x 85, x 86, x 87, x 88, x 89, x 90, x 91, x 92, x 93, x 94, x 95, x 96, x 97, x 98, x 99, x 100, x 101, x 102, x 103, x 104, x 105, x 106, x 107, x 108, x 109, x 110, x 111, x 112, x 113, x 114, x 115, x 116, x 117, x 118, x 119, x 120, x 121, x 122, x 123, x 124, x 125, x 126, x 127, x 128, x 129, x 130, x 131, x 132, x 133, x 134, .bool false, x 136, x 137, x 138, x 139, x 140, x 141, x 142, x 143, x 144, x 145, x 146, x 147, x 148, x 149, x 150, x 151, x 152, x 153, x 154, x 155, x 156, x 157, x 158, x 159, x 160, x 161, x 162, x 163, x 164, x 165, x 166], defers := [] } wa := hK _ _ hW trivial rfl
                        rw [p21, p42] at hk
                        exact hk
                    case skip =>
                      intro i o j b ho hgd x wa hW hdep hne
                      have hi : i < 44 := (Array.getElem?_eq_some_iff.1 ho).1
                      have hcase : i = 0 ∨ i = 1 ∨ i = 2 ∨ i = 3 ∨ i = 4 ∨ i = 5 ∨ i = 6 ∨ i = 7 ∨ i = 8 ∨ i = 9 ∨ i = 10 ∨ i = 11 ∨ i = 12 ∨ i = 13 ∨ i = 14 ∨ i = 15 ∨ i = 16 ∨ i = 17 ∨ i = 18 ∨ i = 19 ∨ i = 20 ∨ i = 21 ∨ i = 22 ∨ i = 23 ∨ i = 24 ∨ i = 25 ∨ i = 26 ∨ i = 27 ∨ i = 28 ∨ i = 29 ∨ i = 30 ∨ i = 31 ∨ i = 32 ∨ i = 33 ∨ i = 34 ∨ i = 35 ∨ i = 36 ∨ i = 37 ∨ i = 38 ∨ i = 39 ∨ i = 40 ∨ i = 41 ∨ i = 42 ∨ i = 43 := by omega
                      rcases hcase with rfl | rfl | rfl | rfl | rfl | rfl | rfl | rfl | rfl | rfl | rfl | rfl | rfl | rfl | rfl | rfl | rfl | rfl | rfl | rfl | rfl | rfl | rfl | rfl | rfl | rfl | rfl | rfl | rfl | rfl | rfl | rfl | rfl | rfl | rfl | rfl | rfl | rfl | rfl | rfl | rfl | rfl | rfl | rfl
                      · simp only [List.getElem?_toArray, List.getElem?_cons_zero, Option.some.injEq] at ho
                        subst ho
                        cases hgd
                      · simp only [List.getElem?_toArray, List.getElem?_cons_succ, List.getElem?_cons_zero, Option.some.injEq] at ho
                        subst ho
                        cases hgd
                      · simp only [List.getElem?_toArray, List.getElem?_cons_succ, List.getElem?_cons_zero, Option.some.injEq] at ho
                        subst ho
                        cases hgd
                      · simp only [List.getElem?_toArray, List.getElem?_cons_succ, List.getElem?_cons_zero, Option.some.injEq] at ho
                        subst ho
                        cases hgd
                      · simp only [List.getElem?_toArray, List.getElem?_cons_succ, List.getElem?_cons_zero, Option.some.injEq] at ho
                        subst ho
                        cases hgd
                      · simp only [List.getElem?_toArray, List.getElem?_cons_succ, List.getElem?_cons_zero, Option.some.injEq] at ho
                        subst ho
                        cases hgd
                      · simp only [List.getElem?_toArray, List.getElem?_cons_succ, List.getElem?_cons_zero, Option.some.injEq] at ho
                        subst ho
                        cases hgd
                      · simp only [List.getElem?_toArray, List.getElem?_cons_succ, List.getElem?_cons_zero, Option.some.injEq] at ho
                        subst ho
                        cases hgd
                      · simp only [List.getElem?_toArray, List.getElem?_cons_succ, List.getElem?_cons_zero, Option.some.injEq] at ho
                        subst ho
                        cases hgd
                      · simp only [List.getElem?_toArray, List.getElem?_cons_succ, List.getElem?_cons_zero, Option.some.injEq] at ho
                        subst ho
                        cases hgd
                      · simp only [List.getElem?_toArray, List.getElem?_cons_succ, List.getElem?_cons_zero, Option.some.injEq] at ho
                        subst ho
                        cases hgd
                      · simp only [List.getElem?_toArray, List.getElem?_cons_succ, List.getElem?_cons_zero, Option.some.injEq] at ho
                        subst ho
                        cases hgd
                      · simp only [List.getElem?_toArray, List.getElem?_cons_succ, List.getElem?_cons_zero, Option.some.injEq] at ho
                        subst ho
                        cases hgd
                      · simp only [List.getElem?_toArray, List.getElem?_cons_succ, List.getElem?_cons_zero, Option.some.injEq] at ho
                        subst ho
                        cases hgd
                      · simp only [List.getElem?_toArray, List.getElem?_cons_succ, List.getElem?_cons_zero, Option.some.injEq] at ho
                        subst ho
                        cases hgd
                      · simp only [List.getElem?_toArray, List.getElem?_cons_succ, List.getElem?_cons_zero, Option.some.injEq] at ho
                        subst ho
                        cases hgd
                      · simp only [List.getElem?_toArray, List.getElem?_cons_succ, List.getElem?_cons_zero, Option.some.injEq] at ho
                        subst ho
                        cases hgd
                      · simp only [List.getElem?_toArray, List.getElem?_cons_succ, List.getElem?_cons_zero, Option.some.injEq] at ho
                        subst ho
                        cases hgd
                      · simp only [List.getElem?_toArray, List.getElem?_cons_succ, List.getElem?_cons_zero, Option.some.injEq] at ho
                        subst ho
                        cases hgd
                      · simp only [List.getElem?_toArray, List.getElem?_cons_succ, List.getElem?_cons_zero, Option.some.injEq] at ho
                        subst ho
                        cases hgd
                      · simp only [List.getElem?_toArray, List.getElem?_cons_succ, List.getElem?_cons_zero, Option.some.injEq] at ho
                        subst ho
                        cases hgd
                      · simp only [List.getElem?_toArray, List.getElem?_cons_succ, List.getElem?_cons_zero, Option.some.injEq] at ho
                        subst ho
                        cases hgd
                      · simp only [List.getElem?_toArray, List.getElem?_cons_succ, List.getElem?_cons_zero, Option.some.injEq] at ho
                        subst ho
                        obtain ⟨rfl, rfl⟩ : 21 = j ∧ false = b := by simpa using hgd
                        have p21 : (x 113) = .bool false := hdep 21 (List.mem_of_elem_eq_true (by kernel_rfl))
                        exact absurd p21 hne
                      · simp only [List.getElem?_toArray, List.getElem?_cons_succ, List.getElem?_cons_zero, Option.some.injEq] at ho
                        subst ho
                        obtain ⟨rfl, rfl⟩ : 21 = j ∧ false = b := by simpa using hgd
                        have p21 : (x 113) = .bool false := hdep 21 (List.mem_of_elem_eq_true (by kernel_rfl))
                        exact absurd p21 hne
                      · simp only [List.getElem?_toArray, List.getElem?_cons_succ, List.getElem?_cons_zero, Option.some.injEq] at ho
                        subst ho
                        obtain ⟨rfl, rfl⟩ : 21 = j ∧ false = b := by simpa using hgd
                        have p21 : (x 113) = .bool false := hdep 21 (List.mem_of_elem_eq_true (by kernel_rfl))
                        exact absurd p21 hne
                      · simp only [List.getElem?_toArray, List.getElem?_cons_succ, List.getElem?_cons_zero, Option.some.injEq] at ho
                        subst ho
                        obtain ⟨rfl, rfl⟩ : 21 = j ∧ false = b := by simpa using hgd
                        have p21 : (x 113) = .bool false := hdep 21 (List.mem_of_elem_eq_true (by kernel_rfl))
                        exact absurd p21 hne
                      · simp only [List.getElem?_toArray, List.getElem?_cons_succ, List.getElem?_cons_zero, Option.some.injEq] at ho
                        subst ho
                        obtain ⟨rfl, rfl⟩ : 21 = j ∧ false = b := by simpa using hgd
                        have p21 : (x 113) = .bool false := hdep 21 (List.mem_of_elem_eq_true (by kernel_rfl))
                        exact absurd p21 hne
                      · simp only [List.getElem?_toArray, List.getElem?_cons_succ, List.getElem?_cons_zero, Option.some.injEq] at ho
                        subst ho
                        obtain ⟨rfl, rfl⟩ : 21 = j ∧ false = b := by simpa using hgd
                        have p21 : (x 113) = .bool false := hdep 21 (List.mem_of_elem_eq_true (by kernel_rfl))
                        exact absurd p21 hne
                      · simp only [List.getElem?_toArray, List.getElem?_cons_succ, List.getElem?_cons_zero, Option.some.injEq] at ho
                        subst ho
                        obtain ⟨rfl, rfl⟩ : 21 = j ∧ false = b := by simpa using hgd
                        have p21 : (x 113) = .bool false := hdep 21 (List.mem_of_elem_eq_true (by kernel_rfl))
                        exact absurd p21 hne
                      · simp only [List.getElem?_toArray, List.getElem?_cons_succ, List.getElem?_cons_zero, Option.some.injEq] at ho
                        subst ho
                        obtain ⟨rfl, rfl⟩ : 21 = j ∧ false = b := by simpa using hgd
                        have p21 : (x 113) = .bool false := hdep 21 (List.mem_of_elem_eq_true (by kernel_rfl))
                        exact absurd p21 hne
                      · simp only [List.getElem?_toArray, List.getElem?_cons_succ, List.getElem?_cons_zero, Option.some.injEq] at ho
                        subst ho
                        obtain ⟨rfl, rfl⟩ : 21 = j ∧ false = b := by simpa using hgd
                        have p21 : (x 113) = .bool false := hdep 21 (List.mem_of_elem_eq_true (by kernel_rfl))
                        exact absurd p21 hne
                      · simp only [List.getElem?_toArray, List.getElem?_cons_succ, List.getElem?_cons_zero, Option.some.injEq] at ho
                        subst ho
                        obtain ⟨rfl, rfl⟩ : 21 = j ∧ false = b := by simpa using hgd
                        have p21 : (x 113) = .bool false := hdep 21 (List.mem_of_elem_eq_true (by kernel_rfl))
                        exact absurd p21 hne
                      · simp only [List.getElem?_toArray, List.getElem?_cons_succ, List.getElem?_cons_zero, Option.some.injEq] at ho
                        subst ho
                        obtain ⟨rfl, rfl⟩ : 21 = j ∧ false = b := by simpa using hgd
                        have p21 : (x 113) = .bool false := hdep 21 (List.mem_of_elem_eq_true (by kernel_rfl))
                        exact absurd p21 hne
                      · simp only [List.getElem?_toArray, List.getElem?_cons_succ, List.getElem?_cons_zero, Option.some.injEq] at ho
                        subst ho
                        obtain ⟨rfl, rfl⟩ : 21 = j ∧ false = b := by simpa using hgd
                        have p21 : (x 113) = .bool false := hdep 21 (List.mem_of_elem_eq_true (by kernel_rfl))
                        exact absurd p21 hne
                      · simp only [List.getElem?_toArray, List.getElem?_cons_succ, List.getElem?_cons_zero, Option.some.injEq] at ho
                        subst ho
                        obtain ⟨rfl, rfl⟩ : 21 = j ∧ false = b := by simpa using hgd
                        have p21 : (x 113) = .bool false := hdep 21 (List.mem_of_elem_eq_true (by kernel_rfl))
                        exact absurd p21 hne
                      · simp only [List.getElem?_toArray, List.getElem?_cons_succ, List.getElem?_cons_zero, Option.some.injEq] at ho
                        subst ho
                        obtain ⟨rfl, rfl⟩ : 21 = j ∧ false = b := by simpa using hgd
                        have p21 : (x 113) = .bool false := hdep 21 (List.mem_of_elem_eq_true (by kernel_rfl))
                        exact absurd p21 hne
                      · simp only [List.getElem?_toArray, List.getElem?_cons_succ, List.getElem?_cons_zero, Option.some.injEq] at ho
                        subst ho
                        obtain ⟨rfl, rfl⟩ : 21 = j ∧ false = b := by simpa using hgd
                        have p21 : (x 113) = .bool false := hdep 21 (List.mem_of_elem_eq_true (by kernel_rfl))
                        exact absurd p21 hne
                      · simp only [List.getElem?_toArray, List.getElem?_cons_succ, List.getElem?_cons_zero, Option.some.injEq] at ho
                        subst ho
                        obtain ⟨rfl, rfl⟩ : 21 = j ∧ false = b := by simpa using hgd
                        have p21 : (x 113) = .bool false := hdep 21 (List.mem_of_elem_eq_true (by kernel_rfl))
                        exact absurd p21 hne
                      · simp only [List.getElem?_toArray, List.getElem?_cons_succ, List.getElem?_cons_zero, Option.some.injEq] at ho
                        subst ho
                        obtain ⟨rfl, rfl⟩ : 21 = j ∧ false = b := by simpa using hgd
                        have p21 : (x 113) = .bool false := hdep 21 (List.mem_of_elem_eq_true (by kernel_rfl))
                        exact absurd p21 hne
                      · simp only [List.getElem?_toArray, List.getElem?_cons_succ, List.getElem?_cons_zero, Option.some.injEq] at ho
                        subst ho
                        obtain ⟨rfl, rfl⟩ : 21 = j ∧ false = b := by simpa using hgd
                        have p21 : (x 113) = .bool false := hdep 21 (List.mem_of_elem_eq_true (by kernel_rfl))
                        exact absurd p21 hne
                      · simp only [List.getElem?_toArray, List.getElem?_cons_succ, List.getElem?_cons_zero, Option.some.injEq] at ho
                        subst ho
                        obtain ⟨rfl, rfl⟩ : 21 = j ∧ false = b := by simpa using hgd
                        have p21 : (x 113) = .bool false := hdep 21 (List.mem_of_elem_eq_true (by kernel_rfl))
                        exact absurd p21 hne
                      · simp only [List.getElem?_toArray, List.getElem?_cons_succ, List.getElem?_cons_zero, Option.some.injEq] at ho
                        subst ho
                        obtain ⟨rfl, rfl⟩ : 21 = j ∧ false = b := by simpa using hgd
                        have p21 : (x 113) = .bool false := hdep 21 (List.mem_of_elem_eq_true (by kernel_rfl))
                        exact absurd p21 hne
                      · simp only [List.getElem?_toArray, List.getElem?_cons_succ, List.getElem?_cons_zero, Option.some.injEq] at ho
                        subst ho
                        obtain ⟨rfl, rfl⟩ : 21 = j ∧ false = b := by simpa using hgd
                        have p21 : (x 113) = .bool false := hdep 21 (List.mem_of_elem_eq_true (by kernel_rfl))
                        exact absurd p21 hne
                      · simp only [List.getElem?_toArray, List.getElem?_cons_succ, List.getElem?_cons_zero, Option.some.injEq] at ho
                        subst ho
                        cases hgd
                    case done =>
                      intro x wd hout hW hall
                      have p43 : x 135 = .bool false := hall 43 (by decide)
                      unfold fr167
                      rw [(hout 0 (by decide)).trans (hx0 0), (hout 1 (by decide)).trans (hx0 1), (hout 2 (by decide)).trans (hx0 2), (hout 3 (by decide)).trans (hx0 3), (hout 4 (by decide)).trans (hx0 4), (hout 5 (by decide)).trans (hx0 5), (hout 6 (by decide)).trans (hx0 6), (hout 7 (by decide)).trans (hx0 7), (hout 8 (by decide)).trans (hx0 8), (hout 9 (by decide)).trans (hx0 9), (hout 10 (by decide)).trans (hx0 10), (hout 11 (by decide)).trans (hx0 11), (hout 12 (by decide)).trans (hx0 12), (hout 13 (by decide)).trans (hx0 13), (hout 14 (by decide)).trans (hx0 14), (hout 15 (by decide)).trans (hx0 15), (hout 16 (by decide)).trans (hx0 16), (hout 17 (by decide)).trans (hx0 17), (hout 18 (by decide)).trans (hx0 18), (hout 19 (by decide)).trans (hx0 19), (hout 20 (by decide)).trans (hx0 20), (hout 21 (by decide)).trans (hx0 21), (hout 22 (by decide)).trans (hx0 22), (hout 23 (by decide)).trans (hx0 23), (hout 24 (by decide)).trans (hx0 24), (hout 25 (by decide)).trans (hx0 25), (hout 26 (by decide)).trans (hx0 26), (hout 27 (by decide)).trans (hx0 27), (hout 28 (by decide)).trans (hx0 28), (hout 29 (by decide)).trans (hx0 29), (hout 30 (by decide)).trans (hx0 30), (hout 31 (by decide)).trans (hx0 31), (hout 32 (by decide)).trans (hx0 32), (hout 33 (by decide)).trans (hx0 33), (hout 34 (by decide)).trans (hx0 34), (hout 35 (by decide)).trans (hx0 35), (hout 36 (by decide)).trans (hx0 36), (hout 37 (by decide)).trans (hx0 37), (hout 38 (by decide)).trans (hx0 38), (hout 39 (by decide)).trans (hx0 39), (hout 40 (by decide)).trans (hx0 40), (hout 41 (by decide)).trans (hx0 41), (hout 42 (by decide)).trans (hx0 42), (hout 43 (by decide)).trans (hx0 43), (hout 44 (by decide)).trans (hx0 44), (hout 45 (by decide)).trans (hx0 45), (hout 46 (by decide)).trans (hx0 46), (hout 47 (by decide)).trans (hx0 47), (hout 48 (by decide)).trans (hx0 48), (hout 49 (by decide)).trans (hx0 49), (hout 50 (by decide)).trans (hx0 50), (hout 51 (by decide)).trans (hx0 51), (hout 52 (by decide)).trans (hx0 52), (hout 53 (by decide)).trans (hx0 53), (hout 54 (by decide)).trans (hx0 54), (hout 55 (by decide)).trans (hx0 55), (hout 56 (by decide)).trans (hx0 56), (hout 57 (by decide)).trans (hx0 57), (hout 58 (by decide)).trans (hx0 58), (hout 59 (by decide)).trans (hx0 59), (hout 60 (by decide)).trans (hx0 60), (hout 61 (by decide)).trans (hx0 61), (hout 62 (by decide)).trans (hx0 62), (hout 63 (by decide)).trans (hx0 63), (hout 64 (by decide)).trans (hx0 64), (hout 65 (by decide)).trans (hx0 65), (hout 66 (by decide)).trans (hx0 66), (hout 67 (by decide)).trans (hx0 67), (hout 68 (by decide)).trans (hx0 68), (hout 69 (by decide)).trans (hx0 69), (hout 70 (by decide)).trans (hx0 70), (hout 71 (by decide)).trans (hx0 71), (hout 72 (by decide)).trans (hx0 72), (hout 73 (by decide)).trans (hx0 73), (hout 74 (by decide)).trans (hx0 74), (hout 75 (by decide)).trans (hx0 75), (hout 76 (by decide)).trans (hx0 76), (hout 77 (by decide)).trans (hx0 77), (hout 78 (by decide)).trans (hx0 78), (hout 79 (by decide)).trans (hx0 79), (hout 80 (by decide)).trans (hx0 80), (hout 81 (by decide)).trans (hx0 81), (hout 82 (by decide)).trans (hx0 82), (hout 83 (by decide)).trans (hx0 83), (hout 84 (by decide)).trans (hx0 84), (hout 85 (by decide)).trans (hx0 85), (hout 86 (by decide)).trans (hx0 86), (hout 87 (by decide)).trans (hx0 87), (hout 88 (by decide)).trans (hx0 88), (hout 89 (by decide)).trans (hx0 89), (hout 90 (by decide)).trans (hx0 90), (hout 91 (by decide)).trans (hx0 91), (hout 136 (by decide)).trans (hx0 136), (hout 137 (by decide)).trans (hx0 137), (hout 138 (by decide)).trans (hx0 138), (hout 139 (by decide)).trans (hx0 139), (hout 140 (by decide)).trans (hx0 140), (hout 141 (by decide)).trans (hx0 141), (hout 142 (by decide)).trans (hx0 142), (hout 143 (by decide)).trans (hx0 143), (hout 144 (by decide)).trans (hx0 144), (hout 145 (by decide)).trans (hx0 145), (hout 146 (by decide)).trans (hx0 146), (hout 147 (by decide)).trans (hx0 147), (hout 148 (by decide)).trans (hx0 148), (hout 149 (by decide)).trans (hx0 149), (hout 150 (by decide)).trans (hx0 150), (hout 151 (by decide)).trans (hx0 151), (hout 152 (by decide)).trans (hx0 152), (hout 153 (by decide)).trans (hx0 153), (hout 154 (by decide)).trans (hx0 154), (hout 155 (by decide)).trans (hx0 155), (hout 156 (by decide)).trans (hx0 156), (hout 157 (by decide)).trans (hx0 157), (hout 158 (by decide)).trans (hx0 158), (hout 159 (by decide)).trans (hx0 159), (hout 160 (by decide)).trans (hx0 160), (hout 161 (by decide)).trans (hx0 161), (hout 162 (by decide)).trans (hx0 162), (hout 163 (by decide)).trans (hx0 163), (hout 164 (by decide)).trans (hx0 164), (hout 165 (by decide)).trans (hx0 165), (hout 166 (by decide)).trans (hx0 166)]
                      simp only [Array.getD_eq_getD_getElem?, List.getElem?_toArray, List.getElem?_cons_succ, List.getElem?_cons_zero, Option.getD_some]
                      rw [p43]
                      clear hall hout
                      go_wp2_with fail
                      go_roundw
                      case rel => exact ⟨ii + 1, by omega, by omega, by go_num, keep (hBi.out.trans (hW.mono hBi.out.size))⟩
                      case measure => simp [intOf]; omega
                  · have hend : ¬ (ii : Int) < (X.length : Int) := by omega
                    have HGp := keep (grownBy_below HG9.out (hBi.out.mono HG9.out.size))
                    have HCp := keep (HC9.out.under hBi.out HC9.out.lt_)
                    have HXOp := keep (HXO9.out.grown (grownBy_of_below hBi.out _))
                    go_wp2_with fail
                    refine (makeLine gc wp HCp.out).mono ?_
                    rintro e w10 ⟨y, rfl, hyl, hC10, hg10⟩
                    obtain ⟨w11, hw11⟩ : ∃ w11, w11 = w10.alloc (.cells #[.string s, .string y] 9) := ⟨_, rfl⟩
                    have hal : Below w10.heap.size w10 w11 := hw11 ▸ (Below.refl _ w10).alloc (Nat.le_refl _) _
                    have hbk : Blk w11 w10.heap.size 9 #[.string s, .string y] := hw11 ▸ Blk.new w10 _ _
                    have HBK := keep hbk
                    have hbkl := hbk.lt
                    have HG11 := keep (grownBy_trans HGp.out (grownBy_trans hg10 (grownBy_of_below hal (some gc))))
                    have HC11 := keep (hC10.under hal hC10.lt_)
                    have HXO11 := keep ((HXOp.out.grown hg10).grown (grownBy_of_below hal (some gc)))
                    have HW11 := keep hw11
                    have hyl2 : y.size ≤ 1048576 := by omega
                    clear hal hbk hw11 hC10 hg10
                    go_wp2_with fail
                    rw [← HW11.out]
                    go_loopw [141] (fun u141 wr => ∃ m : Nat, m ≤ 2 ∧ u141 = .int .i64 m ∧ Hid (Below w11.heap.size w11 wr)) (fun u141 _ => 2 - (intOf u141).toNat)
                    case atStart => exact ⟨0, by omega, rfl, keep (Below.refl _ _)⟩
                    case round =>
                      obtain ⟨m, hm2, rfl, hBm⟩ := hrel
                      obtain ⟨wq, rfl⟩ : ∃ wq : World, wq = wr := ⟨_, rfl⟩
                      by_cases hml : m < 2
                      · obtain ⟨z, hz, hzl⟩ : ∃ z : ByteArray, (#[.string s, .string y] : Array Value)[m]? = some (.string z) ∧ z.size ≤ 1048576 := by
                          have e : m = 0 ∨ m = 1 := by omega
                          rcases e with rfl | rfl
                          · exact ⟨s, rfl, hss⟩
                          · exact ⟨y, rfl, hyl2⟩
                        have e0 : wq.cell? ⟨w10.heap.size, m, none⟩ = some (.string z) := (hBm.out.cell hbkl).trans ((HBK.out.cell m).trans hz)
                        have HXOq := keep (HXO11.out.grown (grownBy_of_below hBm.out _))
                        have HF1 := keep (pfind_any (.slice A X.length c) X z wq HXOq.out.ms (by omega) (by omega))
                        have m1 : (m : Int) < 2 := by omega
                        clear hz
                        go_wp2_with fail
                        refine HF1.out.mono ?_
                        rintro e w12 ⟨k1, ok1, rfl, hb12, hk1, hf1⟩
                        have HB12 := keep (hBm.out.trans (hb12.mono hBm.out.size))
                        have HF2 := keep (rfind_any (.slice A X.length c) X z w12 (HXOq.out.ms.up hb12) (by omega) (by omega))
                        have HK1 := keep hk1
                        have HFF1 : Hid (FndM X (toks z) k1 ok1) := keep hf1
                        clear hb12 hk1 hf1 HF1
                        go_wp2_with fail
                        refine HF2.out.mono ?_
                        rintro e w13 ⟨k2, ok2, rfl, hb13, hk2, hf2⟩
                        have hff2 : FndM X (toks z) k2 ok2 := hf2
                        obtain ⟨rfl, rfl⟩ := find_same HK1.out hk2 HFF1.out hff2
                        have HB13 := keep (HB12.out.trans (hb13.mono HB12.out.size))
                        have n1 : ((k1 : Int) != (k1 : Int)) = false := by simp
                        have n2 : (ok1 != ok1) = false := by simp
                        clear hb13 hk2 hf2 hff2 HF2 HFF1 HK1
                        go_wp2_with fail
                        go_roundw
                        case rel => exact ⟨m + 1, by omega, by go_num, HB13⟩
                        case measure => simp [intOf]; omega
                      · obtain rfl : m = 2 := by omega
                        have HGf := keep (grownBy_below HG11.out (hBm.out.mono HG11.out.size))
                        have HCf := keep (HC11.out.under hBm.out HC11.out.lt_)
                        go_wp2_with fail
                        go_roundw
                        case rel => exact ⟨k + 1, by omega, by go_num, HCf, HGf⟩
                        case measure => simp [intOf]; omega
              · obtain rfl : k = 3 := by omega
                go_wp2_with fail
                go_ret
                exact ⟨rfl, below_grown HBW2.out hG.out HBW2.out.size hgw⟩
end Go.Proofs.Ytibljgnajbblaaa
