/- The contract of logtideref25.Encode. -/
import Derived.Test.YtihimbmbhmgjoaaPostR
import Derived.Test.YtihimbmbhmgjoaaTwo
namespace Go.Proofs.Ytihimbmbhmgjoaa
open Go.RowKit

/-- What Encode returns: the bytes of the list, or nil and the error. -/
def EncRes (w : World) (l : List Int) (e : Ending) (w' : World) : Prop :=
  ∃ v, e = .returned (.tuple #[v, .int .i64 (checkOf l)]) ∧ OwnB w' w.heap.size v (if checkOf l = 0 then postB l else []) ∧ Below w.heap.size w w'
theorem own_nil (w : World) (B : Nat) : OwnB w B (.slice none 0 0) [] := .inl ⟨rfl, rfl⟩
theorem gaps_take (xs : List Int) (j : Nat) (hj : j < xs.length) : gaps 0 (xs.take (j + 1)) = gaps 0 (xs.take j) ++ uvar (xs[j] - (xs.take j).getLastD 0).toNat := by
  rw [List.take_succ_eq_append_getElem hj, gaps_push]
theorem last_take (xs : List Int) (j : Nat) (hj : j < xs.length) : (xs.take (j + 1)).getLastD 0 = xs[j] := by
  rw [List.take_succ_eq_append_getElem hj]
  generalize xs.take j = a
  generalize xs[j] = y
  simp [List.getLastD_eq_getLast?]
/-- The steps of an ascending list. -/
theorem Rise.at_ : ∀ {xs : List Int} {a : Int} (_ : Rise a xs) (j : Nat) (hj : j < xs.length), (xs.take j).getLastD a ≤ xs[j] ∧ xs[j] < 4096
  | x :: xs, a, ⟨h1, h2, _⟩, 0, _ => ⟨h1, h2⟩
  | x :: xs, a, ⟨_, _, h3⟩, j + 1, hj => by
    have := h3.at_ j (by simpa using hj)
    simp only [List.take_succ_cons, List.getElem_cons_succ]
    rw [show (x :: xs.take j).getLastD a = (xs.take j).getLastD x from by cases xs.take j <;> rfl]
    exact this
theorem Rise.last0 {xs : List Int} (h : Rise 0 xs) (j : Nat) : 0 ≤ (xs.take j).getLastD 0 := (getLastD_rise (xs.take j) 0 (by omega) (by omega) (h.take j)).1
/-- The cells of a chunk. -/
theorem chk_cell {w : World} {b o n j : Nat} {l xs : List Int} (h : Row w b o (l.map (.int .i64))) (hx : chk l n = xs) (hj : j < xs.length) : w.cell? ⟨b, o + n + j, none⟩ = some (.int .i64 xs[j]) := by
  subst hx
  have h1 : j < (chk l n).length := hj
  unfold chk at h1
  rw [List.length_take, List.length_drop] at h1
  have hlt : n + j < l.length := by omega
  have := h (n + j) (.int .i64 l[n + j]) (by simp [hlt])
  rw [← Nat.add_assoc] at this
  have e2 : (chk l n)[j]? = some l[n + j] := by
    unfold chk
    rw [List.getElem?_take, if_pos (by omega), List.getElem?_drop]
    simp [hlt]
  have e3 := (List.getElem?_eq_some_iff.1 e2).2
  rw [this, e3]
theorem fresh_apart {w w' : World} {B : Nat} {v v' : Value} {l m : List UInt8} (p : Put1 w B (.slice none 0 0) v' m w') (h : OwnB w B v l) : ∀ k, v'.ownBlock = some k → Oset v k → False := by
  intro k h1 h2
  rcases p.s k h1 with h3 | h3
  · cases h3
  · have := (h.in_ k h2).2; omega

set_option maxRecDepth 100000 in
set_option maxHeartbeats 2000000 in
theorem refEnc_any (v : Value) (l : List Int) (w : World) (h1 : Sl w (lt w.heap.size) 1 v l.length (l.map (.int .i64))) (hm : l.length ≤ maxLen) :
    Calls Try.prog 26 #[v] w (EncRes w l) := by
  obtain ⟨A, c, rfl, hc, h1⟩ := h1.form
  obtain ⟨z, hz⟩ : ∃ z, checkOf l = z := ⟨_, rfl⟩
  have HZ := keep hz
  have hck := refCheck_any _ l w h1 hm
  rw [hz] at hck
  clear hz hm
  go_enter Try.func26, Try.ntmps26
  go_wp2_with fail
  refine hck.mono ?_
  rintro e w1 ⟨rfl, hb1⟩
  by_cases h0 : z = 0
  · subst h0
    obtain ⟨q1, q2⟩ := rise_of_check HZ.out
    have h2 := (h1.below hb1 (Nat.le_refl _)).more hb1.size
    have Q1 := keep q1
    have h1w := keep h1
    clear h1 q1 hck
    go_wp2_with fail
    have hul := uvar_len10 (n := l.length) (by omega)
    have hp := putVarint_any w.heap.size (.slice none 0 0) [] l.length w1 (own_nil _ _) hb1.size (by omega) (by simp; omega)
    refine hp.mono ?_
    rintro e w2 ⟨vh, rfl, hh⟩
    clear hp
    have hT : Two w w2 vh (.slice none 0 0) (uvar l.length ++ headsOf l []) (bodiesOf l []) :=
      ⟨by simpa [headsOf] using hh.o, own_nil _ _, (fun k _ h => by cases h), hb1.trans (hh.fresh.mono hb1.size)⟩
    have h3 := (h2.below hh.fresh (Nat.le_refl _)).more hh.fresh.size
    have HT := keep hT
    clear hT hh h2 hb1
    go_upto_region 7 with fail
    go_loopw [5, 6, 7, 8, 9, 10, 11] (fun vh vb i _ _ _ _ wr => ∃ (n k : Nat) (LH LB : List UInt8), i = .int .i64 n ∧ Hid (n = 32 * k ∧ n ≤ l.length + 31) ∧ Hid (LH = uvar l.length ++ headsOf l ((List.range k).map (32 * ·)) ∧ LB = bodiesOf l ((List.range k).map (32 * ·))) ∧ Hid (LH.length ≤ 10 + 20 * k ∧ LB.length ≤ 64 * k) ∧ Hid (Two w wr vh vb LH LB))
      (fun _ _ i _ _ _ _ _ => l.length + 64 - (intOf i).toNat)
    case atStart => exact ⟨0, 0, _, _, rfl, keep ⟨rfl, by omega⟩, keep ⟨rfl, rfl⟩, keep ⟨by simp [headsOf]; omega, by simp [bodiesOf]⟩, HT⟩
    case round =>
      obtain ⟨n, k, LH, LB, rfl, hn, hLL, hbd, hTr⟩ := hrel
      by_cases hlt : n < l.length
      · obtain ⟨b, o, rfl, hb, hrow⟩ := h1w.out.row (by omega)
        have hi1 : (n : Int) < (l.length : Int) := by omega
        have hi4 : (l.length : Int) ≤ (c : Int) := by omega
        have hnc : ¬ c = n := by omega
        have hbs := hTr.out.m.size
        have hrow2 : Row wr b o (l.map (.int .i64)) := hrow.keep (fun p hp => hTr.out.m.cell (by rw [hp]; exact hb))
        have HR := keep hrow2
        have hcl := chk_len hlt
        have hfit := chLen_fit hlt
        have hchle := chLen_le l.length n
        obtain ⟨xs, hxs⟩ : ∃ xs, chk l n = xs := ⟨_, rfl⟩
        have hxr : Rise 0 xs := by rw [← hxs, chk_take]; exact (Q1.out.drop n (by omega)).take 32
        have HX := keep hxs
        have HXR := keep hxr
        rw [hxs] at hcl
        have hxpos : 0 < xs.length := by omega
        have hxle : xs.length ≤ 32 := by omega
        have HCL := keep hcl
        have hK := keep (show k ≤ 128 by have := hn.out; omega)
        clear hrow hrow2 hcl hfit hchle hxs hxr HT h3
        have hslot : Hid (((n : Int) + 32 < (l.length : Int) ∧ ((n : Int) + 32).toNat - n = xs.length) ∨ (¬ (n : Int) + 32 < (l.length : Int) ∧ l.length - n = xs.length)) := keep (by
          have h := HCL.out
          unfold chLen at h
          split at h <;> omega)
        by_cases h32 : (n : Int) + 32 < (l.length : Int)
        all_goals
          go_upto_region 12 with fail
          have he := hslot.out
          first
            | rw [show Value.slice (some ⟨b, o + n, none⟩) 32 (c - n) = Value.slice (some ⟨b, o + n, none⟩) xs.length (c - n) from by rw [show xs.length = 32 by omega]]
            | rw [show l.length - n = xs.length from by omega]
          clear he
          obtain ⟨wo, rfl⟩ : ∃ wo : World, wo = wr := ⟨_, rfl⟩
          go_loopw [9, 10, 11] (fun v9 i _ wr => ∃ j : Nat, i = .int .i64 j ∧ Hid (j ≤ xs.length) ∧ Hid (Put1 wo w.heap.size (.slice none 0 0) v9 (gaps 0 (xs.take j)) wr)) (fun _ i _ _ => 40 - (intOf i).toNat)
          case atStart => exact ⟨0, rfl, keep (by omega), keep (by simpa [gaps] using Put1.refl (own_nil wo w.heap.size))⟩
          case round =>
            obtain ⟨j, rfl, hj, hP⟩ := hrel
            have hfr := hP.out.fresh
            have hbw : b < wo.heap.size := Nat.lt_of_lt_of_le hb hbs
            by_cases hje : j < xs.length
            · have hje' : (j : Int) < (xs.length : Int) := by omega
              have hg := gaps_take xs j hje
              have hat := HXR.out.at_ j hje
              have hl0 := HXR.out.last0 j
              have hc1 := (hfr.cell (p := ⟨b, o + n + j, none⟩) hbw).trans (chk_cell HR.out HX.out hje)
              have hlast : Hid (j = 0 → (xs.take j).getLastD 0 = 0) := keep (fun h => by subst h; rfl)
              have hlast2 : Hid (∀ p, j = p + 1 → ∀ (hp : p < xs.length), (xs.take j).getLastD 0 = xs[p]) := keep (fun p h hp => by subst h; exact last_take xs p hp)
              have hgl := gaps_short (xs.take j) 0 (by omega) (HXR.out.take j)
              have htl : (xs.take j).length ≤ 32 := by have := List.length_take_le j xs; omega
              obtain ⟨X, hX⟩ : ∃ X, xs[j] = X := ⟨_, rfl⟩
              obtain ⟨Y, hY⟩ : ∃ Y, (xs.take j).getLastD 0 = Y := ⟨_, rfl⟩
              rw [hX] at hat hg hc1
              rw [hY] at hat hg hl0 hlast hlast2
              obtain ⟨d, hd⟩ : ∃ d : Nat, X - Y = (d : Int) := ⟨(X - Y).toNat, by omega⟩
              rw [hd, Int.toNat_natCast] at hg
              have hdl := uvar_len10 (n := d) (by omega)
              have hpv := fun W (hW : Put1 wo w.heap.size (.slice none 0 0) u9 (gaps 0 (xs.take j)) W) => putVarint_any w.heap.size u9 (gaps 0 (xs.take j)) d W hW.o (Nat.le_trans hbs hW.f.size) (by omega) (by omega)
              have HPV := keep hpv
              have HG := keep hg
              have HD := keep hd
              have hdb : d < 4096 := by omega
              have hX0 : 0 ≤ X := by omega
              have hX1 : X < 4096 := hat.2
              clear hpv hg hd hX hY hat hgl htl hdl
              rcases Nat.eq_zero_or_pos j with hj0 | hj0
              · have hY0 := hlast.out hj0
                subst hY0
                have HJ0 := keep hj0
                subst hj0
                have hXd : X = (d : Int) := by have := HD.out; omega
                subst hXd
                rw [Nat.add_zero] at hc1
                go_wp2_with fail
                refine (HPV.out _ hP.out).mono ?_
                rintro e w5 ⟨v5, rfl, hP5⟩
                have HP5 := keep (hP.out.trans hP5)
                clear hP5
                go_wp2_with fail
                go_roundw
                case rel => exact ⟨1, by go_num, keep (by omega), keep (by rw [HG.out]; exact HP5.out)⟩
                case measure => simp [intOf]
              · obtain ⟨p, rfl⟩ : ∃ p, j = p + 1 := ⟨j - 1, by omega⟩
                have hpl : p < xs.length := by omega
                have hYp := hlast2.out p rfl hpl
                have hc2 := (hfr.cell (p := ⟨b, o + n + p, none⟩) hbw).trans (chk_cell HR.out HX.out hpl)
                rw [← hYp] at hc2
                have hpi : (p : Int) < (xs.length : Int) := by omega
                have hY1 : Y ≤ X := by have := HD.out; omega
                clear hYp hlast hlast2
                go_wp2_with fail
                rw [HD.out]
                refine (HPV.out _ hP.out).mono ?_
                rintro e w5 ⟨v5, rfl, hP5⟩
                have HP5 := keep (hP.out.trans hP5)
                clear hP5
                go_wp2_with fail
                go_roundw
                case rel => exact ⟨p + 1 + 1, by go_num, keep (by omega), keep (by rw [HG.out]; exact HP5.out)⟩
                case measure => simp [intOf]; omega
            · obtain ⟨p, hp⟩ : ∃ p, xs.length = p + 1 := ⟨xs.length - 1, by omega⟩
              have hje2 : ¬ (j : Int) < (xs.length : Int) := by omega
              have hpl : p < xs.length := by omega
              have hc2 := (hfr.cell (p := ⟨b, o + n + p, none⟩) hbw).trans (chk_cell HR.out HX.out hpl)
              have hlast := last_take xs p hpl
              rw [List.take_of_length_le (by omega)] at hlast
              have hjx : j = xs.length := by have := hj.out; omega
              have hPx : Put1 wo w.heap.size (.slice none 0 0) u9 (gaps 0 xs) wr := by
                have := hP.out
                rwa [List.take_of_length_le (by omega)] at this
              have hsm := entry_small hxle HXR.out
              have hl0 := getLastD_rise xs 0 (by omega) (by omega) HXR.out
              rw [hlast] at hsm hl0
              obtain ⟨X, hX⟩ : ∃ X, xs[p] = X := ⟨_, rfl⟩
              rw [hX] at hsm hl0 hc2 hlast
              obtain ⟨d, rfl⟩ := Int.eq_ofNat_of_zero_le hl0.1
              rw [Int.toNat_natCast] at hsm
              have hent : Hid (entryB xs = uvar d ++ uvar (gaps 0 xs).length) := keep (by unfold entryB; rw [hlast, Int.toNat_natCast])
              have hg64 := hsm.2
              have hd1 := hsm.1
              have hTb := hTr.out.below hfr
              have hsep := fresh_apart hPx hTr.out.h
              have hsep2 := fresh_apart hPx hTr.out.b
              have ho9 := hPx.o
              obtain ⟨A9, c9, rfl, hc9, ho9⟩ := ho9.form
              obtain ⟨G, hG⟩ : ∃ G, gaps 0 xs = G := ⟨_, rfl⟩
              rw [hG] at hent hPx hg64 ho9 hc9 hsep
              have hGl := keep hg64
              have hu1 := uvar_len10 (n := d) (by omega)
              have hu2 := uvar_len10 (n := G.length) (by omega)
              have hb1 := hbd.out
              have hkk := hK.out
              have HT := keep hTb
              have hp1 := putVarint_any w.heap.size u5 LH d wr hTb.h hTb.m.size (by omega) (by omega)
              have HP2 := keep (fun v5 W (hW : Put1 wr w.heap.size u5 v5 (LH ++ uvar d) W) => putVarint_any w.heap.size v5 (LH ++ uvar d) G.length W hW.o (Nat.le_trans hTb.m.size hW.f.size) (by omega) (by rw [List.length_append]; omega))
              have HHL := keep (show (LH ++ uvar d ++ uvar G.length).length ≤ 10 + 20 * (k + 1) by rw [List.length_append, List.length_append]; omega)
              have HBL := keep (show LB.length + G.length ≤ 140737488355328 by omega)
              have HBL2 := keep (show (LB ++ G).length ≤ 64 * (k + 1) by rw [List.length_append]; omega)
              have HO9 := keep ho9
              clear hP hu1 hu2 hb1 hTb hlast hX hl0 hsm hPx ho9
              go_wp2_with fail
              refine hp1.mono ?_
              rintro e w5 ⟨v5, rfl, hP5⟩
              go_wp2_with fail
              refine (HP2.out _ _ hP5).mono ?_
              rintro e w6 ⟨v6, rfl, hP6⟩
              have hP56 := hP5.trans hP6
              have hT6 := HT.out.onH hP56
              have h9 := HO9.out.off hP56.f hsep
              have HT6 := keep hT6
              have H9 := keep h9
              clear hp1 hP5 hP6 hP56 hT6 h9
              go_wp2_with (refine wpList_appendBb' elB rfl _ _ rfl w.heap.size u6 LB rfl HT6.out.b (lt w6.heap.size) (.slice A9 G.length c9) G rfl H9.out.slt HBL.out HT6.out.m.size ?_; intro v7 w7 hown7 hg7 hk7; have HF := keep (HT6.out.onB (Put1.of_push hown7 hg7 hk7)))
              have HLN : Hid (LH ++ uvar d ++ uvar G.length = uvar l.length ++ headsOf l ((List.range (k + 1)).map (32 * ·)) ∧ LB ++ G = bodiesOf l ((List.range (k + 1)).map (32 * ·))) := keep (by
                have e1 := hLL.out
                have e2 := hn.out.1
                have e3 := HX.out
                rw [e2] at e3
                rw [List.range_succ, List.map_append, List.map_singleton, headsOf_push, bodiesOf_push, e3, hent.out, hG, e1.1, e1.2]
                simp only [List.append_assoc, and_self])
              go_roundw
              case rel => exact ⟨n + 32, k + 1, _, _, by go_num, keep ⟨by have := hn.out; omega, by have := hn.out; omega⟩, HLN, keep ⟨HHL.out, HBL2.out⟩, HF⟩
              case measure => simp [intOf]; omega
      · have hi2 : ¬ (n : Int) < (l.length : Int) := by omega
        have hst : (List.range k).map (32 * ·) = starts l.length := by
          unfold starts
          rw [show (l.length + 31) / 32 = k from by have := hn.out; omega]
        have hLs := hLL.out
        rw [hst] at hLs
        have hLp := keep (show postB l = LH ++ LB by rw [hLs.1, hLs.2]; rfl)
        have hL := keep (show LH.length + LB.length ≤ 140737488355328 by have := hbd.out; have := hn.out; omega)
        have hO := hTr.out
        clear hTr hst hLs hLL
        go_wp2_with (refine wpList_appendBb' elB rfl _ _ rfl w.heap.size u5 _ rfl hO.h (lt wr.heap.size) u6 _ rfl hO.b.slt hL.out hO.m.size ?_; intro v2 w3 hown3 hg3 hk3; have hF := keep (hO.onH (Put1.of_push hown3 hg3 hk3)))
        refine bodyPost_ret (v := .tuple #[v2, .int .i64 0]) (by simp [results, Try.results26, go_sem]) rfl ?_
        exact ⟨v2, by rw [HZ.out], by rw [if_pos HZ.out, hLp.out]; exact hF.out.h, hF.out.m⟩
  · go_wp2_with fail
    refine bodyPost_ret (v := .tuple #[.slice none 0 0, .int .i64 z]) (by simp [results, Try.results26, go_sem]) rfl ?_
    exact ⟨.slice none 0 0, by rw [HZ.out], by rw [if_neg (by rw [HZ.out]; exact h0)]; exact own_nil _ _, hb1⟩
end Go.Proofs.Ytihimbmbhmgjoaa
