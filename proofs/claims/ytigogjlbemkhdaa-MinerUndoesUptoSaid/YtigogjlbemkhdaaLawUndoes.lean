/- MinerUndoes: the walk of the statement. -/
import Derived.Test.YtigogjlbemkhdaaAwake15
namespace Go.Proofs.Ytigogjlbemkhdaa
open Go.RowKit

theorem undo {P P1 P2 : List TP} {o : Option (List ByteArray)} {ok : Bool} (hs : Srt P) (hp : Pos P) (h1 : AddStep P o P1) (h2 : RemStep P1 o ok P2) : ok = o.isSome ∧ P2 = P := by
  cases o with
  | none =>
    obtain rfl : P1 = P := h1
    obtain ⟨rfl, rfl⟩ := h2
    exact ⟨rfl, rfl⟩
  | some T =>
    have h1 : Added P P1 (strs T) 1 := h1
    have hc : cnt P1 (strs T) ≠ 0 := by
      rw [h1.c, if_pos rfl]
      have := cnt_nonneg hp (strs T)
      omega
    have h2 : (if cnt P1 (strs T) = 0 then ok = false ∧ P2 = P1 else ok = true ∧ Removed P1 P2 (strs T)) := h2
    rw [if_neg hc] at h2
    refine ⟨h2.1, cnt_ext h2.2.s hs h2.2.p hp fun U => ?_⟩
    rw [h2.2.c, h1.c]
    split <;> omega
set_option maxHeartbeats 8000000 in
set_option maxRecDepth 100000 in
theorem law_undoes (vc : Value) (bs : List Int) (s : ByteArray) (w : World) (hs : s.size ≤ 4294967296)
    (hsc : Sl w (lt w.heap.size) 1 vc bs.length (bs.map (.int .u8))) (hr : ∀ x ∈ bs, 0 ≤ x ∧ x ≤ 255) (hm : bs.length ≤ maxLen) :
    Calls Try.prog 3 #[vc, .string s] w fun e w' => e = .returned (.bool true) ∧ Below w.heap.size w w' := by
  go_enter Try.func3, Try.ntmps3
  go_wp2_with fail
  refine (awake_true _).mono ?_
  rintro e w1 ⟨rfl, hb1⟩
  have hS1 := hsc.upW hb1
  clear hsc
  go_wp2_with fail
  refine (drawNew _ bs 200 _ hS1 hr (by omega) hm).mono ?_
  rintro e w2 ⟨gc, rfl, hgc, hC2, hb2⟩
  have hbw2 := bchain hb1 hb2
  have hgl := hC2.lt_
  have hz1 := hb1.size
  clear hS1 hb1 hb2
  go_wp2_with fail
  refine (state_any gc 12 _ hC2 (by omega)).mono ?_
  rintro e w3 ⟨v, vl, L, S, rfl, hSl, hSz, hG, hK, hO, hT, hV, hC3, hg3⟩
  obtain ⟨A, c, rfl, _⟩ := own_sl hO
  obtain ⟨A2, c2, rfl, _⟩ := own_sl hV
  have HO := keep hO
  have HT := keep hT
  have HG := keep hG
  have HG3 := keep hg3
  clear hO hT hG hK hV hSz hg3
  go_wp2_with fail
  refine (makeLine gc _ hC3).mono ?_
  rintro e w4 ⟨x, rfl, hx, hC4, hg4⟩
  have hO4 := own_grown HO.out hg4 hgl
  have hT4 : ∀ t ∈ L, TkR w4 t := fun t ht => (HT.out t ht).grown hg4 (codes_noStr hC3)
  have hms : MS w4 (.slice A L.length c) L := ⟨Sl.of_own hO4, hT4⟩
  have hG4 := grownBy_trans HG3.out hg4
  have hb4 : Below w.heap.size w w4 := below_grown hbw2 hG4 hbw2.size (by omega)
  have HMS := keep hms
  clear hO4 hT4 hms hg4 hC3 hC4 hbw2 HO HT HG3 hG4 hC2
  go_wp2_with fail
  obtain ⟨W, hW⟩ : ∃ W, W = w4.alloc (.cells #[.string s, .string x] 9) := ⟨_, rfl⟩
  have hBk : Blk W w4.heap.size 9 #[.string s, .string x] := hW ▸ Blk.new _ _ _
  have hbW : Below w4.heap.size w4 W := hW ▸ (Below.refl _ w4).alloc (Nat.le_refl _) _
  rw [← hW]
  have hMW := HMS.out.up hbW
  have HMW := keep hMW
  have hbw := hb4.trans (hbW.mono hb4.size)
  have hlb := hBk.lt
  have hzW := hbw.size
  clear hW hbW hb4 hMW HMS
  go_loopw [9, 10, 11, 12, 13, 28] (fun _ _ _ _ _ i wr => ∃ k : Nat, k ≤ 2 ∧ i = .int .i64 k ∧ Hid (Below W.heap.size W wr)) (fun _ _ _ _ _ i _ => 2 - (intOf i).toNat)
  case atStart => exact ⟨0, by omega, rfl, keep (Below.refl _ _)⟩
  case round =>
    obtain ⟨k, hk, rfl, hB⟩ := hrel
    obtain ⟨wo, rfl⟩ : ∃ wo : World, wo = wr := ⟨_, rfl⟩
    by_cases hlt : k < 2
    · obtain ⟨t, hcell, hts⟩ : ∃ t : ByteArray, wo.cell? ⟨w4.heap.size, k, none⟩ = some (.string t) ∧ t.size ≤ 4294967296 := by
        have hBB := hBk.below hB.out hlb
        match k, hlt with
        | 0, _ => exact ⟨_, (hBB.cell 0).trans rfl, hs⟩
        | 1, _ => exact ⟨_, (hBB.cell 1).trans rfl, by omega⟩
      have hadd := addLine _ L t wo (HMW.out.up hB.out) ⟨HG.out.s, HG.out.p, by have := HG.out.b; omega⟩ hts
      have HTK := keep fun w' => tokens_any t w' hts
      have HREM := keep fun v' L' w' (h : MS w' v' L') (hg : Good (st L') 1000000) => removeLine v' L' t w' h hg hts
      generalize toks t = o at hadd HTK HREM
      have HADD := keep hadd
      have k1 : (k : Int) < 2 := by omega
      clear hadd
      go_wp2_with fail
      refine HADD.out.mono ?_
      rintro e w5 ⟨v5, L5, rfl, hn5, ha5⟩
      have hg5 : Good (st L5) 1000000 := by
        cases o with
        | none =>
          have h9 : st L5 = st L := ha5
          rw [h9]
          exact ⟨HG.out.s, HG.out.p, by have := HG.out.b; omega⟩
        | some T =>
          have h9 : Added (st L) (st L5) (strs T) 1 := ha5
          exact ⟨h9.s, h9.p, by have := h9.t; have := HG.out.b; omega⟩
      have hrem := HREM.out v5 L5 w5 hn5.ms hg5
      obtain ⟨A5, c5, rfl, _⟩ := own_sl hn5.1
      have hb5 := hB.out.trans (hn5.2.2.mono hB.out.size)
      have HREM5 := keep hrem
      have HA5 := keep ha5
      clear hrem ha5 hn5 hg5 HREM HADD
      go_wp2_with fail
      refine HREM5.out.mono ?_
      rintro e w6 ⟨v6, L6, ok, rfl, hn6, hr6⟩
      obtain ⟨rfl, hst⟩ := undo HG.out.s HG.out.p HA5.out hr6
      obtain ⟨A6, c6, rfl, _⟩ := own_sl hn6.1
      have hb6 := hb5.trans (hn6.2.2.mono hb5.size)
      have hm6 := hn6.ms
      have HST := keep hst
      have HM6 := keep hm6
      clear hst hm6 hn6 hr6 HA5 HREM5
      obtain ⟨q, hq⟩ : ∃ q, o.isSome = q := ⟨_, rfl⟩
      rw [hq]
      have HQ := keep hq
      clear hq
      go_wp2_with fail
      refine (HTK.out w6).mono ?_
      rintro e w7 ⟨v7, T7, rfl, _, _, ho7, hb7⟩
      rw [HQ.out]
      obtain ⟨A7, c7, rfl, _⟩ := own_sl ho7
      have hb67 := hb6.trans (hb7.mono hb6.size)
      have hsame := same_any _ _ L6 L w7 (HM6.out.up hb7) (HMW.out.up hb67) HST.out (by
        have h9 := congrArg List.length HST.out
        rw [st_len, st_len] at h9
        have h10 := sumP_len HG.out.p
        rw [st_len] at h10
        have := HG.out.b
        omega)
      have HSAME := keep hsame
      have d1 : (q != q) = false := by simp
      clear hsame ho7
      go_wp2_with fail
      refine HSAME.out.mono ?_
      rintro e w8 ⟨rfl, hb8⟩
      go_wp2_with fail
      go_roundw
      case rel => exact ⟨k + 1, by omega, by go_num, keep (hb67.trans (hb8.mono hb67.size))⟩
      case measure => simp [intOf]; omega
    · go_wp2_with fail
      go_ret
      exact ⟨rfl, hbw.trans (hB.out.mono hzW)⟩
end Go.Proofs.Ytigogjlbemkhdaa
