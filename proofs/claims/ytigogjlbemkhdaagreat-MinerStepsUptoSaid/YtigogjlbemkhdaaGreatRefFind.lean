/- The reference's find, and Less. -/
import Derived.Test.YtigogjlbemkhdaaGreatRefSame
namespace Go.Proofs.YtigogjlbemkhdaaGreat
open Go.RowKit
variable {oB : Nat}
def tkAt (L : List Tm) (T : List ByteArray) (k : Nat) : Prop := ∀ j, j < k → (h : j < L.length) → L[j].tk ≠ T
def FindRes (L : List Tm) (T : List ByteArray) (w : World) (x : Ending) (w' : World) : Prop :=
  ((∃ k : Nat, ∃ h : k < L.length, L[k].tk = T ∧ x = .returned (.int .i64 k)) ∨ ((∀ t ∈ L, t.tk ≠ T) ∧ x = .returned (.int .i64 (-1)))) ∧ Below w.heap.size w w'
set_option maxHeartbeats 4000000 in
set_option maxRecDepth 100000 in
theorem find_any (v : Value) (L : List Tm) (t : Tm) (w : World) (h : MS oB w v L) (ht : TkR oB w t) (hm : L.length ≤ 1048576) : Calls Tryz.prog 30 #[v, .agg (tmV t).toArray] w (FindRes L t.tk w) := by
  obtain ⟨A, c, rfl, _, _⟩ := h.1.form
  obtain ⟨A2, n2, c2, hv2⟩ := ht.form
  have hb1 : Below w.heap.size w (w.alloc (.cells #[t.tv, .int .i64 t.ct] 32)) := (Below.refl _ w).alloc (Nat.le_refl _) _
  have hB1 : Blk (w.alloc (.cells #[t.tv, .int .i64 t.ct] 32)) w.heap.size 32 #[t.tv, .int .i64 t.ct] := Blk.new w _ _
  have hT1 := ht.up hb1
  have hM1 := h.up hb1
  obtain ⟨w1, hw1⟩ : ∃ w1, w1 = w.alloc (.cells #[t.tv, .int .i64 t.ct] 32) := ⟨_, rfl⟩
  rw [← hw1] at hb1 hB1 hT1 hM1
  have HM := keep hM1
  have HT := keep hT1
  obtain ⟨ft, hft⟩ : ∃ ft, ft = t := ⟨_, rfl⟩
  obtain ⟨tv, tk, ct⟩ := t
  simp only at hv2 hB1 hw1
  subst hv2
  simp only [tmV]
  have HF := keep hft
  have HW := keep hw1
  have HB := keep hb1
  have l1 := hB1.lt
  clear h ht hw1 hM1 hT1 hb1 hft
  go_enter Tryz.func30, Tryz.ntmps30
  go_wp2_with fail
  rw [← HW.out]
  go_loopw [5] (fun i wr => ∃ k : Nat, k ≤ L.length ∧ i = .int .i64 k ∧ Hid (tkAt L tk k) ∧ Hid (Below w1.heap.size w1 wr)) (fun i _ => L.length - (intOf i).toNat)
  case atStart => exact ⟨0, Nat.zero_le _, rfl, keep (fun j hj => absurd hj (by omega)), keep (Below.refl _ _)⟩
  case round =>
    obtain ⟨k, hk, rfl, hN, hR⟩ := hrel
    obtain ⟨wo, rfl⟩ : ∃ wo : World, wo = wr := ⟨_, rfl⟩
    by_cases hlt : k < L.length
    · obtain ⟨b, o, rfl, _, c0, c1⟩ := tm_cells ((HM.out.1).below hR.out (Nat.le_refl _)) hlt
      have hBk := hB1.below hR.out l1
      have e0 : wo.cell? ⟨w.heap.size, 0, none⟩ = some (.slice A2 n2 c2) := (hBk.cell 0).trans rfl
      have e1 : wo.cell? ⟨w.heap.size, 1, none⟩ = some (.int .i64 ct) := (hBk.cell 1).trans rfl
      have hcall := sameTok_any L[k] ⟨.slice A2 n2 c2, tk, ct⟩ wo.drew ((HM.out.2 _ (List.getElem_mem hlt)).up hR.out.drew) (HT.out.up hR.out.drew)
      have hfm := (HM.out.2 _ (List.getElem_mem hlt)).form
      have hyes : L[k].tk = tk → ∃ k' : Nat, ∃ h : k' < L.length, L[k'].tk = tk ∧ (k' : Int) = (k : Int) := fun e => ⟨k, hlt, e, rfl⟩
      have hno : L[k].tk ≠ tk → tkAt L tk (k + 1) := fun e j hj h => by
        rcases Nat.lt_or_ge j k with h1 | h1
        · exact hN.out j h1 h
        · obtain rfl : j = k := by omega
          exact e
      generalize L[k] = u at c0 c1 hcall hfm hyes hno
      obtain ⟨A3, n3, c3, hv3⟩ := hfm
      obtain ⟨uv, uk, uc⟩ := u
      simp only at hv3 c0 c1 hyes hno
      subst hv3
      simp only [tmV] at hcall
      have HC := keep hcall
      have HY := keep hyes
      have HNO := keep hno
      clear hcall hyes hno hBk
      have i1 : (k : Int) < (L.length : Int) := by omega
      have i2 : (k : Int) ≤ 1048576 := by omega
      go_wp2_with fail
      go_still_tail 5, (by kernel_rfl)
      change wpList _ _ _ _ _ wo.drew
      go_wp2_with fail
      refine HC.out.mono ?_
      rintro e w2 ⟨rfl, hb2⟩
      have hbn := hR.out.drew.trans (hb2.mono hR.out.size)
      by_cases he : uk = tk
      · rw [show decide (uk = tk) = true from decide_eq_true he]
        have HE := keep (HY.out he)
        clear he HY HNO HC
        go_wp2_with fail
        go_ret
        obtain ⟨k', hk', h1, h2⟩ := HE.out
        exact ⟨.inl ⟨k', hk', h1, by rw [h2]; rfl⟩, HB.out.trans (hbn.mono HB.out.size)⟩
      · rw [show decide (uk = tk) = false from decide_eq_false he]
        have HE := keep (HNO.out he)
        clear he HY HNO HC
        go_wp2_with fail
        go_roundw
        case rel => exact ⟨k + 1, by omega, by go_num, HE, keep hbn⟩
        case measure => simp [intOf]; omega
    · obtain rfl : k = L.length := by omega
      go_wp2_with fail
      go_ret
      refine ⟨.inr ⟨fun t ht => ?_, rfl⟩, HB.out.trans (hR.out.mono HB.out.size)⟩
      obtain ⟨j, hj, rfl⟩ := List.getElem_of_mem ht
      exact hN.out j hj hj
theorem cmpL_eqstep {T S : List ByteArray} {k : Nat} (h1 : k < T.length) (h2 : k < S.length) (h : T[k] = S[k]) : cmpL (strs (T.drop k)) (strs (S.drop k)) = cmpL (strs (T.drop (k + 1))) (strs (S.drop (k + 1))) := cmpL_step h1 h2 (by rw [h]; exact cmpB_eq.2 rfl)
theorem cmpL_nestep {T S : List ByteArray} {k : Nat} (h1 : k < T.length) (h2 : k < S.length) (h : T[k] ≠ S[k]) : decide (cmpL (strs (T.drop k)) (strs (S.drop k)) < 0) = decide (lb T[k] < lb S[k]) := by
  rw [cmpL_stop h1 h2 (fun e => h (lb_inj (cmpB_eq.1 e))), Bool.eq_iff_iff, decide_eq_true_iff, decide_eq_true_iff, cmpB_lt]
set_option maxHeartbeats 4000000 in
set_option maxRecDepth 100000 in
/-- The order of templates with different tokens. -/
theorem less_any (t u : Tm) (w : World) (h1 : TkR oB w t) (h2 : TkR oB w u) (hne : t.tk ≠ u.tk) :
    Calls Tryz.prog 45 #[.agg (tmV t).toArray, .agg (tmV u).toArray] w fun e w' => e = .returned (.bool (decide (cmpT (strs t.tk) (strs u.tk) < 0))) ∧ Below w.heap.size w w' := by
  obtain ⟨A, n, c, hv⟩ := h1.form
  obtain ⟨A2, n2, c2, hv2⟩ := h2.form
  obtain ⟨tv, tk, ct⟩ := t
  obtain ⟨uv, uk, cu⟩ := u
  simp only at hv hv2 hne
  subst hv
  subst hv2
  have hl1 := h1.2
  have hl2 := h2.2
  obtain rfl : n = tk.length := by obtain ⟨_, _, _, hv, _⟩ := h1.1; injection hv
  obtain rfl : n2 = uk.length := by obtain ⟨_, _, _, hv, _⟩ := h2.1; injection hv
  simp only at hl1 hl2
  simp only [tmV]
  have hbA : Below w.heap.size w ((w.alloc (.cells #[.slice A tk.length c, .int .i64 ct] 32)).alloc (.cells #[.slice A2 uk.length c2, .int .i64 cu] 32)) := ((Below.refl _ w).alloc (Nat.le_refl _) _).alloc (by simp) _
  have hB1 : Blk ((w.alloc (.cells #[.slice A tk.length c, .int .i64 ct] 32)).alloc (.cells #[.slice A2 uk.length c2, .int .i64 cu] 32)) w.heap.size 32 #[.slice A tk.length c, .int .i64 ct] := (Blk.new w _ _).alloc _
  have hB2 : Blk ((w.alloc (.cells #[.slice A tk.length c, .int .i64 ct] 32)).alloc (.cells #[.slice A2 uk.length c2, .int .i64 cu] 32)) (w.heap.size + 1) 32 #[.slice A2 uk.length c2, .int .i64 cu] := by
    have := Blk.new (w.alloc (.cells #[.slice A tk.length c, .int .i64 ct] 32)) 32 #[.slice A2 uk.length c2, .int .i64 cu]
    simpa using this
  have hs1 := (h1.1.strUp hbA).str
  have hs2 := (h2.1.strUp hbA).str
  simp only at hs1 hs2
  obtain ⟨w1, hw1⟩ : ∃ w1, w1 = (w.alloc (.cells #[.slice A tk.length c, .int .i64 ct] 32)).alloc (.cells #[.slice A2 uk.length c2, .int .i64 cu] 32) := ⟨_, rfl⟩
  rw [← hw1] at hbA hB1 hB2 hs1 hs2
  obtain ⟨q, hq⟩ : ∃ q, decide (cmpT (strs tk) (strs uk) < 0) = q := ⟨_, rfl⟩
  rw [hq]
  have l1 := hB1.lt
  have l2 := hB2.lt
  have HW := keep hw1
  have HB := keep hbA
  have HQ := keep hq
  have HNE := keep hne
  clear h1 h2 hw1 hbA hq hne
  by_cases hl : tk.length = uk.length
  · have HL := keep hl
    have hl' : ((tk.length : Int) != (uk.length : Int)) = false := by simp [hl]
    have hqq : decide (cmpL (strs tk) (strs uk) < 0) = q := by
      rw [← HQ.out]
      unfold cmpT
      rw [strs_len, strs_len, if_pos (cmpI_eq.2 (by rw [hl]))]
    have HQQ := keep hqq
    clear hl hqq
    have c0 : w1.cell? ⟨w.heap.size, 0, none⟩ = some (.slice A tk.length c) := (hB1.cell 0).trans rfl
    have d0 : w1.cell? ⟨w.heap.size + 1, 0, none⟩ = some (.slice A2 uk.length c2) := (hB2.cell 0).trans rfl
    have c00 := c0
    rw [HW.out] at c0 d0
    go_enter Tryz.func45, Tryz.ntmps45
    go_wp2_with fail
    rw [← HW.out]
    clear hl' c0 d0 c00
    go_loopw [5] (fun i wr => ∃ k : Nat, k ≤ tk.length ∧ i = .int .i64 k ∧ Hid (tk.take k = uk.take k) ∧ Hid (cmpL (strs tk) (strs uk) = cmpL (strs (tk.drop k)) (strs (uk.drop k))) ∧ Hid (Below w1.heap.size w1 wr)) (fun i _ => tk.length - (intOf i).toNat)
    case atStart => exact ⟨0, Nat.zero_le _, rfl, keep rfl, keep rfl, keep (Below.refl _ _)⟩
    case round =>
      obtain ⟨k, hk, rfl, hI, hE, hR⟩ := hrel
      obtain ⟨wo, rfl⟩ : ∃ wo : World, wo = wr := ⟨_, rfl⟩
      have c0 : wo.cell? ⟨w.heap.size, 0, none⟩ = some (.slice A tk.length c) := ((hB1.below hR.out l1).cell 0).trans rfl
      have d0 : wo.cell? ⟨w.heap.size + 1, 0, none⟩ = some (.slice A2 uk.length c2) := ((hB2.below hR.out l2).cell 0).trans rfl
      by_cases hlt : k < tk.length
      · have hlt2 : k < uk.length := by rw [← HL.out]; exact hlt
        obtain ⟨b, o, rfl, _, c1⟩ := str_at (hs1.below hR.out (Nat.le_refl _)) hlt
        obtain ⟨b2, o2, rfl, _, d1⟩ := str_at (hs2.below hR.out (Nat.le_refl _)) hlt2
        have hst : tk[k] = uk[k] → tk.take (k + 1) = uk.take (k + 1) := fun e => by rw [List.take_succ_eq_append_getElem hlt, List.take_succ_eq_append_getElem hlt2, hI.out, e]
        have hs := cmpL_eqstep hlt hlt2
        have hn := cmpL_nestep hlt hlt2
        have hbb := beq_lb tk[k] uk[k]
        have hbl := bless tk[k] uk[k]
        have hinj : lb tk[k] = lb uk[k] → tk[k] = uk[k] := lb_inj
        generalize tk[k] = x at c1 hst hs hn hbb hbl hinj
        generalize uk[k] = y at d1 hst hs hn hbb hbl hinj
        have HST := keep hst
        have HS := keep hs
        have HN := keep hn
        have i1 : (k : Int) < (tk.length : Int) := by omega
        have i2 : (k : Int) < (uk.length : Int) := by omega
        have i3 : (k : Int) ≤ 1048576 := by omega
        clear hst hs hn
        by_cases he : x = y
        · subst he
          have HM := keep (HST.out rfl)
          have HM2 := keep (hE.out.trans (HS.out rfl))
          clear hbb hinj hbl HST HS HN
          go_wp2_with fail
          go_region
          all_goals go_wp2_with fail
          all_goals go_roundw
          case rel => exact ⟨k + 1, by omega, by go_num, HM, HM2, keep hR.out.drew⟩
          case measure => simp [intOf]; omega
        · have hq2 : (x.toList == y.toList) = false := by rw [hbb]; exact decide_eq_false fun e => he (hinj e)
          have hm : Op.bytesLess x.toList y.toList = q := by rw [hbl, ← HN.out he, ← hE.out, HQQ.out]
          clear hbb hinj hbl HST HS HN he
          go_wp2_with fail
          go_region
          all_goals go_wp2_with fail
          all_goals go_region
          all_goals go_wp2_with fail
          all_goals go_ret
          all_goals exact ⟨rfl, HB.out.trans ((hR.out.drew.drew).mono HB.out.size)⟩
      · obtain rfl : k = tk.length := by omega
        exfalso
        have := hI.out
        rw [List.take_length, HL.out, List.take_length] at this
        exact HNE.out this
  · have hl' : ((tk.length : Int) != (uk.length : Int)) = true := by simp; omega
    have hqq : decide ((tk.length : Int) < (uk.length : Int)) = q := by
      rw [← HQ.out]
      unfold cmpT
      rw [strs_len, strs_len, if_neg (fun e => hl (by have := cmpI_eq.1 e; omega)), Bool.eq_iff_iff, decide_eq_true_iff, decide_eq_true_iff, cmpI_lt]
    have c0 : w1.cell? ⟨w.heap.size, 0, none⟩ = some (.slice A tk.length c) := (hB1.cell 0).trans rfl
    have d0 : w1.cell? ⟨w.heap.size + 1, 0, none⟩ = some (.slice A2 uk.length c2) := (hB2.cell 0).trans rfl
    rw [HW.out] at c0 d0
    have hqn : decide (tk.length < uk.length) = q := by rw [← hqq]; simp
    have HQN := keep hqn
    clear hl hqq hqn
    go_enter Tryz.func45, Tryz.ntmps45
    go_wp2_with fail
    go_ret
    exact ⟨ret_bool HQN.out, HW.out ▸ HB.out⟩
end Go.Proofs.YtigogjlbemkhdaaGreat
