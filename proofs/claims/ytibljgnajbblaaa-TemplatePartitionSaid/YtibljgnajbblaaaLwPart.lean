/- TemplatePartition: the walk of the statement. -/
import Derived.Test.YtibljgnajbblaaaFind14
import Derived.StillTailTactics
namespace Go.Proofs.Ytibljgnajbblaaa
open Go.RowKit

theorem elI : Elem Try.prog 42 3 1 8 (.int .i64 0) := ⟨Try.underlying42, by kernel_rfl, rfl, by decide⟩
/-- How many lines fit a template. -/
def nF (r : TP) (P : List TP) : Nat := (P.filter fun t => fitA r t.1).length
theorem nF_snoc (r : TP) (P : List TP) (U : List (List UInt8)) : nF r (P ++ [(U, 1)]) = nF r P + if fitA r U = true then 1 else 0 := by
  unfold nF
  rw [List.filter_append, List.length_append]
  cases h : fitA r U <;> simp [h]
def CL (R : List Tm) (P : List TP) : List Int := R.map fun t => ((nF (strs t.tk, t.ct) P : Nat) : Int)
theorem CL_len (R : List Tm) (P : List TP) : (CL R P).length = R.length := by simp [CL]
theorem CL_nil (R : List Tm) : (CL R []).map (Value.int .i64) = List.replicate R.length (.int .i64 0) := by
  induction R with
  | nil => rfl
  | cons t R ih =>
    simp only [CL, List.map_cons, List.length_cons, List.replicate_succ] at ih ⊢
    rw [ih]
    rfl
theorem CL_step {R : List Tm} {P : List TP} {U : List ByteArray} {k : Nat} (hk : k < R.length) (h1 : fitB R[k].tk U = true) (h2 : ∀ i, (hi : i < R.length) → fitB R[i].tk U = true → i = k) : (CL R P).set k ((CL R P)[k]'(by rw [CL_len]; exact hk) + 1) = CL R (P ++ [(strs U, 1)]) := by
  apply List.ext_getElem
  · simp [CL_len]
  · intro i hi hi'
    rw [CL_len] at hi'
    rw [List.getElem_set]
    by_cases e : k = i
    · subst e
      rw [if_pos rfl]
      simp only [CL, List.getElem_map]
      rw [nF_snoc, ← fitB_fitA, if_pos h1]
      omega
    · rw [if_neg e]
      simp only [CL, List.getElem_map]
      rw [nF_snoc, ← fitB_fitA, if_neg (fun h => e (h2 i hi' h).symm)]
      rfl
theorem uniq_fit {α : Type} {q : α → Bool} : ∀ {L : List α}, (L.filter q).length = 1 → ∀ i k, (hi : i < L.length) → (hk : k < L.length) → q L[i] = true → q L[k] = true → i = k
  | [], h, _, _, hi, _, _, _ => by simp at hi
  | x :: L, h, i, k, hi, hk, qi, qk => by
    cases hx : q x with
    | true =>
      rw [List.filter_cons_of_pos hx] at h
      have h0 : L.filter q = [] := List.eq_nil_of_length_eq_zero (by simpa using h)
      have hno : ∀ y ∈ L, q y = false := fun y hy => by
        cases hq : q y with
        | false => rfl
        | true =>
          have : y ∈ L.filter q := List.mem_filter.2 ⟨hy, hq⟩
          rw [h0] at this
          cases this
      have key : ∀ j, (hj : j < (x :: L).length) → q (x :: L)[j] = true → j = 0 := fun j hj qj => by
        cases j with
        | zero => rfl
        | succ j =>
          rw [List.getElem_cons_succ] at qj
          rw [hno _ (List.getElem_mem _)] at qj
          cases qj
      rw [key i hi qi, key k hk qk]
    | false =>
      rw [List.filter_cons_of_neg (by rw [hx]; simp)] at h
      cases i with
      | zero => rw [List.getElem_cons_zero, hx] at qi; cases qi
      | succ i =>
        cases k with
        | zero => rw [List.getElem_cons_zero, hx] at qk; cases qk
        | succ k =>
          rw [List.getElem_cons_succ] at qi qk
          rw [uniq_fit h i k (by simpa using hi) (by simpa using hk) qi qk]
theorem lnT_bnd {S : List ByteArray} : ∀ t ∈ lnT S, 1 ≤ t.1.length ∧ t.1.length ≤ 60 ∧ t.2 = 1 := fun t ht => by
  obtain ⟨s, _, hs⟩ := List.mem_filterMap.1 ht
  cases ho : toks s with
  | none => rw [ho] at hs; cases hs
  | some U =>
    rw [ho] at hs
    have e : (strs U, (1 : Int)) = t := Option.some.inj hs
    have h := toks_eq s
    rw [ho] at h
    have h2 := tokW_ok h.symm
    rw [← e]
    exact ⟨h2.1, h2.2.1, rfl⟩
theorem one_fits {S : List ByteArray} {R : List Tm} (hP : (tpL R).Perm (ofA (lnT S))) (hS : S.length ≤ 100000) {s : ByteArray} (hs : s ∈ S) {U : List ByteArray} (hU : toks s = some U) : (R.filter fun t => fitB t.tk U).length = 1 := by
  have hm : (strs U, (1 : Int)) ∈ lnT S := List.mem_filterMap.2 ⟨s, hs, by rw [hU]; rfl⟩
  have hl : (lnT S).length ≤ FUEL := Nat.le_trans (List.length_filterMap_le _ _) hS
  have h := (ofA_fits (fun t ht => ⟨(lnT_bnd t ht).1, (lnT_bnd t ht).2.1, by rw [(lnT_bnd t ht).2.2]; exact Int.le_refl 1⟩) hl).1 _ hm
  rw [← (hP.filter _).length_eq] at h
  unfold tpL at h
  rw [List.filter_map, List.length_map] at h
  rw [← h]
  congr 1
  apply List.filter_congr
  intro t _
  exact fitB_fitA t U
theorem sumC_ones : ∀ P : List TP, (∀ t ∈ P, t.2 = 1) → sumC P = (P.length : Int)
  | [], _ => rfl
  | t :: P, h => by
    have ih := sumC_ones P fun x hx => h x (by simp [hx])
    unfold sumC at ih ⊢
    rw [List.map_cons, List.sum_cons, ih, h t (by simp), List.length_cons]
    omega
theorem count_fits {S : List ByteArray} {R : List Tm} (hP : (tpL R).Perm (ofA (lnT S))) (hS : S.length ≤ 100000) : ∀ t ∈ R, t.ct = ((nF (strs t.tk, t.ct) (lnT S) : Nat) : Int) := fun t ht => by
  have hl : (lnT S).length ≤ FUEL := Nat.le_trans (List.length_filterMap_le _ _) hS
  have hm : (strs t.tk, t.ct) ∈ ofA (lnT S) := hP.mem_iff.1 (List.mem_map.2 ⟨t, ht, rfl⟩)
  have h := (ofA_fits (fun t ht => ⟨(lnT_bnd t ht).1, (lnT_bnd t ht).2.1, by rw [(lnT_bnd t ht).2.2]; exact Int.le_refl 1⟩) hl).2 _ hm
  simp only at h
  have h2 := List.length_filter_le (fun u => fitA (strs t.tk, t.ct) u.1) (lnT S)
  rw [sumC_ones _ (fun u hu => (lnT_bnd u (List.mem_filter.1 hu).1).2.2)] at h
  unfold nF
  unfold sat MAXI at h
  unfold FUEL at hl
  omega
theorem srt_at {R : List Tm} (h : Srt (tpL R)) {i j : Nat} (hij : i + 1 = j) (hj : j < R.length) : cmpO (R[i]'(by omega)) R[j] < 0 := by
  have h1 := List.pairwise_iff_getElem.1 h i j (by simp [tpL]; omega) (by simpa [tpL] using hj) (by omega)
  simp only [tpL, List.getElem_map] at h1
  rw [cmpO_cmpT, if_neg (fun e => by omega)]
  exact h1
theorem fitN_len {T U : List ByteArray} {n : Nat} (h : fitN T U n = true) : T.length = U.length := by
  unfold fitN at h
  rw [Bool.and_eq_true, decide_eq_true_eq] at h
  exact h.1
theorem nF_le (r : TP) (P : List TP) : nF r P ≤ P.length := List.length_filter_le _ _
theorem fit_take {R : List Tm} {U : List ByteArray} {i : Nat} (hi : i < R.length) : ((R.take (i + 1)).filter fun t => fitB t.tk U).length = ((R.take i).filter fun t => fitB t.tk U).length + if fitB R[i].tk U = true then 1 else 0 := by
  rw [List.take_succ_eq_append_getElem hi, List.filter_append, List.length_append]
  cases h : fitB R[i].tk U <;> simp [h]
theorem wpStill_want {P : Program} {ops : Array Oper} {w : World} {Q : Act → Prop} {a : Act} {o : Oper} {rest : List Oper} (hw : Region.wanted o (yielded ops a.tmps) = true) (h : ∀ K : Act → Prop, (∀ a, wpStill P ops w Q rest a → K a) → o.still P a w K) : wpStill P ops w Q (o :: rest) a :=
  wpStill_step fun K hK => by rw [if_pos hw]; exact h K hK
/-- The counts' row. -/
def Cnt (W0 wr : World) (g : Nat) (R : List Tm) (P : List TP) : Prop := wr.ownsRow W0.heap.size 3 1 (.slice (some ⟨g, 0, none⟩) R.length R.length) R.length ((CL R P).map (.int .i64))
set_option maxHeartbeats 16000000 in
set_option maxRecDepth 100000 in
theorem law_part (vc : Value) (bs : List Int) (w : World)
    (hsc : Sl w (lt w.heap.size) 1 vc bs.length (bs.map (.int .u8))) (hr : ∀ x ∈ bs, 0 ≤ x ∧ x ≤ 255) (hm : bs.length ≤ maxLen) :
    Calls Try.prog 7 #[vc] w fun e w' => e = .returned (.bool true) ∧ Below w.heap.size w w' := by
  go_enter Try.func7, Try.ntmps7
  go_wp2_with fail
  refine (awake_true _).mono ?_
  rintro e w1 ⟨rfl, hb1'⟩
  have hS1 := hsc.upW hb1'
  clear hsc
  go_wp2_with fail
  refine (drawNew _ bs 200 _ hS1 hr (by omega) hm).mono ?_
  rintro e w2 ⟨gc, rfl, hgc, hC2, hb2⟩
  have hbw2 := bchain hb1' hb2
  have hgl := hC2.lt_
  have hz1 := hb1'.size
  clear hS1 hb1' hb2
  go_wp2_with fail
  refine (lines_any gc 24 _ hC2 (by omega)).mono ?_
  rintro e w3 ⟨vl, S, rfl, hSl, hSz, hV, _, hg3⟩
  obtain ⟨A2, c2, rfl, hc2⟩ := own_sl hV
  have hb3 : Below w.heap.size w w3 := below_grown hbw2 hg3 hbw2.size (by omega)
  have HV := keep (own_str hV)
  have HSZ := keep hSz
  have HB3 := keep hb3
  have HML := keep (mineL_any (.slice A2 S.length c2) S w3 (own_str hV).str (fun s hs => by have := hSz s hs; omega) (by omega))
  have hl := fun (w : World) => run_len_slice (P := Try.prog) w 22 3 A2 S.length c2 (by kernel_rfl)
  clear hV hSz hg3 hb3 hC2 hbw2 hc2
  go_wp2_with fail
  refine HML.out.mono ?_
  rintro e W ⟨vr, R, rfl, hR, hRt, hRp, hRs, hRl, hbR⟩
  obtain ⟨AR, cR, rfl, _⟩ := own_sl hR
  have HMS := keep (show MS W (.slice AR R.length cR) R from ⟨Sl.of_own hR, fun t ht => (hRt t ht).r⟩)
  have HP := keep hRp
  have HSR := keep hRs
  have HVW := keep (HV.out.strUp hbR)
  have HBW := keep (HB3.out.trans (hbR.mono HB3.out.size))
  have hRl2 : R.length ≤ 24 := by omega
  clear hR hRt hRp hRs hbR HML HV
  go_wp2_with (refine wpList_make elI rfl rfl _ _ rfl _ _ _ _ R.length rfl rfl rfl rfl (by omega) (by unfold maxLen; omega) ?_; intro W0 hown0 hb0 hs0)
  obtain ⟨g, hg⟩ : ∃ g, W.heap.size = g := ⟨_, rfl⟩
  have HC0 : Hid (Cnt W W0 g R (lnT (S.take 0))) := keep (by
    unfold Cnt
    rw [List.take_zero, show lnT [] = [] from rfl, CL_nil, ← hg]
    exact hown0)
  rw [hg]
  have HB0 := keep hb0
  have HG := keep hg
  clear hown0 hb0 hs0 hg
  go_wp2_with fail
  clear hl
  go_loopw [30] (fun u30 wr => ∃ j : Nat, j ≤ S.length ∧ u30 = .int .i64 j ∧ Hid (Cnt W wr g R (lnT (S.take j))) ∧ Hid (Below W.heap.size W wr)) (fun u30 _ => S.length - (intOf u30).toNat)
  case atStart => exact ⟨0, Nat.zero_le _, rfl, HC0, HB0⟩
  case round =>
    obtain ⟨j, hj, rfl, hC, hB⟩ := hrel
    obtain ⟨wo, rfl⟩ : ∃ wo : World, wo = wr := ⟨_, rfl⟩
    by_cases hlt : j < S.length
    · obtain ⟨b, o, rfl, hb, q0⟩ := str_at (HVW.out.strUp hB.out) hlt
      obtain ⟨s, hs⟩ : ∃ s, S[j] = s := ⟨_, rfl⟩
      have hsm : s ∈ S := hs ▸ List.getElem_mem hlt
      have hsz : s.size ≤ 1000 := HSZ.out _ hsm
      have htk : S.take (j + 1) = S.take j ++ [s] := by rw [List.take_succ_eq_append_getElem hlt, hs]
      rw [hs] at q0
      have HTOK := keep (tokens_any s wo (by omega))
      have HFIND := keep fun W' (h : Below wo.heap.size wo W') => find_any (.slice AR R.length cR) R s W' ((HMS.out.up hB.out).up h) (by omega) (by omega)
      have i1 : (j : Int) < (S.length : Int) := by omega
      have i2 : (j : Int) ≤ 24 := by omega
      have HTAKE := keep htk
      have HONE := keep (fun U h => one_fits HP.out (by omega) hsm (U := U) h)
      clear hs hb htk hsm
      go_wp2_with fail
      refine HTOK.out.mono ?_
      rintro e w5 ⟨tv, U, rfl, hU, hU6, hown5, hb5⟩
      obtain ⟨UA, UC, rfl, _⟩ := own_sl hown5
      have HF5 := keep (HFIND.out w5 hb5)
      have HO5 := keep (own_str hown5)
      have HB5 := keep (hB.out.trans (hb5.mono hB.out.size))
      have HC5 : Hid (Cnt W w5 g R (lnT (S.take j))) := keep (own_bel hC.out hb5)
      clear hown5 hb5 HTOK HFIND hC hB q0
      cases ho : toks s with
      | none =>
        have HN : Hid (lnT (S.take (j + 1)) = lnT (S.take j)) := keep (by rw [HTAKE.out, lnT_none ho])
        rw [ho] at HF5
        simp only [Option.isSome]
        clear hU
        go_wp2_with fail
        refine HF5.out.mono ?_
        rintro e w6 ⟨k, ok, rfl, hb6, hok⟩
        subst hok
        have HB6 := keep (HB5.out.trans (hb6.mono HB5.out.size))
        have HC6 : Hid (Cnt W w6 g R (lnT (S.take (j + 1)))) := keep (by rw [HN.out]; exact own_bel HC5.out hb6)
        have hbf : (false != false) = false := rfl
        clear hb6
        go_wp2_with fail
        go_roundw
        case rel => exact ⟨j + 1, by omega, by go_num, HC6, HB6⟩
        case measure => simp [intOf]; omega
      | some U2 =>
        have hU2 : U = U2 := by rw [hU, ho]; rfl
        subst hU2
        have HN : Hid (lnT (S.take (j + 1)) = lnT (S.take j) ++ [(strs U, 1)]) := keep (by rw [HTAKE.out, lnT_some ho])
        have HUQ : Hid ((R.filter fun t => fitB t.tk U).length = 1) := keep (HONE.out U ho)
        rw [ho] at HF5
        simp only [Option.isSome]
        clear hU
        go_wp2_with fail
        refine HF5.out.mono ?_
        rintro e w6 ⟨k, ok, rfl, hb6, hok⟩
        have hok' : ok = true ∧ ∃ h : k < R.length, fitB R[k].tk U = true := by
          rcases hok with ⟨_, hno⟩ | ⟨h1, h2, h3, _⟩
          · exfalso
            have h := HUQ.out
            rw [List.filter_eq_nil_iff.2 (fun t ht => by rw [hno t ht]; simp)] at h
            simp at h
          · exact ⟨h1, h2, h3⟩
        obtain ⟨rfl, hkR, hkf⟩ := hok'
        have HKF := keep hkf
        have HB6 := keep (HB5.out.trans (hb6.mono HB5.out.size))
        have HC6 : Hid (Cnt W w6 g R (lnT (S.take j))) := keep (own_bel HC5.out hb6)
        have HO6 := keep (HO5.out.strUp hb6)
        have hbf : (true != true) = false := rfl
        clear hb6 hok hkf HF5 HC5 HB5 HO5
        go_wp2_with fail
        go_loopw [12, 52] (fun u12 u52 wr => ∃ i f : Nat, i ≤ R.length ∧ f ≤ i ∧ u52 = .int .i64 i ∧ u12 = .int .i64 f ∧ Hid (f = ((R.take i).filter fun t => fitB t.tk U).length) ∧ Hid (Below w6.heap.size w6 wr)) (fun _ u52 _ => R.length - (intOf u52).toNat)
        case atStart => exact ⟨0, 0, Nat.zero_le _, Nat.le_refl _, rfl, rfl, keep rfl, keep (Below.refl _ _)⟩
        case round =>
          obtain ⟨i, f, hi, hfi, rfl, rfl, hf, hBi⟩ := hrel
          obtain ⟨wi, rfl⟩ : ∃ wi : World, wi = wr := ⟨_, rfl⟩
          by_cases hlt2 : i < R.length
          · have hms := (HMS.out.up HB6.out).up hBi.out
            obtain ⟨b1, o1, hAe, _, d0, d1⟩ := tm_cells hms.1 hlt2
            subst hAe
            have htr := hms.2 _ (List.getElem_mem hlt2)
            have HTKN0 := fit_take (U := U) hlt2
            rw [← hf.out] at HTKN0
            obtain ⟨t, ht⟩ : ∃ t, R[i] = t := ⟨_, rfl⟩
            rw [ht] at d0 d1 htr HTKN0
            have HTKN := keep HTKN0
            clear ht HTKN0 hms
            obtain ⟨tv, T, ct⟩ := t
            obtain ⟨ya, yn, yc, hyv⟩ := htr.form
            simp only at hyv
            subst hyv
            have hyn : yn = T.length := by obtain ⟨_, _, _, hv, _⟩ := htr.1; injection hv
            subst hyn
            have hal : Below wi.heap.size wi (wi.alloc (.cells #[.slice ya T.length yc, .int .i64 ct] 33)) := (Below.refl _ wi).alloc (Nat.le_refl _) _
            have HAL := keep hal
            have HBX := keep (Blk.new wi 33 #[.slice ya T.length yc, .int .i64 ct])
            have HTT := keep (htr.up hal).1
            have HUU := keep ((HO6.out.strUp hBi.out).strUp hal)
            obtain ⟨b0, hb0⟩ : ∃ b0, ((T.length : Int) == (U.length : Int)) = b0 := ⟨_, rfl⟩
            have HF0 : Hid (b0 = fitN T U 0) := keep (by
              rw [fitN_zero, ← hb0, Bool.eq_iff_iff, beq_iff_eq, decide_eq_true_eq]
              omega)
            have k1 : (i : Int) < (R.length : Int) := by omega
            have k2 : (i : Int) ≤ 24 := by omega
            have k3 : (f : Int) ≤ 24 := by omega
            clear hal htr
            go_wp2_with fail
            clear hb0
            go_loopw [15, 16] (fun u15 u16 wr => ∃ (q : Nat) (bb : Bool), q ≤ U.length ∧ u16 = .int .i64 q ∧ u15 = .bool bb ∧ Hid (bb = fitN T U q) ∧ Hid (Below (wi.alloc (.cells #[.slice ya T.length yc, .int .i64 ct] 33)).heap.size (wi.alloc (.cells #[.slice ya T.length yc, .int .i64 ct] 33)) wr)) (fun _ u16 _ => U.length - (intOf u16).toNat)
            case atStart => exact ⟨0, b0, Nat.zero_le _, rfl, rfl, HF0, keep (Below.refl _ _)⟩
            case round =>
              obtain ⟨q, bb, hq, rfl, rfl, hbb, hBl⟩ := hrel
              obtain ⟨wl, rfl⟩ : ∃ wl : World, wl = wr := ⟨_, rfl⟩
              cases bb with
              | false =>
                have HFB : Hid (fitB T U = false) := keep (fitN_mono hbb.out.symm hq)
                have HFI : Hid (f = ((R.take (i + 1)).filter fun t => fitB t.tk U).length) := keep (by rw [HTKN.out, HFB.out]; simp)
                have HB9 := keep (hBi.out.trans ((HAL.out.trans (hBl.out.mono HAL.out.size)).mono hBi.out.size))
                go_wp2_with fail
                go_roundw
                case rel => exact ⟨i + 1, f, by omega, by omega, by go_num, rfl, HFI, HB9⟩
                case measure => simp [intOf]; omega
              | true =>
                by_cases hqU : q < U.length
                · have hTU := fitN_len hbb.out.symm
                  have hqT : q < T.length := by omega
                  obtain ⟨e0, e1⟩ := (HBX.out.below hBl.out HBX.out.lt).cell2
                  obtain ⟨b2, o2, rfl, _, p0⟩ := str_at (HTT.out.strUp hBl.out) hqT
                  obtain ⟨b3, o3, rfl, _, p1⟩ := str_at (HUU.out.strUp hBl.out) hqU
                  have HS := keep (fitN_succ hqT hqU)
                  obtain ⟨x, hx⟩ : ∃ x, T[q] = x := ⟨_, rfl⟩
                  obtain ⟨y, hy⟩ : ∃ y, U[q] = y := ⟨_, rfl⟩
                  rw [hx] at p0 HS
                  rw [hy] at p1 HS
                  have q1 : (q : Int) < (U.length : Int) := by omega
                  have q2 : (q : Int) < (T.length : Int) := by omega
                  have q3 : (q : Int) ≤ 60 := by omega
                  clear hx hy hTU
                  cases hx0 : (x.toList == ([] : List UInt8)) with
                  | true =>
                    have HB7 : Hid (true = fitN T U (q + 1)) := keep (by rw [HS.out, ← hbb.out]; unfold ef; rw [hx0]; rfl)
                    go_wp2_with fail
                    go_quiet (fail)
                    have HBq := keep (below_drewN hBl.out nq)
                    go_wp2_with fail
                    go_roundw
                    case rel => exact ⟨q + 1, true, by omega, by go_num, rfl, HB7, HBq⟩
                    case measure => simp [intOf]; omega
                  | false =>
                    obtain ⟨bz, hbz⟩ : ∃ bz, (x.toList == y.toList) = bz := ⟨_, rfl⟩
                    have HB7 : Hid (bz = fitN T U (q + 1)) := keep (by rw [HS.out, ← hbb.out]; unfold ef; rw [hx0, hbz]; rfl)
                    go_wp2_with fail
                    go_quiet (fail)
                    have HBq := keep (below_drewN hBl.out nq)
                    go_wp2_with fail
                    go_roundw
                    case rel => exact ⟨q + 1, bz, by omega, by go_num, rfl, HB7, HBq⟩
                    case measure => simp [intOf]; omega
                · have HFB : Hid (fitB T U = true) := keep (by
                    have : q = U.length := by omega
                    unfold fitB
                    rw [← this]
                    exact hbb.out.symm)
                  have HFI : Hid (f + 1 = ((R.take (i + 1)).filter fun t => fitB t.tk U).length) := keep (by rw [HTKN.out, HFB.out]; simp)
                  have HB9 := keep (hBi.out.trans ((HAL.out.trans (hBl.out.mono HAL.out.size)).mono hBi.out.size))
                  go_wp2_with fail
                  go_roundw
                  case rel => exact ⟨i + 1, f + 1, by omega, by omega, by go_num, by go_num, HFI, HB9⟩
                  case measure => simp [intOf]; omega
          · obtain rfl : i = R.length := by omega
            have hf1 : f = 1 := by
              have h := hf.out
              rw [List.take_length] at h
              rw [h]
              exact HUQ.out
            subst hf1
            have hz := nF_le (strs R[k].tk, R[k].ct) (lnT (S.take j))
            have hzl : (lnT (S.take j)).length ≤ 24 := by
              have h1 : (lnT (S.take j)).length ≤ (S.take j).length := List.length_filterMap_le _ _
              rw [List.length_take] at h1
              omega
            obtain ⟨z, hzz⟩ : ∃ z : Nat, z = nF (strs R[k].tk, R[k].ct) (lnT (S.take j)) := ⟨_, rfl⟩
            rw [← hzz] at hz
            have hCr : Cnt W wi g R (lnT (S.take j)) := own_bel HC6.out hBi.out
            have hkC : k < (CL R (lnT (S.take j))).length := by rw [CL_len]; exact hkR
            have hgk : (CL R (lnT (S.take j)))[k] = (z : Int) := by
              simp only [CL, List.getElem_map]
              rw [hzz]
            have ck : wi.cell? ⟨g, k, none⟩ = some (.int .i64 (z : Int)) := by
              rw [own_cell hCr rfl k (by omega), List.getElem?_map, List.getElem?_eq_getElem hkC, hgk]
              rfl
            have fk : wi.frozen? ⟨g, k, none⟩ = false := own_frozen hCr rfl k
            have hst := own_store hCr rfl k (.int .i64 ((z : Int) + 1))
            have hset : ((CL R (lnT (S.take j))).map (Value.int .i64)).set k (.int .i64 ((z : Int) + 1)) = (CL R (lnT (S.take (j + 1)))).map (.int .i64) := by
              rw [← hgk, ← List.map_set, HN.out, CL_step hkR HKF.out (fun i hi h => uniq_fit HUQ.out i k hi hkR h HKF.out)]
            rw [hset] at hst
            have HST : Hid (Cnt W (wi.setCell ⟨g, k, none⟩ (.int .i64 ((z : Int) + 1))) g R (lnT (S.take (j + 1)))) := keep hst
            have hbW := HB6.out.trans (hBi.out.mono HB6.out.size)
            have HBW2 : Hid (Below W.heap.size W (wi.setCell ⟨g, k, none⟩ (.int .i64 ((z : Int) + 1)))) := keep (hbW.setCell (p := ⟨g, k, none⟩) (by rw [← HG.out]; exact Nat.le_refl _) _)
            have m1 : (k : Int) < (R.length : Int) := by omega
            have m2 : ¬ (R.length : Int) ≤ (k : Int) := by omega
            have m3 : (k : Int) ≤ 24 := by omega
            have m4 : (z : Int) ≤ 24 := by omega
            clear hz hzl hzz hCr hkC hgk hst hset hbW hf
            go_wp2_with fail
            go_roundw
            case rel => exact ⟨j + 1, by omega, by go_num, HST, HBW2⟩
            case measure => simp [intOf]; omega
    · obtain rfl : j = S.length := by omega
      have HC : Hid (Cnt W wo g R (lnT S)) := keep (by have h := hC.out; rwa [List.take_length] at h)
      have HCF := keep (count_fits HP.out (by omega))
      clear hC hlt hj
      go_wp2_with fail
      go_loopw [110] (fun u110 wr => ∃ i : Nat, i ≤ R.length ∧ u110 = .int .i64 i ∧ Hid (Below wo.heap.size wo wr)) (fun u110 _ => R.length - (intOf u110).toNat)
      case atStart => exact ⟨0, Nat.zero_le _, rfl, keep (Below.refl _ _)⟩
      case round =>
        obtain ⟨i, hi, rfl, hBi⟩ := hrel
        obtain ⟨wl, rfl⟩ : ∃ wl : World, wl = wr := ⟨_, rfl⟩
        by_cases hlt2 : i < R.length
        · have hms := (HMS.out.up hB.out).up hBi.out
          obtain ⟨b1, o1, hAe, _, d0, d1⟩ := tm_cells hms.1 hlt2
          subst hAe
          have htr := hms.2 _ (List.getElem_mem hlt2)
          have hcr : Cnt W wl g R (lnT S) := own_bel HC.out hBi.out
          have hiC : i < (CL R (lnT S)).length := by rw [CL_len]; exact hlt2
          have hgi : (CL R (lnT S))[i] = R[i].ct := by
            simp only [CL, List.getElem_map]
            exact (HCF.out _ (List.getElem_mem hlt2)).symm
          have ck : wl.cell? ⟨g, i, none⟩ = some (.int .i64 R[i].ct) := by
            rw [own_cell hcr rfl i (by omega), List.getElem?_map, List.getElem?_eq_getElem hiC, hgi]
            rfl
          obtain ⟨ct, hct⟩ : ∃ x, x = R[i].ct := ⟨_, rfl⟩
          rw [← hct] at ck d1
          obtain ⟨ya, yn, yc, hyv⟩ := htr.form
          rw [hyv] at d0
          have hcc : (ct != ct) = false := by simp
          have k1 : (i : Int) < (R.length : Int) := by omega
          have k2 : (i : Int) ≤ 24 := by omega
          have HYV := keep hyv
          have HCT := keep hct
          have HTR := keep htr
          clear hcr hiC hgi hct hyv htr
          by_cases h0 : i = 0
          · subst h0
            clear hms
            go_wp2_with fail
            go_quiet (fail)
            have HB9 := keep (below_drewN hBi.out nq)
            go_wp2_with fail
            go_roundw
            case rel => exact ⟨1, by omega, by go_num, HB9⟩
            case measure => simp [intOf]; omega
          · obtain ⟨j, hj⟩ : ∃ j, j + 1 = i := ⟨i - 1, by omega⟩
            have hjl : j < R.length := by omega
            obtain ⟨b2, o2, hA2, _, p0, p1⟩ := tm_cells hms.1 hjl
            injection hA2 with hA2
            injection hA2 with e1 e2
            subst e1
            subst e2
            have htr2 := hms.2 _ (List.getElem_mem hjl)
            obtain ⟨za, zn, zc, hzv⟩ := htr2.form
            obtain ⟨cz, hcz⟩ : ∃ x, x = R[j].ct := ⟨_, rfl⟩
            rw [hzv] at p0
            rw [← hcz] at p1
            have hless := less_any R[j] R[i] wl.drew htr2 HTR.out (srt_at HSR.out hj hlt2)
            have et : (tmV R[j]).toArray = #[.slice za zn zc, .int .i64 cz] := by unfold tmV; rw [hzv, ← hcz]
            have eu : (tmV R[i]).toArray = #[.slice ya yn yc, .int .i64 ct] := by unfold tmV; rw [HYV.out, ← HCT.out]
            rw [et, eu] at hless
            have HLESS := keep hless
            have hkj : (i : Int) - 1 = (j : Int) := by omega
            have hk1 : (0 : Int) < (i : Int) := by omega
            have hk2 : 0 < i := by omega
            have hjw : IntKind.i64.wrap (j : Int) = (j : Int) := IntWalk.i64_in _ (by omega)
            have hjI : (j : Int) < (R.length : Int) := by omega
            have hjn : (0 : Int) ≤ (j : Int) := by omega
            clear hms htr2 hzv hcz hless et eu hj
            go_upto_region 33 with fail
            go_cut [139] (fun q wd => q = .bool false ∧ Hid (Below wl.heap.size wl wd))
            case first =>
              refine wp_region_still_tail 23 (by kernel_rfl) (by kernel_rfl) ?_
              simp only [List.take_succ_cons, List.take_zero, List.drop_succ_cons, List.drop_zero]
              iterate 23 (refine wpStill_want (by kernel_rfl) (fun K hK => ?_); go_simp; apply hK; clear hK K)
              refine wpStill_nil ?_
              change wpList _ _ _ _ _ wl.drew
              go_wp2_with fail
              refine HLESS.out.mono ?_
              rintro e w9 ⟨rfl, hb9⟩
              have HB9 := keep (((Below.refl wl.heap.size wl).drew).trans hb9)
              clear hb9
              go_wp2_with fail
              go_meet
              case rel => exact ⟨rfl, HB9⟩
            case rest =>
              obtain ⟨rfl, hcb⟩ := hcut
              have HB9 := keep (hBi.out.trans (hcb.out.mono hBi.out.size))
              go_wp2_with fail
              go_roundw
              case rel => exact ⟨i + 1, by omega, by go_num, HB9⟩
              case measure => simp [intOf]; omega
        · obtain rfl : i = R.length := by omega
          have hbz := hB.out.trans (hBi.out.mono hB.out.size)
          have HBZ := keep (HBW.out.trans (hbz.mono HBW.out.size))
          clear hbz
          go_wp2_with fail
          go_ret
          exact ⟨rfl, HBZ.out⟩
end Go.Proofs.Ytibljgnajbblaaa
