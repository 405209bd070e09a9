/- template.at: the walk. -/
import Derived.Test.YtigogjlbemkhdaaGreatTmAt
import Derived.Outline
namespace Go.Proofs.YtigogjlbemkhdaaGreat
open Go.RowKit
variable {oB : Nat}
theorem cfh_neg {s : ByteArray} {t : Tm} : cfh s t < 0 ↔ hd1 t < lb s := by unfold cfh; exact cmpB_lt
theorem cfh_zero {s : ByteArray} {t : Tm} : cfh s t = 0 ↔ hd1 t = lb s := by unfold cfh; exact cmpB_eq
theorem cfh_mono {A : List Tm} {p : Nat} {l : List TP} {ws : List (List UInt8)} (h : AtW p l ws) (hl : A.length = ws.length) (hh : ∀ j, (hj : j < A.length) → (hj' : j < ws.length) → hd1 A[j] = ws[j]) (s : ByteArray) :
    ∀ a b, a ≤ b → b < A.length → cfAt_ts (cfh s) A b < 0 → cfAt_ts (cfh s) A a < 0 := by
  intro a b hab hb hn
  by_cases e : a = b
  · subst e; exact hn
  · rw [cfAt_ts_in hb, cfh_neg, hh b hb (by omega)] at hn
    rw [cfAt_ts_in (by omega), cfh_neg, hh a (by omega) (by omega)]
    exact List.lt_trans (List.pairwise_iff_getElem.1 h.1 a b (by omega) (by omega) (by omega)) hn
theorem tms_ins (A : List Tm) (i : Nat) (hi : i ≤ A.length) (t : Tm) : (tms A).take (i * 2) ++ [t.tv, .int .i64 t.ct] ++ (tms A).drop (i * 2) = tms (A.take i ++ t :: A.drop i) := by
  rw [tms_take A i hi, tms_drop A i hi, tms_append]
  simp [tms, tmV]
theorem tk_get {p : Nat} {t : Tm} (h : p < t.tk.length) : tkA p (strs t.tk, t.ct) = lb t.tk[p] := by
  unfold tkA strs
  simp [h]
theorem lb_tri2 {a b : List UInt8} (h : ¬ a < b) (h2 : a ≠ b) : b < a := Std.lt_of_le_of_ne (List.not_lt.1 h) (fun e => h2 e.symm)
set_option maxHeartbeats 1048576 in
set_option maxRecDepth 100000 in
theorem at_any (v : Value) (L : List Tm) (p : Nat) (w : World) (hs : Sl w (lt w.heap.size) 2 v L.length (tms L)) (hT : ∀ t ∈ L, TkR oB w t) (hp : ∀ t ∈ L, p < t.tk.length) (hc : CtOk L) (hm : L.length ≤ 100000) :
    Calls Tryz.prog 74 #[v, .int .i64 p] w (AtOut p (tpL L) w) := by
  obtain ⟨A0, c0, rfl, _, hs⟩ := hs.form
  have HS := keep hs
  have HT := keep hT
  have HP := keep hp
  have HC := keep hc
  have hp6 : (p : Int) ≤ 1048576 ∨ L.length = 0 := by
    rcases Nat.eq_zero_or_pos L.length with h | h
    · exact .inr h
    · have h1 := hp _ (List.getElem_mem h)
      have h2 := (hT _ (List.getElem_mem h)).2
      exact .inl (by omega)
  have HP6 := keep hp6
  have eg : ∀ args w, (callFunc 84 args).run Tryz.prog w = .ok (.enter 84 args) w := enters_of Tryz.func84 (by kernel_rfl) rfl
  have HEG := keep eg
  clear hs hT hp hc hp6 eg
  go_enter Tryz.func74, Tryz.ntmps74
  go_wp2_with fail
  go_loopw [5, 13] (fun u5 u13 wr => ∃ (k : Nat) (v : Value) (A : List Tm) (ws : List (List UInt8)), k ≤ L.length ∧ u13 = .int .i64 k ∧ u5 = v ∧ Hid (wr.ownsRow w.heap.size 32 2 v A.length (tms A)) ∧ Hid (∀ t ∈ A, TkO wr w.heap.size t) ∧ Hid (AtW p (tpL (L.take k)) ws) ∧ Hid (tpL A = aOf p (tpL (L.take k)) ws) ∧ Hid (A.length ≤ k) ∧ Hid (Below w.heap.size w wr)) (fun _ u13 _ => L.length - (intOf u13).toNat)
  case atStart => exact ⟨0, _, [], [], Nat.zero_le _, rfl, rfl, keep (World.ownsRow_nil _ _ _ _), keep (by simp), keep (AtW.nil p), keep rfl, keep (Nat.le_refl _), keep (Below.refl _ _)⟩
  case round =>
    obtain ⟨k, v, A, ws, hk, rfl, rfl, hO, hTk, hW, hE, hAl, hB⟩ := hrel
    obtain ⟨wo, rfl⟩ : ∃ wo : World, wo = wr := ⟨_, rfl⟩
    obtain ⟨VA, VC, rfl, _⟩ := own_sl hO.out
    by_cases hlt : k < L.length
    · obtain ⟨b, o, rfl, _, d0, d1⟩ := tm_cells (HS.out.below hB.out (Nat.le_refl _)) hlt
      have hct := HC.out _ (List.getElem_mem hlt)
      have htk := (HT.out _ (List.getElem_mem hlt)).up hB.out
      have hpl := HP.out _ (List.getElem_mem hlt)
      have htake := tpL_take hlt
      generalize L[k] = t at d0 d1 hct htk hpl htake
      obtain ⟨TA, TN, TC, htv⟩ := htk.form
      obtain ⟨tv, tk, ct⟩ := t
      simp only at d0 d1 hct hpl htv
      subst htv
      have hstr := htk.1.str
      simp only at hstr
      have hn : TN = tk.length := by obtain ⟨_, _, _, hv, _⟩ := hstr; injection hv
      subst hn
      obtain ⟨sb, so, rfl, hsb, s0⟩ := str_at hstr hpl
      have hgt : tkA p (strs tk, ct) = lb tk[p] := tk_get (t := ⟨.slice (some ⟨sb, so, none⟩) tk.length TC, tk, ct⟩) hpl
      generalize tk[p] = tok at s0 hgt
      have hal : Below wo.heap.size wo (wo.alloc (.cells #[.slice (some ⟨sb, so, none⟩) tk.length TC, .int .i64 ct] 32)) := (Below.refl _ wo).alloc (Nat.le_refl _) _
      have s1 : (wo.alloc (.cells #[.slice (some ⟨sb, so, none⟩) tk.length TC, .int .i64 ct] 32)).cell? ⟨sb, so + p, none⟩ = some (.string tok) := (hal.cell (p := ⟨sb, so + p, none⟩) hsb).trans s0
      have HX := keep (Blk.new wo 32 #[.slice (some ⟨sb, so, none⟩) tk.length TC, .int .i64 ct])
      have HOa := keep (own_bel hO.out hal)
      have HTa := keep (fun t ht => (hTk.out t ht).up hal)
      have HBa := keep (hB.out.trans (hal.mono hB.out.size))
      obtain ⟨hAW, hhd⟩ := tpL_hd hE.out hTk.out
      have HBS := keep (bsearch_ts 84 _ (.string tok) #[] (cfh tok) A _ HEG.out (Sl.of_own (own_bel hO.out hal)) (fun t ht W hW' => cmp_at t tok W ((TkO.tkR (oB := 0) ((hTk.out t ht).up hal)).up hW') (by obtain ⟨b, hb, _⟩ := hTk.out t ht; rw [hb]; simp)) (cfh_mono hW.out hAW (fun j hj hj' => (hhd j hj hj').1) tok) (by have := hAl.out; omega))
      have HHD := keep hhd
      have HAW := keep hAW
      have HTAKE := keep htake
      have HGT := keep hgt
      have hcc0 := hct.1
      have hcc1 := hct.2
      have hplI : (p : Int) < (tk.length : Int) := by omega
      have hkI : (k : Int) < (L.length : Int) := by omega
      have hkJ : (k : Int) ≤ 100000 := by omega
      have HLG := keep (fun g (h : (Value.slice VA A.length VC).ownBlock = some g) => (hO.out.lt g h).2)
      clear hal hO hTk hB htk htake hstr hgt hAW hhd hct s0
      go_wp2_with fail
      refine HBS.out.mono ?_
      rintro e w5 ⟨i, hAt, rfl, hb5⟩
      have HO5 := keep (own_bel HOa.out hb5)
      have HT5 := keep (fun t ht => (HTa.out t ht).up hb5)
      have HX5 := keep (HX.out.below hb5 HX.out.lt)
      have HB5 := keep (HBa.out.trans (hb5.mono HBa.out.size))
      have hz5 := hb5.size
      have HAT := keep hAt
      clear hAt hb5 HOa HTa HX HBa HBS d0 d1 s1
      by_cases hf : cfAt_ts (cfh tok) A i = 0
      · rw [decide_eq_true hf]
        have hi : i < A.length := by
          rcases Nat.lt_or_ge i A.length with h | h
          · exact h
          · rw [cfAt_ts_out h] at hf; omega
        have hiw : i < ws.length := by rw [← HAW.out]; exact hi
        obtain ⟨hh1, hh2⟩ := HHD.out i hi hiw
        have hwi : ws[i] = tkA p (strs tk, ct) := by rw [cfAt_ts_in hi, cfh_zero, hh1] at hf; rw [hf, HGT.out]
        obtain ⟨hAW2, haO2⟩ := atw_found (t := (strs tk, ct)) hW.out hiw hwi (by simp only; omega)
        have hpos : 0 ≤ sumC (partA p ws[i] (tpL (L.take k))) := sumC_pos (fun t ht => (HC.out.take k).pos t ((List.mem_filter.1 ht).1))
        have hb1 := sat_bd hpos
        rw [← hh2] at hb1
        unfold MAXN at hb1
        have hctv : A[i].ct = sat (sumC (partA p (tkA p (strs tk, ct)) (tpL (L.take k)))) := by rw [hh2, hwi]
        have hown5 : w5.drew.ownsRow w.heap.size 32 2 (.slice VA A.length VC) A.length (tms A) := HO5.out
        obtain ⟨g, cap, hgA⟩ : ∃ g cap, Value.slice VA A.length VC = .slice (some ⟨g, 0, none⟩) A.length cap := by
          rcases hown5.2 with ⟨_, hz⟩ | ⟨g, cap, cur, hv, _⟩
          · omega
          · exact ⟨g, cap, hv⟩
        injection hgA with hgA _ hcap
        subst hgA
        subst hcap
        have r1 := tms_at A i hi 1 (by omega)
        have c1 : w5.drew.cell? ⟨g, i * 2 + 1, none⟩ = some (.int .i64 A[i].ct) := (own_cell hown5 rfl (i * 2 + 1) (by omega)).trans (r1.trans rfl)
        have f1 : w5.drew.frozen? ⟨g, i * 2 + 1, none⟩ = false := own_frozen hown5 rfl _
        have e1 : w5.drew.cell? ⟨wo.heap.size, 1, none⟩ = some (.int .i64 ct) := HX5.out.cell2.2
        have hst := own_store hown5 rfl (i * 2 + 1) (.int .i64 (sat (A[i].ct + ct)))
        rw [tms_set hi] at hst
        have hgr : w5.grownBy (w5.drew.setCell ⟨g, i * 2 + 1, none⟩ (.int .i64 (sat (A[i].ct + ct)))) (some g) := grownBy_set (grownBy_drew (World.grownBy.refl w5 (some g))) _ _
        have hTs : ∀ u ∈ A, TkO (w5.drew.setCell ⟨g, i * 2 + 1, none⟩ (.int .i64 (sat (A[i].ct + ct)))) w.heap.size u := fun u hu => (HT5.out u hu).row HO5.out hgr
        have hgb := (hown5.lt g rfl).1
        have hbw : Below w.heap.size w (w5.drew.setCell ⟨g, i * 2 + 1, none⟩ (.int .i64 (sat (A[i].ct + ct)))) := below_grown HB5.out hgr HB5.out.size hgb
        have hE2 : tpL (A.set i ⟨A[i].tv, A[i].tk, sat (A[i].ct + ct)⟩) = aOf p (tpL (L.take (k + 1))) ws := by
          rw [HTAKE.out, haO2, ← hE.out]
          unfold tpL
          rw [List.map_set]
          congr 1
          simp only [Prod.mk.injEq]
          refine ⟨?_, congrArg (fun z => sat (z + ct)) hctv⟩
          obtain ⟨b, hb, _⟩ := HT5.out _ (List.getElem_mem hi)
          rw [← hwi, ← hh1]
          unfold hd1
          rw [hb]
          rfl
        have hAW3 : AtW p (tpL (L.take (k + 1))) ws := by rw [HTAKE.out]; exact hAW2
        have hall : ∀ u ∈ A.set i ⟨A[i].tv, A[i].tk, sat (A[i].ct + ct)⟩, TkO (w5.drew.setCell ⟨g, i * 2 + 1, none⟩ (.int .i64 (sat (A[i].ct + ct)))) w.heap.size u := fun u hu => by
          rcases List.mem_or_eq_of_mem_set hu with hu | rfl
          · exact hTs u hu
          · exact hTs A[i] (List.getElem_mem hi)
        have hlen : (A.set i ⟨A[i].tv, A[i].tk, sat (A[i].ct + ct)⟩).length = A.length := List.length_set
        obtain ⟨A2, hA2⟩ : ∃ A2, A2 = A.set i ⟨A[i].tv, A[i].tk, sat (A[i].ct + ct)⟩ := ⟨_, rfl⟩
        rw [← hA2] at hst hE2 hall hlen
        obtain ⟨x, hx⟩ : ∃ x, x = A[i].ct := ⟨_, rfl⟩
        rw [← hx] at c1 hst hbw hall hb1
        have HST := keep hst
        have HE2 := keep hE2
        have HW2 := keep hAW3
        have HALL := keep hall
        have HBW := keep hbw
        have HL2 := keep hlen
        have hi2 : (i : Int) < (A.length : Int) := by omega
        have hAle := hAl.out
        have hi3 : (i : Int) ≤ 1048576 := by omega
        have HSUM := keep (tsum_any x ct w5.drew (by omega) (by omega) (by omega) (by omega))
        clear hst hE2 hAW3 hall hbw hlen hA2 hx hgr hTs hown5 hAW2 haO2 hpos hh1 hh2 hwi hctv hf r1 HHD HAW HGT HTAKE HAT hW hE HO5 HT5 HX5 HB5
        go_wp2_with fail
        refine wp_region_still_tail 12 (by kernel_rfl) (by kernel_rfl) ?_
        simp only [List.take_succ_cons, List.take_zero, List.drop_succ_cons, List.drop_zero]
        iterate 9 still_step
        still_call HSUM.out
        iterate 2 still_step
        refine wpStill_nil ?_
        change wpList _ _ _ _ _ w5.drew
        go_wp2_with fail
        refine ⟨⟨k + 1, _, A2, ws, by omega, rfl, rfl, keep ?_, HALL, HW2, HE2, keep ?_, HBW⟩, ?_⟩
        · rw [HL2.out]; exact HST.out
        · rw [HL2.out]; omega
        · simp [intOf]; omega
      · rw [decide_eq_false hf]
        obtain ⟨hi1, hlo, hhi⟩ := HAT.out
        have hlen0 := HAW.out
        have hAle := hAl.out
        have hnew1 : ∀ j, (hj : j < ws.length) → j < i → ws[j] < tkA p (strs tk, ct) := fun j hj hji => by
          have h1 := hlo j hji
          rw [cfAt_ts_in (by omega), cfh_neg, (HHD.out j (by omega) hj).1] at h1
          rw [HGT.out]
          exact h1
        have hnew2 : ∀ j, (hj : j < ws.length) → i ≤ j → tkA p (strs tk, ct) < ws[j] := fun j hj hji => by
          have h1 := hhi j hji
          rw [cfAt_ts_in (by omega)] at h1
          have h2 : ¬ (cfh tok A[j] < 0) := by omega
          rw [cfh_neg, (HHD.out j (by omega) hj).1] at h2
          rw [HGT.out]
          refine lb_tri2 h2 (fun e => ?_)
          rcases Nat.lt_or_ge i j with h3 | h3
          · have h4 := List.pairwise_iff_getElem.1 hW.out.1 i j (by omega) (by omega) h3
            have h5 := hhi i (Nat.le_refl _)
            rw [cfAt_ts_in (by omega)] at h5
            have h6 : ¬ (cfh tok A[i] < 0) := by omega
            rw [cfh_neg, (HHD.out i (by omega) (by omega)).1, ← e] at h6
            exact h6 h4
          · obtain rfl : i = j := by omega
            apply hf
            rw [cfAt_ts_in (by omega), cfh_zero, (HHD.out i (by omega) hj).1]
            exact e
        obtain ⟨hAW2, haO2⟩ := atw_new (t := (strs tk, ct)) hW.out (by omega) hnew1 hnew2
        obtain ⟨w6, hw6⟩ : ∃ w6, w6 = w5.alloc (.cells #[.string tok] 9) := ⟨_, rfl⟩
        obtain ⟨w7, hw7⟩ : ∃ w7, w7 = w6.alloc (.cells #[.slice (some ⟨w5.heap.size, 0, none⟩) 1 1, .int .i64 0] 32) := ⟨_, rfl⟩
        have hb56 : Below w5.heap.size w5 w6 := by rw [hw6]; exact (Below.refl _ w5).alloc (Nat.le_refl _) _
        have hb67 : Below w6.heap.size w6 w7 := by rw [hw7]; exact (Below.refl _ w6).alloc (Nat.le_refl _) _
        have hb57 : Below w5.heap.size w5 w7 := bchain hb56 hb67
        have hBk6 : Blk w6 w5.heap.size 9 #[.string tok] := by rw [hw6]; exact Blk.new _ _ _
        have hBk7 : Blk w7 w6.heap.size 32 #[.slice (some ⟨w5.heap.size, 0, none⟩) 1 1, .int .i64 0] := by rw [hw7]; exact Blk.new _ _ _
        have ho6 : w6.ownsRow w.heap.size 9 1 (.slice (some ⟨w5.heap.size, 0, none⟩) 1 1) 1 [.string tok] := own_mk (cur := #[.string tok]) HB5.out.size hBk6 (Nat.le_refl 1) (by unfold maxLen; omega) rfl
        have ho7 := own_bel HO5.out hb57
        have hT07 : TkO w7 w.heap.size ⟨.slice (some ⟨w5.heap.size, 0, none⟩) 1 1, [tok], 0⟩ := ⟨tok, rfl, own_bel ho6 hb67⟩
        have hT7 := fun u hu => (HT5.out u hu).up hb57
        have hX7 : Blk w7 wo.heap.size 32 _ := HX5.out.below hb57 HX5.out.lt
        have hs56 : w5.heap.size ≤ w6.heap.size := hb56.size
        have hs57 : w5.heap.size ≤ w7.heap.size := hb57.size
        have hne : (Value.slice VA A.length VC).ownBlock ≠ some w6.heap.size := by
          intro e
          have := (HO5.out.lt _ e).2
          omega
        have hone := tms_one A (fun t ht => by obtain ⟨b, _, ho⟩ := HT5.out t ht; obtain ⟨A', c', h, _⟩ := own_sl ho; exact ⟨A', 1, c', h⟩)
        have HINS := keep (insert_Tm _ A.length i (tms A) [.slice (some ⟨w5.heap.size, 0, none⟩) 1 1, .int .i64 0] w6.heap.size w7 w.heap.size ho7 (Nat.le_trans HB5.out.size hs57) hi1 hBk7 rfl hne hone (by intro u hu; simp at hu; rcases hu with rfl | rfl <;> rfl) (by omega))
        have HT07 := keep hT07
        have HT7 := keep hT7
        have HX7 := keep hX7
        have HO7 := keep ho7
        have HB7 := keep (HB5.out.trans (hb57.mono HB5.out.size))
        have HAW2 := keep hAW2
        have HAO2 := keep haO2
        have HW6 := keep hw6
        have HW7 := keep hw7
        have hwx : wo.heap.size < w7.heap.size := Nat.lt_of_lt_of_le HX5.out.lt hs57
        have hz6 : w6.heap.size = w5.heap.size + 1 := by rw [hw6]; simp
        rw [hw7, hz6, hw6] at HINS
        clear hz6 hlen0 hnew1 hnew2 hAW2 haO2 hw6 hw7 hb56 hb67 hb57 hBk6 hBk7 ho6 ho7 hT07 hT7 hX7 hne hone hs56 hs57 hlo hhi hf HO5 HT5 HX5 HB5 HAT
        go_wp2_with fail
        refine HINS.out.mono ?_
        rw [← HW6.out, ← HW7.out]
        rintro e w8 ⟨v8, rfl, ho8, hg8⟩
        have hlen1 : (A.take i ++ (⟨.slice (some ⟨w5.heap.size, 0, none⟩) 1 1, [tok], 0⟩ : Tm) :: A.drop i).length = A.length + 1 := by
          rw [List.length_append, List.length_take, List.length_cons, List.length_drop]; omega
        have hT8 : ∀ u ∈ A.take i ++ (⟨.slice (some ⟨w5.heap.size, 0, none⟩) 1 1, [tok], 0⟩ : Tm) :: A.drop i, TkO w8 w.heap.size u := fun u hu => by
          rcases List.mem_append.1 hu with hu | hu
          · exact (HT7.out u (List.mem_of_mem_take hu)).row HO7.out hg8
          · rcases List.mem_cons.1 hu with rfl | hu
            · exact HT07.out.row HO7.out hg8
            · exact (HT7.out u (List.mem_of_mem_drop hu)).row HO7.out hg8
        have ho8' := ho8
        rw [tms_ins A i hi1 ⟨.slice (some ⟨w5.heap.size, 0, none⟩) 1 1, [tok], 0⟩, ← hlen1] at ho8'
        have hX8 : Blk w8 wo.heap.size 32 #[.slice (some ⟨sb, so, none⟩) tk.length TC, .int .i64 ct] := (hg8.block _ hwx (fun e => by have := HLG.out _ e.symm; omega)).trans HX7.out
        have hB8 : Below w.heap.size w w8 := HB7.out.grown hg8 HB7.out.size (fun g hg => (HO7.out.lt g hg).1)
        obtain ⟨A1, hA1⟩ : ∃ A1, A1 = A.take i ++ (⟨.slice (some ⟨w5.heap.size, 0, none⟩) 1 1, [tok], 0⟩ : Tm) :: A.drop i := ⟨_, rfl⟩
        rw [← hA1] at hlen1 hT8 ho8'
        have hlt1 : (A.take i).length = i := by rw [List.length_take]; omega
        have hi : i < A1.length := by omega
        have hget : A1[i] = ⟨.slice (some ⟨w5.heap.size, 0, none⟩) 1 1, [tok], 0⟩ := by
          subst hA1
          rw [List.getElem_append_right (by omega)]
          simp only [hlt1, Nat.sub_self, List.getElem_cons_zero]
        obtain ⟨g, cap, hgA⟩ : ∃ g cap, v8 = .slice (some ⟨g, 0, none⟩) A1.length cap := by
          rcases ho8'.2 with ⟨_, hz⟩ | ⟨g, cap, cur, hv, _⟩
          · omega
          · exact ⟨g, cap, hv⟩
        subst hgA
        have r1 := tms_at A1 i hi 1 (by omega)
        have c1 : w8.drew.cell? ⟨g, i * 2 + 1, none⟩ = some (.int .i64 0) := (own_cell ho8' rfl (i * 2 + 1) (by omega)).trans (r1.trans (by rw [hget]; rfl))
        have f1 : w8.drew.frozen? ⟨g, i * 2 + 1, none⟩ = false := own_frozen ho8' rfl _
        have e1 : w8.drew.cell? ⟨wo.heap.size, 1, none⟩ = some (.int .i64 ct) := hX8.cell2.2
        have ho8d : w8.drew.ownsRow w.heap.size 32 2 (.slice (some ⟨g, 0, none⟩) A1.length cap) A1.length (tms A1) := ho8'
        have hst := own_store ho8d rfl (i * 2 + 1) (.int .i64 (sat (0 + ct)))
        rw [tms_set hi, hget] at hst
        have hgr : w8.grownBy (w8.drew.setCell ⟨g, i * 2 + 1, none⟩ (.int .i64 (sat (0 + ct)))) (some g) := grownBy_set (grownBy_drew (World.grownBy.refl w8 (some g))) _ _
        have hTs : ∀ u ∈ A1, TkO (w8.drew.setCell ⟨g, i * 2 + 1, none⟩ (.int .i64 (sat (0 + ct)))) w.heap.size u := fun u hu => (hT8 u hu).row ho8' hgr
        have hgb := (ho8'.lt g rfl).1
        have hbw : Below w.heap.size w (w8.drew.setCell ⟨g, i * 2 + 1, none⟩ (.int .i64 (sat (0 + ct)))) := below_grown hB8 hgr hB8.size hgb
        have hset : A1.set i ⟨.slice (some ⟨w5.heap.size, 0, none⟩) 1 1, [tok], sat (0 + ct)⟩ = A.take i ++ (⟨.slice (some ⟨w5.heap.size, 0, none⟩) 1 1, [tok], sat (0 + ct)⟩ : Tm) :: A.drop i := by
          rw [hA1, List.set_append_right _ _ (by omega), hlt1, Nat.sub_self, List.set_cons_zero]
        have hall : ∀ u ∈ A1.set i ⟨.slice (some ⟨w5.heap.size, 0, none⟩) 1 1, [tok], sat (0 + ct)⟩, TkO (w8.drew.setCell ⟨g, i * 2 + 1, none⟩ (.int .i64 (sat (0 + ct)))) w.heap.size u := fun u hu => by
          rcases List.mem_or_eq_of_mem_set hu with hu | rfl
          · exact hTs u hu
          · exact hTs ⟨.slice (some ⟨w5.heap.size, 0, none⟩) 1 1, [tok], 0⟩ (hget ▸ List.getElem_mem hi)
        have hE2 : tpL (A1.set i ⟨.slice (some ⟨w5.heap.size, 0, none⟩) 1 1, [tok], sat (0 + ct)⟩) = aOf p (tpL (L.take (k + 1))) (ws.take i ++ tkA p (strs tk, ct) :: ws.drop i) := by
          rw [hset, HTAKE.out, HAO2.out, ← hE.out]
          unfold tpL
          rw [List.map_append, List.map_cons, ← List.map_take, ← List.map_drop, HGT.out]
          rfl
        have hAW3 : AtW p (tpL (L.take (k + 1))) (ws.take i ++ tkA p (strs tk, ct) :: ws.drop i) := by rw [HTAKE.out]; exact HAW2.out
        have hl2 : (A1.set i ⟨.slice (some ⟨w5.heap.size, 0, none⟩) 1 1, [tok], sat (0 + ct)⟩).length = A1.length := List.length_set
        obtain ⟨A2, hA2⟩ : ∃ A2, A2 = A1.set i ⟨.slice (some ⟨w5.heap.size, 0, none⟩) 1 1, [tok], sat (0 + ct)⟩ := ⟨_, rfl⟩
        rw [← hA2] at hst hE2 hall hl2
        rw [Int.zero_add] at hst hall hbw
        have HST := keep hst
        have HE2 := keep hE2
        have HW2 := keep hAW3
        have HALL := keep hall
        have HBW := keep hbw
        have HL2 := keep hl2
        have HL1 := keep hlen1
        have hi2 : (i : Int) < (A1.length : Int) := by omega
        have hi3 : (i : Int) ≤ 1048576 := by omega
        have HSUM := keep (tsum_any 0 ct w8.drew (by omega) (by omega) (by omega) (by omega))
        rw [← hlen1] at HINS
        clear hst hE2 hAW3 hall hbw hl2 hA2 hgr hTs hgb hset r1 hget hlt1 hA1 ho8 ho8' ho8d hT8 hX8 hB8 hg8 hlen1 HINS HT07 HT7 HX7 HO7 HB7 HAW2 HAO2 HW6 HW7 hwx HHD HAW HGT HTAKE hW hE HLG
        go_wp2_with fail
        refine wp_region_still_tail 12 (by kernel_rfl) (by kernel_rfl) ?_
        simp only [List.take_succ_cons, List.take_zero, List.drop_succ_cons, List.drop_zero]
        iterate 9 still_step
        still_call HSUM.out
        iterate 2 still_step
        refine wpStill_nil ?_
        change wpList _ _ _ _ _ w8.drew
        go_wp2_with fail
        refine ⟨⟨k + 1, _, A2, _, by omega, rfl, rfl, keep ?_, HALL, HW2, HE2, keep ?_, HBW⟩, ?_⟩
        · rw [HL2.out]; exact HST.out
        · rw [HL2.out, HL1.out]; omega
        · simp [intOf]; omega
    · obtain rfl : k = L.length := by omega
      have hW' := hW.out
      have hE' := hE.out
      rw [List.take_length] at hW' hE'
      have HW := keep hW'
      have HE := keep hE'
      clear hW' hE'
      go_wp2_with fail
      go_ret
      exact ⟨_, A, ws, rfl, hO.out, hTk.out, HW.out, HE.out, hB.out⟩
end Go.Proofs.YtigogjlbemkhdaaGreat
