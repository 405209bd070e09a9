/- miner.add, Add and Remove: where the tokens of the new state lie (printed by gen/kin.py out of XTmAdd and XTmLine). -/
import Derived.Test.YtigogjlbemkhdaaTmLine
import Derived.Test.YtigogjlbemkhdaaRefState
namespace Go.Proofs.Ytigogjlbemkhdaa
open Go.RowKit

/-- The elements of a new state have the tokens of an old one's, or tokens in a new block. -/
def KinT (w w' : World) (L L' : List Tm) : Prop := ∀ t ∈ L', (∃ x ∈ L, x.tv = t.tv ∧ x.tk = t.tk) ∨ Sl w' (fun b => w.heap.size ≤ b ∧ b < w'.heap.size) 1 t.tv t.tk.length (t.tk.map .string)
def AddResK (L : List Tm) (T : List (List UInt8)) (n : Int) (w : World) (B : Nat) (v : Value) (x : Ending) (w' : World) : Prop :=
  ∃ (v' : Value) (L' : List Tm), x = .returned v' ∧ w'.ownsRow B 49 2 v' L'.length (tms L') ∧ (∀ t ∈ L', TkR w' t) ∧ w.grownBy w' v.ownBlock ∧ Added (st L) (st L') T n ∧ KinT w w' L L'
def LineResK (L : List Tm) (o : Option (List ByteArray)) (w : World) (x : Ending) (w' : World) : Prop := ∃ v' L', x = .returned v' ∧ NewSt w v' L' w' ∧ AddStep (st L) o (st L') ∧ KinT w w' L L'
def RemResK (L : List Tm) (o : Option (List ByteArray)) (w : World) (x : Ending) (w' : World) : Prop := ∃ v' L' ok, x = .returned (.tuple #[v', .bool ok]) ∧ NewSt w v' L' w' ∧ RemStep (st L) o ok (st L') ∧ ∀ t ∈ L', ∃ x ∈ L, x.tv = t.tv ∧ x.tk = t.tk
set_option maxHeartbeats 4000000 in
theorem add_anyK (v tv : Value) (L : List Tm) (s : List ByteArray) (n : Int) (w : World) (B : Nat) (hown : w.ownsRow B 49 2 v L.length (tms L)) (hB : B ≤ w.heap.size) (hT : ∀ t ∈ L, TkR w t) (h2 : Sl w (strB w) 1 tv s.length (s.map .string)) (hs1 : s.length ≤ 1000000)
    (hsrt : Srt (st L)) (hpos : Pos (st L)) (hn : 1 ≤ n) (hn2 : n ≤ 1000000) (hsum : sumP (st L) ≤ 1000000) : Calls Try.prog 26 #[v, tv, .int .i64 n] w (AddResK L (strs s) n w B v) := by
  have hm : L.length ≤ 1000000 := by
    have := sumP_len hpos
    rw [st_len] at this
    omega
  have hform : ∀ t ∈ L, ∃ A n c, t.tv = .slice A n c := fun t ht => (hT t ht).form
  obtain ⟨A, c, rfl, hc⟩ := own_sl hown
  have HSE := keep (search_any _ tv L s w (Sl.of_own hown) hT h2 hsrt hm)
  have HOWN := keep hown
  have HT := keep hT
  have H2 := keep h2
  have HS := keep hsrt
  have HP := keep hpos
  have HF := keep hform
  have HSUM := keep hsum
  clear hown hT h2 hsrt hpos hform hsum hc
  go_enter Try.func26, Try.ntmps26
  go_wp2_with fail
  refine HSE.out.mono ?_
  rintro e w1 ⟨i, hA, rfl, hb1⟩
  have hi1 : i ≤ L.length := hA.1
  have HA := keep hA
  have ho1 := own_bel HOWN.out hb1
  clear hA HSE
  by_cases h0 : cfAt_tm (cfs s) L i = 0
  · rw [show decide (cfAt_tm (cfs s) L i = 0) = true from decide_eq_true h0]
    obtain ⟨hi, _⟩ := at_found h0
    have hadd := added_found h0 hi HS.out HP.out n (by omega)
    have hmem : (strs L[i].tk, L[i].ct) ∈ st L := List.mem_map.2 ⟨L[i], List.getElem_mem hi, rfl⟩
    have hct0 := HP.out _ hmem
    have hct1 := sumP_le HP.out hmem
    have hsm := HSUM.out
    have hset := tms_set hi (L[i].ct + n)
    have hTk := HT.out _ (List.getElem_mem hi)
    obtain ⟨g, cap, hgA⟩ : ∃ g cap, Value.slice A L.length c = .slice (some ⟨g, 0, none⟩) L.length cap := by
      rcases ho1.2 with ⟨_, hz⟩ | ⟨g, cap, cur, hv, _⟩
      · omega
      · exact ⟨g, cap, hv⟩
    injection hgA with hgA _ hcap
    subst hgA
    subst hcap
    obtain ⟨b, o, hbo, _, c0, c1⟩ := tm_cells (Sl.of_own ho1) hi
    injection hbo with hbo
    injection hbo with hb_ ho_
    subst hb_
    subst ho_
    have f1 : w1.frozen? ⟨g, 0 + i * 2 + 1, none⟩ = false := own_frozen ho1 rfl _
    have hst := own_store ho1 rfl (i * 2 + 1) (.int .i64 (L[i].ct + n))
    rw [hset] at hst
    have hnost := own_noStr ho1
    have hgw : w.grownBy (w1.setCell ⟨g, i * 2 + 1, none⟩ (.int .i64 (L[i].ct + n))) (some g) := grownBy_set (grownBy_of_below hb1 _) _ _
    simp only [Nat.zero_add] at c0 c1 f1
    simp only at hct0 hct1
    have HADD := keep hadd
    have HST := keep hst
    have HGW := keep hgw
    have HNO := keep (fun t ht => ((HT.out t ht).up hb1).grown (grownBy_set (World.grownBy.refl w1 (some g)) (i * 2 + 1) (.int .i64 (L[i].ct + n))) hnost)
    obtain ⟨x, hx⟩ : ∃ x, x = L[i].ct := ⟨_, rfl⟩
    have HX := keep hx
    rw [← hx] at c1 hct0 hct1
    clear hadd hmem hset hst hgw hnost h0 hTk hx ho1 HOWN
    have hi2 : (i : Int) < (L.length : Int) := by omega
    have hi3 : (i : Int) ≤ 1000000 := by omega
    go_wp2_with fail
    refine (sum_any x n w1 (by omega) (by omega) (by omega) (by omega)).mono ?_
    rintro e w2 ⟨rfl, rfl⟩
    go_wp2_with fail
    go_ret
    refine ⟨_, L.set i ⟨L[i].tv, L[i].tk, L[i].ct + n⟩, rfl, ?_, ?_, ?_, HADD.out, fun t ht => .inl (by
      rcases List.mem_or_eq_of_mem_set ht with ht | rfl
      · exact ⟨t, ht, rfl, rfl⟩
      · exact ⟨L[i], List.getElem_mem hi, rfl, rfl⟩)⟩
    · rw [List.length_set]
      have := HST.out
      rw [← HX.out] at this ⊢
      exact this
    · intro t ht
      rw [HX.out]
      rcases List.mem_or_eq_of_mem_set ht with ht | rfl
      · exact HNO.out t ht
      · exact HNO.out L[i] (List.getElem_mem hi)
    · have := HGW.out
      rw [← HX.out] at this
      exact this
  · rw [show decide (cfAt_tm (cfs s) L i = 0) = false from decide_eq_false h0]
    have H0 := keep h0
    have HO1 := keep ho1
    have h2w := H2.out.strUp hb1
    have hcl := clone_Sg tv s.length (s.map .string) w1 _ h2w (oneCells _ (fun _ => rfl) s) (fun _ hb => hb.lt_) hs1
    have HCL := keep hcl
    clear h0 ho1 h2w hcl
    go_wp2_with fail
    refine HCL.out.mono ?_
    rintro e w2 ⟨tv2, rfl, ho2, hb2⟩
    have hts := own_str ho2
    obtain ⟨A2, c2, rfl, _⟩ := own_sl ho2
    have hb12 := bchain hb1 hb2
    have hbA : Below w2.heap.size w2 (w2.alloc (.cells #[.slice A2 s.length c2, .int .i64 n] 49)) := (Below.refl _ w2).alloc (Nat.le_refl _) _
    have hBk : Blk (w2.alloc (.cells #[.slice A2 s.length c2, .int .i64 n] 49)) w2.heap.size 49 #[.slice A2 s.length c2, .int .i64 n] := Blk.new _ _ _
    have ho3 := own_bel (own_bel HO1.out hb2) hbA
    have hne : (Value.slice A L.length c).ownBlock ≠ some w2.heap.size := by
      intro e
      have := (own_bel HO1.out hb2).lt _ e
      omega
    have hone := tms_one L HF.out
    have hBz : B ≤ (w2.alloc (.cells #[.slice A2 s.length c2, .int .i64 n] 49)).heap.size := Nat.le_trans (Nat.le_trans hB hb12.size) hbA.size
    obtain ⟨w3, hw3⟩ : ∃ w3, w3 = w2.alloc (.cells #[.slice A2 s.length c2, .int .i64 n] 49) := ⟨_, rfl⟩
    rw [← hw3] at hbA hBk ho3 hBz
    have hins := insert_Tm _ L.length i (tms L) [.slice A2 s.length c2, .int .i64 n] w2.heap.size w3 B ho3 hBz hi1 hBk rfl hne hone (by intro u hu; simp at hu; rcases hu with rfl | rfl <;> rfl) hm
    rw [hw3] at hins
    have HINS := keep hins
    have HKW := keep (sl_strKeep (Sl.and hts (Sl.of_own_btw ho2)) (grownBy_of_below hbA none) (by simp))
    have hzw := hb1.size
    have hz23 := hbA.size
    have HBA := keep (bchain hb12 hbA)
    have HTS := keep (hts.strUp hbA)
    have HO3 := keep ho3
    have HW3 := keep hw3
    clear hins hbA hBk ho3 hne hone hBz hts ho2 HCL HO1 hb2 hb12 hw3
    go_wp2_with fail
    refine HINS.out.mono ?_
    rintro e w4 ⟨v', rfl, ho4, hg4⟩
    rw [← HW3.out] at hg4
    have hg04 := grownBy_trans (grownBy_of_below HBA.out (Value.slice A L.length c).ownBlock) hg4
    have hnost := own_noStr HO3.out
    have hadd := added_new HA.out H0.out HS.out HP.out ⟨.slice A2 s.length c2, s, n⟩ rfl hn
    have hrow : (tms L).take (i * 2) ++ [.slice A2 s.length c2, .int .i64 n] ++ (tms L).drop (i * 2) = tms (L.take i ++ [⟨.slice A2 s.length c2, s, n⟩] ++ L.drop i) := by
      rw [tms_take L i hi1, tms_drop L i hi1, tms_append, tms_append]; rfl
    rw [hrow] at ho4
    have hlen : L.length + 1 = (L.take i ++ [(⟨.slice A2 s.length c2, s, n⟩ : Tm)] ++ L.drop i).length := by
      rw [List.length_append, List.length_append, List.length_take, List.length_drop]; simp; omega
    rw [hlen] at ho4
    have hall : ∀ t ∈ L.take i ++ [(⟨.slice A2 s.length c2, s, n⟩ : Tm)] ++ L.drop i, TkR w4 t := by
      intro t ht
      have hold : ∀ t ∈ L, TkR w4 t := fun t ht => ((HT.out t ht).up HBA.out).grown hg4 hnost
      rcases List.mem_append.1 ht with ht | ht
      · rcases List.mem_append.1 ht with ht | ht
        · exact hold t (List.mem_of_mem_take ht)
        · rw [List.mem_singleton.1 ht]
          exact TkR.grown (t := ⟨.slice A2 s.length c2, s, n⟩) ⟨HTS.out, hs1⟩ hg4 hnost
      · exact hold t (List.mem_of_mem_drop ht)
    have hkin : KinT w w4 L (L.take i ++ [(⟨.slice A2 s.length c2, s, n⟩ : Tm)] ++ L.drop i) := by
      intro t ht
      rcases List.mem_append.1 ht with ht | ht
      · rcases List.mem_append.1 ht with ht | ht
        · exact .inl ⟨t, List.mem_of_mem_take ht, rfl, rfl⟩
        · rw [List.mem_singleton.1 ht]
          have hz34 := hg4.size
          exact .inr ((sl_strKeep HKW.out hg4 (fun b hb _ => hnost b hb)).mono fun b hb => ⟨Nat.le_trans hzw hb.2.1, Nat.lt_of_lt_of_le hb.2.2 (Nat.le_trans hz23 hz34)⟩)
      · exact .inl ⟨t, List.mem_of_mem_drop ht, rfl, rfl⟩
    have HKIN := keep hkin
    have HALL := keep hall
    have HADD := keep hadd
    have HO4 := keep ho4
    have HG := keep hg04
    clear hkin hall hadd ho4 hg04 hrow hlen hnost hg4
    go_wp2_with fail
    go_ret
    exact ⟨_, _, rfl, HO4.out, HALL.out, HG.out, HADD.out, HKIN.out⟩
set_option maxHeartbeats 2000000 in
theorem addLineK (v : Value) (L : List Tm) (s : ByteArray) (w : World) (h : MS w v L) (hg : Good (st L) 999999) (hs : s.size ≤ 4294967296) : Calls Try.prog 11 #[v, .string s] w (LineResK L (toks s) w) := by
  have hm := hg.len (by omega)
  have H := keep h
  have HG := keep hg
  obtain ⟨A, c, rfl, _, _⟩ := h.1.form
  have HTK := keep (tokens_any s w hs)
  generalize toks s = o at HTK
  clear h hg
  go_enter Try.func11, Try.ntmps11
  go_wp2_with fail
  refine HTK.out.mono ?_
  rintro e w1 ⟨tv, T, rfl, hT, hT6, ho, hb1⟩
  obtain ⟨A2, c2, rfl, _⟩ := own_sl ho
  have HO := keep ho
  have HC := keep (clone_ms (H.out.up hb1) hm)
  clear ho HTK
  cases o with
  | none =>
    clear HO hT
    go_wp2_with fail
    refine HC.out.mono ?_
    rintro e w2 ⟨v', rfl, hn⟩
    have HN := keep hn
    clear hn HC
    go_wp2_with fail
    go_ret
    exact ⟨v', L, rfl, ⟨own_base HN.out.1 hb1.size, HN.out.2.1, bchain hb1 HN.out.2.2⟩, rfl, fun t ht => .inl ⟨t, ht, rfl, rfl⟩⟩
  | some T' =>
    obtain rfl : T = T' := hT
    simp only [Option.isSome_some]
    go_wp2_with fail
    refine HC.out.mono ?_
    rintro e w2 ⟨v', rfl, hn⟩
    have hts := (own_str HO.out).strUp hn.2.2
    have hlen : T.length ≤ 1000000 := by omega
    have hadd := add_anyK v' (.slice A2 T.length c2) L T 1 w2 w1.heap.size hn.1 hn.2.2.size hn.2.1 hts hlen HG.out.s HG.out.p (by omega) (by omega) (by have := HG.out.b; omega)
    have HADD := keep hadd
    have HN := keep hn
    clear hn hadd hts HC HO
    go_wp2_with fail
    refine HADD.out.mono ?_
    rintro e w3 ⟨v3, L3, rfl, ho3, hT3, hg3, had, hkin⟩
    have hb12 := bchain hb1 HN.out.2.2
    have hb3 : Below w.heap.size w w3 := by
      refine (bchain hb1 HN.out.2.2).grown hg3 hb12.size ?_
      intro k hk
      exact Nat.le_trans hb1.size (HN.out.1.lt k hk).1
    have HO3 := keep ho3
    have HT3 := keep hT3
    have HAD := keep had
    have HKIN : Hid (KinT w w3 L L3) := keep (fun t ht => (hkin t ht).imp id fun h => h.mono fun b hb => ⟨Nat.le_trans hb12.size hb.1, hb.2⟩)
    clear ho3 hT3 had hg3 hkin
    go_wp2_with fail
    go_ret
    exact ⟨v3, L3, rfl, ⟨own_base HO3.out hb1.size, HT3.out, hb3⟩, HAD.out, HKIN.out⟩
set_option maxHeartbeats 8000000 in
theorem removeLineK (v : Value) (L : List Tm) (s : ByteArray) (w : World) (h : MS w v L) (hg : Good (st L) 1000000) (hs : s.size ≤ 4294967296) : Calls Try.prog 10 #[v, .string s] w (RemResK L (toks s) w) := by
  have hm := hg.len (by omega)
  have H := keep h
  have HG := keep hg
  obtain ⟨A, c, rfl, _, _⟩ := h.1.form
  have HC := keep (clone_ms h hm)
  have HTK := keep fun w' => tokens_any s w' hs
  generalize toks s = o at HTK
  clear h hg
  go_enter Try.func10, Try.ntmps10
  go_wp2_with fail
  refine HC.out.mono ?_
  rintro e w1 ⟨v1, rfl, hn1⟩
  obtain ⟨A1, c1, rfl, _⟩ := own_sl hn1.1
  have HN1 := keep hn1
  clear hn1 HC
  go_wp2_with fail
  refine (HTK.out w1).mono ?_
  rintro e w2 ⟨tv, T, rfl, hT, hT6, ho, hb2⟩
  obtain ⟨A2, c2, rfl, _⟩ := own_sl ho
  have hb12 := bchain HN1.out.2.2 hb2
  have HO := keep ho
  have ho1 := own_bel HN1.out.1 hb2
  have hT1 : ∀ t ∈ L, TkR w2 t := fun t ht => (HN1.out.2.1 t ht).up hb2
  have HO1 := keep ho1
  have HT1 := keep hT1
  clear ho HTK ho1 hT1
  cases o with
  | none =>
    clear HO hT
    go_wp2_with fail
    go_ret2
    exact ⟨_, L, false, rfl, ⟨HO1.out, HT1.out, hb12⟩, ⟨rfl, rfl⟩, fun t ht => ⟨t, ht, rfl, rfl⟩⟩
  | some T' =>
    obtain rfl : T = T' := hT
    have hse := search_any (.slice A1 L.length c1) (.slice A2 T.length c2) L T w2 (Sl.of_own HO1.out) HT1.out (own_str HO.out) HG.out.s hm
    have HSE := keep hse
    clear hse HO
    simp only [Option.isSome_some]
    go_wp2_with fail
    refine HSE.out.mono ?_
    rintro e w3 ⟨i, hA, rfl, hb3⟩
    have hi1 : i ≤ L.length := hA.1
    have hb13 := bchain hb12 hb3
    have HA := keep hA
    have ho3 := own_bel HO1.out hb3
    have hT3 : ∀ t ∈ L, TkR w3 t := fun t ht => (HT1.out t ht).up hb3
    clear hA HSE
    by_cases h0 : cfAt_tm (cfs T) L i = 0
    · rw [show decide (cfAt_tm (cfs T) L i = 0) = true from decide_eq_true h0]
      obtain ⟨hi, hiT⟩ := at_found h0
      have hcf := cnt_found h0 HG.out.p
      have hmem : (strs L[i].tk, L[i].ct) ∈ st L := List.mem_map.2 ⟨L[i], List.getElem_mem hi, rfl⟩
      have hct0 := HG.out.p _ hmem
      have hct1 := sumP_le HG.out.p hmem
      have hsm := HG.out.b
      have hset := tms_set hi (L[i].ct - 1)
      have hdl := removed_del hi HG.out.s HG.out.p
      have hst' := removed_set hi HG.out.s HG.out.p
      rw [hiT] at hdl hst'
      obtain ⟨g, cap, hgA⟩ : ∃ g cap, Value.slice A1 L.length c1 = .slice (some ⟨g, 0, none⟩) L.length cap := by
        rcases ho3.2 with ⟨_, hz⟩ | ⟨g, cap, cur, hv, _⟩
        · omega
        · exact ⟨g, cap, hv⟩
      injection hgA with hgA _ hcap
      subst hgA
      subst hcap
      obtain ⟨b, o, hbo, _, c0, c1'⟩ := tm_cells (Sl.of_own ho3) hi
      injection hbo with hbo
      injection hbo with hb_ ho_
      subst hb_
      subst ho_
      have f1 : w3.frozen? ⟨g, 0 + i * 2 + 1, none⟩ = false := own_frozen ho3 rfl _
      have hst := own_store ho3 rfl (i * 2 + 1) (.int .i64 (L[i].ct - 1))
      rw [hset] at hst
      have hnost := own_noStr ho3
      have hwg : w.heap.size ≤ g := (HN1.out.1.lt g rfl).1
      have hb4 := hb13.setCell (p := ⟨g, i * 2 + 1, none⟩) hwg (.int .i64 (L[i].ct - 1))
      have hT4 : ∀ t ∈ L, TkR (w3.setCell ⟨g, i * 2 + 1, none⟩ (.int .i64 (L[i].ct - 1))) t := fun t ht => (hT3 t ht).grown (grownBy_set (World.grownBy.refl w3 (some g)) _ _) hnost
      have c4 : (w3.setCell ⟨g, i * 2 + 1, none⟩ (.int .i64 (L[i].ct - 1))).cell? ⟨g, i * 2 + 1, none⟩ = some (.int .i64 (L[i].ct - 1)) := by
        rw [own_cell hst rfl (i * 2 + 1) (by rw [Nat.add_comm]; omega), ← hset]
        rw [List.getElem?_set_self (by rw [tms_len]; omega)]
      have hmT : ∀ t ∈ L.set i ⟨L[i].tv, L[i].tk, L[i].ct - 1⟩, TkR (w3.setCell ⟨g, i * 2 + 1, none⟩ (.int .i64 (L[i].ct - 1))) t := by
        intro t ht
        rcases List.mem_or_eq_of_mem_set ht with ht | rfl
        · exact hT4 t ht
        · exact hT4 L[i] (List.getElem_mem hi)
      have hone := tms_one (L.set i ⟨L[i].tv, L[i].tk, L[i].ct - 1⟩) fun t ht => (hmT t ht).form
      obtain ⟨W, hW⟩ : ∃ W, W = w3.setCell ⟨g, i * 2 + 1, none⟩ (.int .i64 (L[i].ct - 1)) := ⟨_, rfl⟩
      obtain ⟨L2, hL2⟩ : ∃ L2, L2 = L.set i ⟨L[i].tv, L[i].tk, L[i].ct - 1⟩ := ⟨_, rfl⟩
      have hl2 : L2.length = L.length := by rw [hL2, List.length_set]
      have htk2 : L2.take i ++ L2.drop (i + 1) = L.take i ++ L.drop (i + 1) := by
        rw [hL2, List.take_set_of_le (Nat.le_refl _), List.drop_set_of_lt (by omega)]
      rw [← hW] at hst hb4 hT4 c4 hmT
      rw [← hL2] at hst hmT hone hst'
      rw [← hl2] at hst
      have hdel := delete_Tm (.slice (some ⟨g, 0, none⟩) L2.length c1) L2.length i (tms L2) W w.heap.size (hl2.symm ▸ hst) (by omega) hone (by omega)
      rw [tms_take L2 i (by omega), tms_drop L2 (i + 1) (by omega), ← tms_append] at hdel
      rw [htk2, hl2] at hdel
      rw [hl2] at hst
      simp only [Nat.zero_add] at c0 c1' f1
      simp only at hct0 hct1
      obtain ⟨x, hx⟩ : ∃ x, x = L[i].ct := ⟨_, rfl⟩
      rw [← hx] at hW c4 c1' hct0 hct1 hdl hst'
      have HW := keep hW
      have HST := keep hst
      have HMT := keep hmT
      have HDEL := keep hdel
      have HDL := keep hdl
      have HST' := keep hst'
      have HCF := keep hcf
      have HT4 := keep hT4
      have HNO := keep (own_noStr hst)
      have hlen2 : L.length - 1 = (L.take i ++ L.drop (i + 1)).length := by rw [List.length_append, List.length_take, List.length_drop]; omega
      have HL2 := keep hlen2
      have HL22 := keep hl2
      have HLE := keep hL2
      clear hcf hmem hset hst hnost h0 hx ho3 hT3 hW hL2 hl2 htk2 hdel hdl hst' hmT hone hiT hT4 hlen2 HO1 HT1 HN1
      have hi2 : (i : Int) < (L.length : Int) := by omega
      have hi3 : (i : Int) ≤ 1000000 := by omega
      by_cases hx1 : x = 1
      · subst hx1
        obtain rfl : W = w3.setCell ⟨g, i * 2 + 1, none⟩ (.int .i64 0) := HW.out
        clear HW c4
        have HB4 := keep hb4
        clear hb4
        go_wp2_with fail
        refine HDEL.out.mono ?_
        rintro e w5 ⟨v5, rfl, ho5, hg5⟩
        rw [HL2.out] at ho5
        have hb5 := (HB4.out).grown hg5 (HB4.out).size (by intro k hk; obtain rfl : g = k := (by injection hk); exact hwg)
        have hT5 : ∀ t ∈ L.take i ++ L.drop (i + 1), TkR w5 t := fun t ht => by
          refine (HT4.out t ?_).grown hg5 HNO.out
          rcases List.mem_append.1 ht with ht | ht
          · exact List.mem_of_mem_take ht
          · exact List.mem_of_mem_drop ht
        have HO5 := keep ho5
        have HT5 := keep hT5
        clear ho5 hT5 hg5
        go_wp2_with fail
        go_ret2
        exact ⟨v5, _, true, rfl, ⟨HO5.out, HT5.out, hb5⟩, remStep_yes HCF.out (HDL.out (by trivial)), fun t ht => by
          rcases List.mem_append.1 ht with ht | ht
          · exact ⟨t, List.mem_of_mem_take ht, rfl, rfl⟩
          · exact ⟨t, List.mem_of_mem_drop ht, rfl, rfl⟩⟩
      · obtain rfl : W = w3.setCell ⟨g, i * 2 + 1, none⟩ (.int .i64 (x - 1)) := HW.out
        clear HW c4
        have d1 : (x - 1 == 0) = false := by simp; omega
        have HB4 := keep hb4
        have HX1 := keep hx1
        clear hb4 hx1
        go_wp2_with fail
        go_ret2
        refine ⟨_, L2, true, rfl, ⟨?_, HMT.out, HB4.out⟩, remStep_yes HCF.out (HST'.out HX1.out), fun t ht => by
          rw [HLE.out] at ht
          rcases List.mem_or_eq_of_mem_set ht with ht | rfl
          · exact ⟨t, ht, rfl, rfl⟩
          · exact ⟨L[i], List.getElem_mem hi, rfl, rfl⟩⟩
        rw [HL22.out]
        exact HST.out
    · rw [show decide (cfAt_tm (cfs T) L i = 0) = false from decide_eq_false h0]
      have hcz := cnt_new HA.out h0 HG.out.s
      have HCZ := keep hcz
      have HO3 := keep ho3
      have HT3 := keep hT3
      clear h0 hcz ho3 hT3
      go_wp2_with fail
      go_ret2
      exact ⟨_, L, false, rfl, ⟨HO3.out, HT3.out, hb13⟩, remStep_no HCZ.out, fun t ht => ⟨t, ht, rfl, rfl⟩⟩
end Go.Proofs.Ytigogjlbemkhdaa
