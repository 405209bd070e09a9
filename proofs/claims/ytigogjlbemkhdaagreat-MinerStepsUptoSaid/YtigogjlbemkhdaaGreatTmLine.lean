/- miner.Add, Remove and Merge. -/
import Derived.Test.YtigogjlbemkhdaaGreatTokens
namespace Go.Proofs.YtigogjlbemkhdaaGreat
open Go.RowKit
variable {oB : Nat}
/-- A state in memory. -/
def MS (oB : Nat) (w : World) (v : Value) (L : List Tm) : Prop := Sl w (lt w.heap.size) 2 v L.length (tms L) ∧ ∀ t ∈ L, TkR oB w t
theorem MS.up {w w' : World} {v : Value} {L : List Tm} (h : MS oB w v L) (hb : Below w.heap.size w w') : MS oB w' v L := ⟨h.1.upW hb, fun t ht => (h.2 t ht).up hb⟩
theorem MS.nil (w : World) : MS oB w (.slice none 0 0) [] := ⟨Sl.nil _ _ _ _ _, by simp⟩
structure Good (P : List TP) (N : Int) : Prop where
  s : Srt P
  p : Pos P
  b : sumP P ≤ N
theorem Good.len {L : List Tm} {N : Int} (h : Good (st L) N) (hN : N ≤ 1048576) : L.length ≤ 1048576 := by
  have := sumP_len h.p
  rw [st_len] at this
  have := h.b
  omega
/-- A new state of the call's own. -/
def NewSt (w : World) (v' : Value) (L' : List Tm) (w' : World) : Prop := w'.ownsRow w.heap.size 32 2 v' L'.length (tms L') ∧ (∀ t ∈ L', TkR 0 w' t) ∧ Below w.heap.size w w'
theorem NewSt.ms {w w' : World} {v' : Value} {L' : List Tm} (h : NewSt w v' L' w') : MS 0 w' v' L' := ⟨Sl.of_own h.1, h.2.1⟩
def AddStep (P : List TP) (o : Option (List ByteArray)) (P' : List TP) : Prop := match o with | none => P' = P | some T => Added P P' (strs T) 1
def LineRes (P : List TP) (o : Option (List ByteArray)) (w : World) (x : Ending) (w' : World) : Prop := ∃ v' L', x = .returned v' ∧ NewSt w v' L' w' ∧ AddStep P o (st L')
theorem clone_ms {v : Value} {L : List Tm} {w : World} (h : MS 0 w v L) (hm : L.length ≤ 1048576) : Calls Tryz.prog 25 #[v] w fun x w' => ∃ v', x = .returned v' ∧ NewSt w v' L w' := by
  refine (clone_Tm v L.length (tms L) w _ h.1 (tms_one L fun t ht => (h.2 t ht).form) (fun _ hb => hb) hm).mono ?_
  rintro x w' ⟨v', rfl, ho, hb⟩
  exact ⟨v', rfl, ho, fun t ht => (h.2 t ht).up hb, hb⟩
set_option maxHeartbeats 2000000 in
theorem addLine (v : Value) (L : List Tm) (s : ByteArray) (w : World) (h : MS 0 w v L) (hg : Good (st L) 1048575) (hs : s.size ≤ 4294967296) : Calls Tryz.prog 12 #[v, .string s] w (LineRes (st L) (toks s) w) := by
  have hm := hg.len (by omega)
  have H := keep h
  have HG := keep hg
  obtain ⟨A, c, rfl, _, _⟩ := h.1.form
  have HTK := keep (tokens_any s w hs)
  generalize toks s = o at HTK
  clear h hg
  go_enter Tryz.func12, Tryz.ntmps12
  go_wp2_with fail
  refine HTK.out.mono ?_
  rintro e w1 ⟨tv, T, rfl, hT, hT6, ho, hb1⟩
  obtain ⟨A2, c2, rfl, _⟩ := own_sl ho
  have HO := keep ho
  have HC := keep (clone_ms (H.out.up hb1) hm)
  clear ho HTK
  cases o with
  | none =>
    clear HO hT
    go_wp2_with fail
    refine HC.out.mono ?_
    rintro e w2 ⟨v', rfl, hn⟩
    have HN := keep hn
    clear hn HC
    go_wp2_with fail
    go_ret
    exact ⟨v', L, rfl, ⟨own_base HN.out.1 hb1.size, HN.out.2.1, bchain hb1 HN.out.2.2⟩, rfl⟩
  | some T' =>
    obtain rfl : T = T' := hT
    simp only [Option.isSome_some]
    go_wp2_with fail
    refine HC.out.mono ?_
    rintro e w2 ⟨v', rfl, hn⟩
    have hts := (own_str (oB := 0) HO.out).strUp hn.2.2
    have hlen : T.length ≤ 1048576 := by omega
    have hadd := add_any v' (.slice A2 T.length c2) L T 1 w2 w1.heap.size hn.1 hn.2.2.size hn.2.1 hts hlen HG.out.s HG.out.p (by omega) (by omega) (by have := HG.out.b; omega)
    have HADD := keep hadd
    have HN := keep hn
    clear hn hadd hts HC HO
    go_wp2_with fail
    refine HADD.out.mono ?_
    rintro e w3 ⟨v3, L3, rfl, ho3, hT3, hg3, had⟩
    have hb12 := bchain hb1 HN.out.2.2
    have hb3 : Below w.heap.size w w3 := by
      refine (bchain hb1 HN.out.2.2).grown hg3 hb12.size ?_
      intro k hk
      exact Nat.le_trans hb1.size (HN.out.1.lt k hk).1
    have HO3 := keep ho3
    have HT3 := keep hT3
    have HAD := keep had
    clear ho3 hT3 had hg3
    go_wp2_with fail
    go_ret
    exact ⟨v3, L3, rfl, ⟨own_base HO3.out hb1.size, HT3.out, hb3⟩, HAD.out⟩
theorem cnt_found {s : List ByteArray} {L : List Tm} {i : Nat} (h0 : cfAt_tm (cfs s) L i = 0) (hp : Pos (st L)) : cnt (st L) (strs s) ≠ 0 := by
  obtain ⟨h, he⟩ := at_found h0
  obtain ⟨e1, _⟩ := st_set h L[i]
  rw [e1] at hp ⊢
  rw [cnt_append, cnt, if_pos he]
  have h1 := cnt_nonneg (fun x hx => hp x (List.mem_append_left _ hx)) (L := st (L.take i)) (strs s)
  have h2 := cnt_nonneg (fun x hx => hp x (List.mem_append_right _ (List.mem_cons_of_mem _ hx))) (L := st (L.drop (i + 1))) (strs s)
  have h3 := hp (strs L[i].tk, L[i].ct) (List.mem_append_right _ List.mem_cons_self)
  simp only at h3 ⊢
  omega
theorem cnt_new {s : List ByteArray} {L : List Tm} {i : Nat} (hA : At_tm (cfs s) L i) (h0 : cfAt_tm (cfs s) L i ≠ 0) (hs : Srt (st L)) : cnt (st L) (strs s) = 0 := by
  refine cnt_zero fun t ht e => ?_
  obtain ⟨u, hu, rfl⟩ := List.mem_map.1 ht
  obtain ⟨j, hj, rfl⟩ := List.getElem_of_mem hu
  have hz : cfAt_tm (cfs s) L j = 0 := by rw [cfAt_tm_in hj]; exact cmpT_eq.2 e
  rcases Nat.lt_trichotomy j i with h | h | h
  · have := hA.2.1 j h; omega
  · subst h; exact h0 hz
  · have h1 := hA.2.2 i (Nat.le_refl _)
    have h2 : 0 < cfAt_tm (cfs s) L i := by omega
    rw [cfAt_tm_in (by omega)] at h2
    have h3 := cmpT_trans (cmpT_flip.2 h2) (srt_lt hs h hj)
    simp only at e
    rw [e, cmpT_self] at h3
    omega
def RemStep (P : List TP) (o : Option (List ByteArray)) (ok : Bool) (P' : List TP) : Prop := match o with
  | none => ok = false ∧ P' = P
  | some T => if cnt P (strs T) = 0 then ok = false ∧ P' = P else ok = true ∧ Removed P P' (strs T)
theorem remStep_no {P : List TP} {T : List ByteArray} (h : cnt P (strs T) = 0) : RemStep P (some T) false P := by
  show (if cnt P (strs T) = 0 then (false = false ∧ P = P) else (false = true ∧ Removed P P (strs T)))
  rw [if_pos h]; exact ⟨rfl, rfl⟩
theorem remStep_yes {P P' : List TP} {T : List ByteArray} (h : cnt P (strs T) ≠ 0) (hr : Removed P P' (strs T)) : RemStep P (some T) true P' := by
  show (if cnt P (strs T) = 0 then (true = false ∧ P' = P) else (true = true ∧ Removed P P' (strs T)))
  rw [if_neg h]; exact ⟨rfl, hr⟩
def RemRes (P : List TP) (o : Option (List ByteArray)) (w : World) (x : Ending) (w' : World) : Prop := ∃ v' L' ok, x = .returned (.tuple #[v', .bool ok]) ∧ NewSt w v' L' w' ∧ RemStep P o ok (st L')
theorem removed_del {L : List Tm} {i : Nat} (h : i < L.length) (hs : Srt (st L)) (hp : Pos (st L)) (h1 : L[i].ct = 1) : Removed (st L) (st (L.take i ++ L.drop (i + 1))) (strs L[i].tk) := by
  obtain ⟨e1, _⟩ := st_set h L[i]
  rw [st_append]
  rw [e1] at hs hp ⊢
  exact removed_gone _ _ (strs L[i].tk, L[i].ct) hs hp h1
theorem removed_set {L : List Tm} {i : Nat} (h : i < L.length) (hs : Srt (st L)) (hp : Pos (st L)) (h1 : L[i].ct ≠ 1) : Removed (st L) (st (L.set i ⟨L[i].tv, L[i].tk, L[i].ct - 1⟩)) (strs L[i].tk) := by
  obtain ⟨e1, e2⟩ := st_set h ⟨L[i].tv, L[i].tk, L[i].ct - 1⟩
  rw [e2]
  rw [e1] at hs hp ⊢
  exact removed_at _ _ (strs L[i].tk, L[i].ct) hs hp h1
set_option maxHeartbeats 8000000 in
theorem removeLine (v : Value) (L : List Tm) (s : ByteArray) (w : World) (h : MS 0 w v L) (hg : Good (st L) 1048576) (hs : s.size ≤ 4294967296) : Calls Tryz.prog 9 #[v, .string s] w (RemRes (st L) (toks s) w) := by
  have hm := hg.len (by omega)
  have H := keep h
  have HG := keep hg
  obtain ⟨A, c, rfl, _, _⟩ := h.1.form
  have HC := keep (clone_ms h hm)
  have HTK := keep fun w' => tokens_any s w' hs
  generalize toks s = o at HTK
  clear h hg
  go_enter Tryz.func9, Tryz.ntmps9
  go_wp2_with fail
  refine HC.out.mono ?_
  rintro e w1 ⟨v1, rfl, hn1⟩
  obtain ⟨A1, c1, rfl, _⟩ := own_sl hn1.1
  have HN1 := keep hn1
  clear hn1 HC
  go_wp2_with fail
  refine (HTK.out w1).mono ?_
  rintro e w2 ⟨tv, T, rfl, hT, hT6, ho, hb2⟩
  obtain ⟨A2, c2, rfl, _⟩ := own_sl ho
  have hb12 := bchain HN1.out.2.2 hb2
  have HO := keep ho
  have ho1 := own_bel HN1.out.1 hb2
  have hT1 : ∀ t ∈ L, TkR 0 w2 t := fun t ht => (HN1.out.2.1 t ht).up hb2
  have HO1 := keep ho1
  have HT1 := keep hT1
  clear ho HTK ho1 hT1
  cases o with
  | none =>
    clear HO hT
    go_wp2_with fail
    go_ret2
    exact ⟨_, L, false, rfl, ⟨HO1.out, HT1.out, hb12⟩, rfl, rfl⟩
  | some T' =>
    obtain rfl : T = T' := hT
    have hse := search_any (.slice A1 L.length c1) (.slice A2 T.length c2) L T w2 (Sl.of_own HO1.out) HT1.out (own_str HO.out) HG.out.s hm
    have HSE := keep hse
    clear hse HO
    simp only [Option.isSome_some]
    go_wp2_with fail
    refine HSE.out.mono ?_
    rintro e w3 ⟨i, hA, rfl, hb3⟩
    have hi1 : i ≤ L.length := hA.1
    have hb13 := bchain hb12 hb3
    have HA := keep hA
    have ho3 := own_bel HO1.out hb3
    have hT3 : ∀ t ∈ L, TkR 0 w3 t := fun t ht => (HT1.out t ht).up hb3
    clear hA HSE
    by_cases h0 : cfAt_tm (cfs T) L i = 0
    · rw [show decide (cfAt_tm (cfs T) L i = 0) = true from decide_eq_true h0]
      obtain ⟨hi, hiT⟩ := at_found h0
      have hcf := cnt_found h0 HG.out.p
      have hmem : (strs L[i].tk, L[i].ct) ∈ st L := List.mem_map.2 ⟨L[i], List.getElem_mem hi, rfl⟩
      have hct0 := HG.out.p _ hmem
      have hct1 := sumP_le HG.out.p hmem
      have hsm := HG.out.b
      have hset := tms_set hi (L[i].ct - 1)
      have hdl := removed_del hi HG.out.s HG.out.p
      have hst' := removed_set hi HG.out.s HG.out.p
      rw [hiT] at hdl hst'
      obtain ⟨g, cap, hgA⟩ : ∃ g cap, Value.slice A1 L.length c1 = .slice (some ⟨g, 0, none⟩) L.length cap := by
        rcases ho3.2 with ⟨_, hz⟩ | ⟨g, cap, cur, hv, _⟩
        · omega
        · exact ⟨g, cap, hv⟩
      injection hgA with hgA _ hcap
      subst hgA
      subst hcap
      obtain ⟨b, o, hbo, _, c0, c1'⟩ := tm_cells (Sl.of_own ho3) hi
      injection hbo with hbo
      injection hbo with hb_ ho_
      subst hb_
      subst ho_
      have f1 : w3.frozen? ⟨g, 0 + i * 2 + 1, none⟩ = false := own_frozen ho3 rfl _
      have hst := own_store ho3 rfl (i * 2 + 1) (.int .i64 (L[i].ct - 1))
      rw [hset] at hst
      have hnost := own_noStr ho3 (Nat.zero_le _)
      have hwg : w.heap.size ≤ g := (HN1.out.1.lt g rfl).1
      have hb4 := hb13.setCell (p := ⟨g, i * 2 + 1, none⟩) hwg (.int .i64 (L[i].ct - 1))
      have hT4 : ∀ t ∈ L, TkR 0 (w3.setCell ⟨g, i * 2 + 1, none⟩ (.int .i64 (L[i].ct - 1))) t := fun t ht => (hT3 t ht).grown (grownBy_set (World.grownBy.refl w3 (some g)) _ _) hnost
      have c4 : (w3.setCell ⟨g, i * 2 + 1, none⟩ (.int .i64 (L[i].ct - 1))).cell? ⟨g, i * 2 + 1, none⟩ = some (.int .i64 (L[i].ct - 1)) := by
        rw [own_cell hst rfl (i * 2 + 1) (by rw [Nat.add_comm]; omega), ← hset]
        rw [List.getElem?_set_self (by rw [tms_len]; omega)]
      have hmT : ∀ t ∈ L.set i ⟨L[i].tv, L[i].tk, L[i].ct - 1⟩, TkR 0 (w3.setCell ⟨g, i * 2 + 1, none⟩ (.int .i64 (L[i].ct - 1))) t := by
        intro t ht
        rcases List.mem_or_eq_of_mem_set ht with ht | rfl
        · exact hT4 t ht
        · exact hT4 L[i] (List.getElem_mem hi)
      have hone := tms_one (L.set i ⟨L[i].tv, L[i].tk, L[i].ct - 1⟩) fun t ht => (hmT t ht).form
      obtain ⟨W, hW⟩ : ∃ W, W = w3.setCell ⟨g, i * 2 + 1, none⟩ (.int .i64 (L[i].ct - 1)) := ⟨_, rfl⟩
      obtain ⟨L2, hL2⟩ : ∃ L2, L2 = L.set i ⟨L[i].tv, L[i].tk, L[i].ct - 1⟩ := ⟨_, rfl⟩
      have hl2 : L2.length = L.length := by rw [hL2, List.length_set]
      have htk2 : L2.take i ++ L2.drop (i + 1) = L.take i ++ L.drop (i + 1) := by
        rw [hL2, List.take_set_of_le (Nat.le_refl _), List.drop_set_of_lt (by omega)]
      rw [← hW] at hst hb4 hT4 c4 hmT
      rw [← hL2] at hst hmT hone hst'
      rw [← hl2] at hst
      have hdel := delete_Tm (.slice (some ⟨g, 0, none⟩) L2.length c1) L2.length i (tms L2) W w.heap.size (hl2.symm ▸ hst) (by omega) hone (by omega)
      rw [tms_take L2 i (by omega), tms_drop L2 (i + 1) (by omega), ← tms_append] at hdel
      rw [htk2, hl2] at hdel
      rw [hl2] at hst
      simp only [Nat.zero_add] at c0 c1' f1
      simp only at hct0 hct1
      obtain ⟨x, hx⟩ : ∃ x, x = L[i].ct := ⟨_, rfl⟩
      rw [← hx] at hW c4 c1' hct0 hct1 hdl hst'
      have HW := keep hW
      have HST := keep hst
      have HMT := keep hmT
      have HDEL := keep hdel
      have HDL := keep hdl
      have HST' := keep hst'
      have HCF := keep hcf
      have HT4 := keep hT4
      have HNO := keep (own_noStr hst (Nat.zero_le _))
      have hlen2 : L.length - 1 = (L.take i ++ L.drop (i + 1)).length := by rw [List.length_append, List.length_take, List.length_drop]; omega
      have HL2 := keep hlen2
      have HL22 := keep hl2
      clear hcf hmem hset hst hnost h0 hx ho3 hT3 hW hL2 hl2 htk2 hdel hdl hst' hmT hone hiT hT4 hlen2 HO1 HT1 HN1
      have hi2 : (i : Int) < (L.length : Int) := by omega
      have hi3 : (i : Int) ≤ 1048576 := by omega
      by_cases hx1 : x = 1
      · subst hx1
        obtain rfl : W = w3.setCell ⟨g, i * 2 + 1, none⟩ (.int .i64 0) := HW.out
        clear HW c4
        have HB4 := keep hb4
        clear hb4
        go_wp2_with fail
        refine HDEL.out.mono ?_
        rintro e w5 ⟨v5, rfl, ho5, hg5⟩
        rw [HL2.out] at ho5
        have hb5 := (HB4.out).grown hg5 (HB4.out).size (by intro k hk; obtain rfl : g = k := (by injection hk); exact hwg)
        have hT5 : ∀ t ∈ L.take i ++ L.drop (i + 1), TkR 0 w5 t := fun t ht => by
          refine (HT4.out t ?_).grown hg5 HNO.out
          rcases List.mem_append.1 ht with ht | ht
          · exact List.mem_of_mem_take ht
          · exact List.mem_of_mem_drop ht
        have HO5 := keep ho5
        have HT5 := keep hT5
        clear ho5 hT5 hg5
        go_wp2_with fail
        go_ret2
        exact ⟨v5, _, true, rfl, ⟨HO5.out, HT5.out, hb5⟩, remStep_yes HCF.out (HDL.out (by trivial))⟩
      · obtain rfl : W = w3.setCell ⟨g, i * 2 + 1, none⟩ (.int .i64 (x - 1)) := HW.out
        clear HW c4
        have d1 : (x - 1 == 0) = false := by simp; omega
        have HB4 := keep hb4
        have HX1 := keep hx1
        clear hb4 hx1
        go_wp2_with fail
        go_ret2
        refine ⟨_, L2, true, rfl, ⟨?_, HMT.out, HB4.out⟩, remStep_yes HCF.out (HST'.out HX1.out)⟩
        rw [HL22.out]
        exact HST.out
    · rw [show decide (cfAt_tm (cfs T) L i = 0) = false from decide_eq_false h0]
      have hcz := cnt_new HA.out h0 HG.out.s
      have HCZ := keep hcz
      have HO3 := keep ho3
      have HT3 := keep hT3
      clear h0 hcz ho3 hT3
      go_wp2_with fail
      go_ret2
      exact ⟨_, L, false, rfl, ⟨HO3.out, HT3.out, hb13⟩, remStep_no HCZ.out⟩
end Go.Proofs.YtigogjlbemkhdaaGreat
