/- miner.search and miner.add. -/
import Derived.Test.YtigogjlbemkhdaaGreatBsTm
import Derived.Test.YtigogjlbemkhdaaGreatInsSg
namespace Go.Proofs.YtigogjlbemkhdaaGreat
open Go.RowKit
def st (L : List Tm) : List TP := L.map fun t => (strs t.tk, t.ct)
def cfs (s : List ByteArray) (t : Tm) : Int := cmpT (strs t.tk) (strs s)
theorem st_get {L : List Tm} {j : Nat} (h : j < L.length) : (st L)[j]? = some (strs L[j].tk, L[j].ct) := by simp [st, h]
theorem st_len (L : List Tm) : (st L).length = L.length := by simp [st]
theorem srt_lt {L : List Tm} (h : Srt (st L)) {a b : Nat} (hab : a < b) (hb : b < L.length) : cmpT (strs L[a].tk) (strs L[b].tk) < 0 := by
  have h1 := List.pairwise_iff_getElem.1 h a b (by rw [st_len]; omega) (by rw [st_len]; exact hb) hab
  simpa [st] using h1
theorem cf_mono {L : List Tm} (h : Srt (st L)) (s : List ByteArray) : ∀ a b, a ≤ b → b < L.length → cfAt_tm (cfs s) L b < 0 → cfAt_tm (cfs s) L a < 0 := by
  intro a b hab hb hn
  by_cases e : a = b
  · subst e; exact hn
  · rw [cfAt_tm_in hb] at hn
    rw [cfAt_tm_in (by omega)]
    exact cmpT_trans (srt_lt h (by omega) hb) hn
theorem search_any (v sv : Value) (L : List Tm) (s : List ByteArray) (w : World) (hs : Sl w (lt w.heap.size) 2 v L.length (tms L)) (hT : ∀ t ∈ L, TkR 0 w t) (h2 : Sl w (strB 0 w) 1 sv s.length (s.map .string))
    (hsrt : Srt (st L)) (hm : L.length ≤ 1048576) : Calls Tryz.prog 27 #[v, sv] w (BsRes_tm (cfs s) L w) := by
  have H := bsearch_tm 49 v sv #[] (cfs s) L w (fun args w => by kernel_rfl) hs (fun t ht W hb => by
    rw [Array.append_empty]
    exact cmp_tm t sv s W ((hT t ht).up hb) (h2.strUp hb).str) (cf_mono hsrt s) hm
  have HH := keep H
  clear H hs hT h2 hsrt hm
  go_enter Tryz.func27, Tryz.ntmps27
  go_wp2_with fail
  refine HH.out.mono ?_
  rintro e w1 ⟨i, hA, rfl, hb⟩
  have HA := keep hA
  clear hA
  go_wp2_with fail
  go_ret2
  exact ⟨i, HA.out, rfl, hb⟩
theorem at_found {s : List ByteArray} {L : List Tm} {i : Nat} (h0 : cfAt_tm (cfs s) L i = 0) : ∃ h : i < L.length, strs L[i].tk = strs s := by
  have h : i < L.length := by
    rcases Nat.lt_or_ge i L.length with h | h
    · exact h
    · rw [cfAt_tm_out h] at h0; omega
  rw [cfAt_tm_in h] at h0
  exact ⟨h, cmpT_eq.1 h0⟩
theorem st_append (A B : List Tm) : st (A ++ B) = st A ++ st B := by simp [st]
theorem st_set {L : List Tm} {i : Nat} (h : i < L.length) (t : Tm) : st L = st (L.take i) ++ (strs L[i].tk, L[i].ct) :: st (L.drop (i + 1)) ∧ st (L.set i t) = st (L.take i) ++ (strs t.tk, t.ct) :: st (L.drop (i + 1)) := by
  constructor
  · have : L = L.take i ++ L[i] :: L.drop (i + 1) := by rw [← List.drop_eq_getElem_cons h, List.take_append_drop]
    have h2 := congrArg st this
    rw [st_append] at h2
    exact h2
  · rw [List.set_eq_take_append_cons_drop, if_pos h, st_append]; rfl
theorem added_found {s : List ByteArray} {L : List Tm} {i : Nat} (h0 : cfAt_tm (cfs s) L i = 0) (h : i < L.length) (hs : Srt (st L)) (hp : Pos (st L)) (n : Int) (hn : 0 ≤ n) :
    Added (st L) (st (L.set i ⟨L[i].tv, L[i].tk, L[i].ct + n⟩)) (strs s) n := by
  obtain ⟨_, he⟩ := at_found h0
  obtain ⟨e1, e2⟩ := st_set h ⟨L[i].tv, L[i].tk, L[i].ct + n⟩
  rw [e2]
  rw [e1] at hs hp ⊢
  have := added_at _ _ (strs L[i].tk, L[i].ct) n hs hp hn
  rw [he] at this ⊢
  exact this
theorem added_new {s : List ByteArray} {L : List Tm} {i : Nat} (hA : At_tm (cfs s) L i) (h0 : cfAt_tm (cfs s) L i ≠ 0) (hs : Srt (st L)) (hp : Pos (st L)) (t : Tm) (ht : strs t.tk = strs s) (hn : 1 ≤ t.ct) :
    Added (st L) (st (L.take i ++ [t] ++ L.drop i)) (strs s) t.ct := by
  have e : st L = st (L.take i) ++ st (L.drop i) := by rw [← st_append, List.take_append_drop]
  have e2 : st (L.take i ++ [t] ++ L.drop i) = st (L.take i) ++ [(strs s, t.ct)] ++ st (L.drop i) := by rw [st_append, st_append, ← ht]; rfl
  rw [e2]
  have hs' := hs
  rw [e] at hs' hp ⊢
  refine added_split _ _ _ _ hs' hp hn ?_ ?_
  · intro x hx
    obtain ⟨u, hu, rfl⟩ := List.mem_map.1 hx
    obtain ⟨j, hj, rfl⟩ := List.getElem_of_mem hu
    rw [List.length_take] at hj
    have h1 := hA.2.1 j (by omega)
    rw [cfAt_tm_in (show j < L.length by omega)] at h1
    rw [List.getElem_take]
    exact h1
  · intro x hx
    obtain ⟨u, hu, rfl⟩ := List.mem_map.1 hx
    obtain ⟨j, hj, rfl⟩ := List.getElem_of_mem hu
    rw [List.length_drop] at hj
    rw [List.getElem_drop]
    have hi : i < L.length := by omega
    have h1 := hA.2.2 i (Nat.le_refl _)
    have h2 : 0 < cfAt_tm (cfs s) L i := by omega
    rw [cfAt_tm_in hi] at h2
    have h3 := cmpT_flip.2 h2
    by_cases hj0 : j = 0
    · subst hj0; exact h3
    · exact cmpT_trans h3 (srt_lt hs (by omega) (by omega))
theorem tms_append (A B : List Tm) : tms (A ++ B) = tms A ++ tms B := by simp [tms]
theorem tms_take (L : List Tm) (i : Nat) (h : i ≤ L.length) : (tms L).take (i * 2) = tms (L.take i) := by
  have : tms L = tms (L.take i) ++ tms (L.drop i) := by rw [← tms_append, List.take_append_drop]
  rw [this]
  have hl : (tms (L.take i)).length = i * 2 := by rw [tms_len, List.length_take, Nat.min_eq_left h]
  rw [← hl, List.take_left]
theorem tms_drop (L : List Tm) (i : Nat) (h : i ≤ L.length) : (tms L).drop (i * 2) = tms (L.drop i) := by
  have : tms L = tms (L.take i) ++ tms (L.drop i) := by rw [← tms_append, List.take_append_drop]
  rw [this]
  have hl : (tms (L.take i)).length = i * 2 := by rw [tms_len, List.length_take, Nat.min_eq_left h]
  rw [← hl, List.drop_left]
theorem tms_set {L : List Tm} {i : Nat} (h : i < L.length) (c : Int) : (tms L).set (i * 2 + 1) (.int .i64 c) = tms (L.set i ⟨L[i].tv, L[i].tk, c⟩) := by
  have e1 : L = L.take i ++ [L[i]] ++ L.drop (i + 1) := by rw [List.append_assoc, List.singleton_append, ← List.drop_eq_getElem_cons h, List.take_append_drop]
  have hl : (tms (L.take i)).length = i * 2 := by rw [tms_len, List.length_take, Nat.min_eq_left (by omega)]
  have e2 : L.set i ⟨L[i].tv, L[i].tk, c⟩ = L.take i ++ [⟨L[i].tv, L[i].tk, c⟩] ++ L.drop (i + 1) := by rw [List.set_eq_take_append_cons_drop, if_pos h]; simp
  rw [e2]
  have e3 : tms L = tms (L.take i) ++ (tmV L[i] ++ tms (L.drop (i + 1))) := by
    have := congrArg tms e1
    rw [tms_append, tms_append, List.append_assoc] at this
    rw [this]; simp [tms]
  rw [e3, tms_append, tms_append, List.append_assoc, List.set_append_right _ _ (by omega), hl, show i * 2 + 1 - i * 2 = 1 by omega]
  simp [tmV, tms]
theorem tms_one (L : List Tm) (h : ∀ t ∈ L, ∃ A n c, t.tv = .slice A n c) : ∀ u ∈ tms L, u.oneCell' = true := by
  intro u hu
  unfold tms at hu
  obtain ⟨t, ht, hu⟩ := List.mem_flatMap.1 hu
  obtain ⟨A, n, c, hv⟩ := h t ht
  simp only [tmV, List.mem_cons, List.not_mem_nil, or_false] at hu
  rcases hu with rfl | rfl
  · rw [hv]; rfl
  · rfl
theorem sum_any (a b : Int) (w : World) (ha : 0 ≤ a) (hb : 0 ≤ b) (ha1 : a ≤ 1000000000) (hb1 : b ≤ 1000000000) : Calls Tryz.prog 36 #[.int .i64 a, .int .i64 b] w fun e w' => e = .returned (.int .i64 (a + b)) ∧ w = w' := by
  have h1 : IntKind.i64.wrap (9223372036854775807 - b) = 9223372036854775807 - b := IntWalk.i64_in _ (by omega)
  have h2 : ¬ (9223372036854775807 - b < a) := by omega
  go_enter Tryz.func36, Tryz.ntmps36
  go_wp2_with fail
  go_ret
  exact ⟨rfl, rfl⟩
/-- A state that was changed: what it is now. -/
def AddRes (P : List TP) (T : List (List UInt8)) (n : Int) (w : World) (B : Nat) (v : Value) (x : Ending) (w' : World) : Prop :=
  ∃ (v' : Value) (L' : List Tm), x = .returned v' ∧ w'.ownsRow B 32 2 v' L'.length (tms L') ∧ (∀ t ∈ L', TkR 0 w' t) ∧ w.grownBy w' v.ownBlock ∧ Added P (st L') T n
set_option maxHeartbeats 4000000 in
theorem add_any (v tv : Value) (L : List Tm) (s : List ByteArray) (n : Int) (w : World) (B : Nat) (hown : w.ownsRow B 32 2 v L.length (tms L)) (hB : B ≤ w.heap.size) (hT : ∀ t ∈ L, TkR 0 w t) (h2 : Sl w (strB 0 w) 1 tv s.length (s.map .string)) (hs1 : s.length ≤ 1048576)
    (hsrt : Srt (st L)) (hpos : Pos (st L)) (hn : 1 ≤ n) (hn2 : n ≤ 1048576) (hsum : sumP (st L) ≤ 1048576) : Calls Tryz.prog 32 #[v, tv, .int .i64 n] w (AddRes (st L) (strs s) n w B v) := by
  have hm : L.length ≤ 1048576 := by
    have := sumP_len hpos
    rw [st_len] at this
    omega
  have hform : ∀ t ∈ L, ∃ A n c, t.tv = .slice A n c := fun t ht => (hT t ht).form
  obtain ⟨A, c, rfl, hc⟩ := own_sl hown
  have HSE := keep (search_any _ tv L s w (Sl.of_own hown) hT h2 hsrt hm)
  have HOWN := keep hown
  have HT := keep hT
  have H2 := keep h2
  have HS := keep hsrt
  have HP := keep hpos
  have HF := keep hform
  have HSUM := keep hsum
  clear hown hT h2 hsrt hpos hform hsum hc
  go_enter Tryz.func32, Tryz.ntmps32
  go_wp2_with fail
  refine HSE.out.mono ?_
  rintro e w1 ⟨i, hA, rfl, hb1⟩
  have hi1 : i ≤ L.length := hA.1
  have HA := keep hA
  have ho1 := own_bel HOWN.out hb1
  clear hA HSE
  by_cases h0 : cfAt_tm (cfs s) L i = 0
  · rw [show decide (cfAt_tm (cfs s) L i = 0) = true from decide_eq_true h0]
    obtain ⟨hi, _⟩ := at_found h0
    have hadd := added_found h0 hi HS.out HP.out n (by omega)
    have hmem : (strs L[i].tk, L[i].ct) ∈ st L := List.mem_map.2 ⟨L[i], List.getElem_mem hi, rfl⟩
    have hct0 := HP.out _ hmem
    have hct1 := sumP_le HP.out hmem
    have hsm := HSUM.out
    have hset := tms_set hi (L[i].ct + n)
    have hTk := HT.out _ (List.getElem_mem hi)
    obtain ⟨g, cap, hgA⟩ : ∃ g cap, Value.slice A L.length c = .slice (some ⟨g, 0, none⟩) L.length cap := by
      rcases ho1.2 with ⟨_, hz⟩ | ⟨g, cap, cur, hv, _⟩
      · omega
      · exact ⟨g, cap, hv⟩
    injection hgA with hgA _ hcap
    subst hgA
    subst hcap
    obtain ⟨b, o, hbo, _, c0, c1⟩ := tm_cells (Sl.of_own ho1) hi
    injection hbo with hbo
    injection hbo with hb_ ho_
    subst hb_
    subst ho_
    have f1 : w1.frozen? ⟨g, 0 + i * 2 + 1, none⟩ = false := own_frozen ho1 rfl _
    have hst := own_store ho1 rfl (i * 2 + 1) (.int .i64 (L[i].ct + n))
    rw [hset] at hst
    have hnost := own_noStr ho1 (Nat.zero_le _)
    have hgw : w.grownBy (w1.setCell ⟨g, i * 2 + 1, none⟩ (.int .i64 (L[i].ct + n))) (some g) := grownBy_set (grownBy_of_below hb1 _) _ _
    simp only [Nat.zero_add] at c0 c1 f1
    simp only at hct0 hct1
    have HADD := keep hadd
    have HST := keep hst
    have HGW := keep hgw
    have HNO := keep (fun t ht => ((HT.out t ht).up hb1).grown (grownBy_set (World.grownBy.refl w1 (some g)) (i * 2 + 1) (.int .i64 (L[i].ct + n))) hnost)
    obtain ⟨x, hx⟩ : ∃ x, x = L[i].ct := ⟨_, rfl⟩
    have HX := keep hx
    rw [← hx] at c1 hct0 hct1
    clear hadd hmem hset hst hgw hnost h0 hTk hx ho1 HOWN
    have hi2 : (i : Int) < (L.length : Int) := by omega
    have hi3 : (i : Int) ≤ 1048576 := by omega
    go_wp2_with fail
    refine (sum_any x n w1 (by omega) (by omega) (by omega) (by omega)).mono ?_
    rintro e w2 ⟨rfl, rfl⟩
    go_wp2_with fail
    go_ret
    refine ⟨_, L.set i ⟨L[i].tv, L[i].tk, L[i].ct + n⟩, rfl, ?_, ?_, ?_, HADD.out⟩
    · rw [List.length_set]
      have := HST.out
      rw [← HX.out] at this ⊢
      exact this
    · intro t ht
      rw [HX.out]
      rcases List.mem_or_eq_of_mem_set ht with ht | rfl
      · exact HNO.out t ht
      · exact HNO.out L[i] (List.getElem_mem hi)
    · have := HGW.out
      rw [← HX.out] at this
      exact this
  · rw [show decide (cfAt_tm (cfs s) L i = 0) = false from decide_eq_false h0]
    have H0 := keep h0
    have HO1 := keep ho1
    have h2w := H2.out.strUp hb1
    have hcl := clone_Sg tv s.length (s.map .string) w1 _ h2w (oneCells _ (fun _ => rfl) s) (fun _ hb => hb.lt_) hs1
    have HCL := keep hcl
    clear h0 ho1 h2w hcl
    go_wp2_with fail
    refine HCL.out.mono ?_
    rintro e w2 ⟨tv2, rfl, ho2, hb2⟩
    have hts := own_str (oB := 0) ho2
    obtain ⟨A2, c2, rfl, _⟩ := own_sl ho2
    have hb12 := bchain hb1 hb2
    have hbA : Below w2.heap.size w2 (w2.alloc (.cells #[.slice A2 s.length c2, .int .i64 n] 32)) := (Below.refl _ w2).alloc (Nat.le_refl _) _
    have hBk : Blk (w2.alloc (.cells #[.slice A2 s.length c2, .int .i64 n] 32)) w2.heap.size 32 #[.slice A2 s.length c2, .int .i64 n] := Blk.new _ _ _
    have ho3 := own_bel (own_bel HO1.out hb2) hbA
    have hne : (Value.slice A L.length c).ownBlock ≠ some w2.heap.size := by
      intro e
      have := (own_bel HO1.out hb2).lt _ e
      omega
    have hone := tms_one L HF.out
    have hBz : B ≤ (w2.alloc (.cells #[.slice A2 s.length c2, .int .i64 n] 32)).heap.size := Nat.le_trans (Nat.le_trans hB hb12.size) hbA.size
    obtain ⟨w3, hw3⟩ : ∃ w3, w3 = w2.alloc (.cells #[.slice A2 s.length c2, .int .i64 n] 32) := ⟨_, rfl⟩
    rw [← hw3] at hbA hBk ho3 hBz
    have hins := insert_Tm _ L.length i (tms L) [.slice A2 s.length c2, .int .i64 n] w2.heap.size w3 B ho3 hBz hi1 hBk rfl hne hone (by intro u hu; simp at hu; rcases hu with rfl | rfl <;> rfl) hm
    rw [hw3] at hins
    have HINS := keep hins
    have HBA := keep (bchain hb12 hbA)
    have HTS := keep (hts.strUp hbA)
    have HO3 := keep ho3
    have HW3 := keep hw3
    clear hins hbA hBk ho3 hne hone hBz hts ho2 HCL HO1 hb2 hb12 hw3
    go_wp2_with fail
    refine HINS.out.mono ?_
    rintro e w4 ⟨v', rfl, ho4, hg4⟩
    rw [← HW3.out] at hg4
    have hg04 := grownBy_trans (grownBy_of_below HBA.out (Value.slice A L.length c).ownBlock) hg4
    have hnost := own_noStr HO3.out (Nat.zero_le _)
    have hadd := added_new HA.out H0.out HS.out HP.out ⟨.slice A2 s.length c2, s, n⟩ rfl hn
    have hrow : (tms L).take (i * 2) ++ [.slice A2 s.length c2, .int .i64 n] ++ (tms L).drop (i * 2) = tms (L.take i ++ [⟨.slice A2 s.length c2, s, n⟩] ++ L.drop i) := by
      rw [tms_take L i hi1, tms_drop L i hi1, tms_append, tms_append]; rfl
    rw [hrow] at ho4
    have hlen : L.length + 1 = (L.take i ++ [(⟨.slice A2 s.length c2, s, n⟩ : Tm)] ++ L.drop i).length := by
      rw [List.length_append, List.length_append, List.length_take, List.length_drop]; simp; omega
    rw [hlen] at ho4
    have hall : ∀ t ∈ L.take i ++ [(⟨.slice A2 s.length c2, s, n⟩ : Tm)] ++ L.drop i, TkR 0 w4 t := by
      intro t ht
      have hold : ∀ t ∈ L, TkR 0 w4 t := fun t ht => ((HT.out t ht).up HBA.out).grown hg4 hnost
      rcases List.mem_append.1 ht with ht | ht
      · rcases List.mem_append.1 ht with ht | ht
        · exact hold t (List.mem_of_mem_take ht)
        · rw [List.mem_singleton.1 ht]
          exact TkR.grown (t := ⟨.slice A2 s.length c2, s, n⟩) ⟨HTS.out, hs1⟩ hg4 hnost
      · exact hold t (List.mem_of_mem_drop ht)
    have HALL := keep hall
    have HADD := keep hadd
    have HO4 := keep ho4
    have HG := keep hg04
    clear hall hadd ho4 hg04 hrow hlen hnost hg4
    go_wp2_with fail
    go_ret
    exact ⟨_, _, rfl, HO4.out, HALL.out, HG.out, HADD.out⟩
end Go.Proofs.YtigogjlbemkhdaaGreat
