/- The reference's count and Add. -/
import Derived.Test.YtigogjlbemkhdaaGreatRefIns
namespace Go.Proofs.YtigogjlbemkhdaaGreat
open Go.RowKit
theorem added_ins {L : List Tm} {t : Tm} {k : Nat} (hk : k ≤ L.length) (hP : insPre L t k) (hS : ∀ (j : Nat) (h : j < L.length), j + 1 = k → ¬ cmpT (strs t.tk) (strs L[j].tk) < 0) (hne : ∀ u ∈ L, t.tk ≠ u.tk) (hs : Srt (st L)) (hp : Pos (st L)) (hn : 1 ≤ t.ct) :
    Added (st L) (st (insRow L k t)) (strs t.tk) t.ct := by
  have e : st L = st (L.take k) ++ st (L.drop k) := by rw [← st_append, List.take_append_drop]
  have e2 : st (insRow L k t) = st (L.take k) ++ [(strs t.tk, t.ct)] ++ st (L.drop k) := by unfold insRow; rw [st_append, st_append]; rfl
  rw [e2]
  have hs' := hs
  rw [e] at hs' hp ⊢
  refine added_split _ _ _ _ hs' hp hn ?_ ?_
  · intro x hx
    obtain ⟨u, hu, rfl⟩ := List.mem_map.1 hx
    obtain ⟨j, hj, rfl⟩ := List.getElem_of_mem hu
    rw [List.length_take] at hj
    rw [List.getElem_take]
    have hq : k - 1 < L.length := by omega
    have h1 := hS (k - 1) hq (by omega)
    have h2 : cmpT (strs L[k - 1].tk) (strs t.tk) < 0 := by
      have h3 : cmpT (strs t.tk) (strs L[k - 1].tk) ≠ 0 := fun e => hne _ (List.getElem_mem hq) (strs_inj (cmpT_eq.1 e))
      exact cmpT_flip.2 (by omega)
    by_cases hjk : j = k - 1
    · subst hjk; exact h2
    · exact cmpT_trans (srt_lt hs (by omega) hq) h2
  · intro x hx
    obtain ⟨u, hu, rfl⟩ := List.mem_map.1 hx
    obtain ⟨j, hj, rfl⟩ := List.getElem_of_mem hu
    rw [List.length_drop] at hj
    rw [List.getElem_drop]
    exact hP (k + j) (by omega) (by omega)
theorem added_found2 {L : List Tm} {i : Nat} (h : i < L.length) (hs : Srt (st L)) (hp : Pos (st L)) (n : Int) (hn : 0 ≤ n) {T : List (List UInt8)} (hT : strs L[i].tk = T) : Added (st L) (st (L.set i ⟨L[i].tv, L[i].tk, L[i].ct + n⟩)) T n := by
  subst hT
  obtain ⟨e1, e2⟩ := st_set h ⟨L[i].tv, L[i].tk, L[i].ct + n⟩
  rw [e2]
  rw [e1] at hs hp ⊢
  exact added_at _ _ (strs L[i].tk, L[i].ct) n hs hp hn
/-- Whose tokens a state's are: an older state's, or a template's. -/
def Kin (L : List Tm) (t : Tm) (L' : List Tm) : Prop := ∀ u ∈ L', (∃ x ∈ L, x.tv = u.tv ∧ x.tk = u.tk) ∨ (u.tv = t.tv ∧ u.tk = t.tk)
def CountRes (L : List Tm) (t : Tm) (w : World) (x : Ending) (w' : World) : Prop := ∃ v' L', x = .returned v' ∧ NewSt w v' L' w' ∧ Added (st L) (st L') (strs t.tk) t.ct ∧ Kin L t L'
set_option maxHeartbeats 8000000 in
set_option maxRecDepth 100000 in
theorem count_any (v : Value) (L : List Tm) (t : Tm) (w : World) (h : MS 0 w v L) (ht : TkR 0 w t) (hg : Good (st L) 1048576) (hn : 1 ≤ t.ct) (hn2 : t.ct ≤ 1048576) : Calls Tryz.prog 33 #[v, .agg (tmV t).toArray] w (CountRes L t w) := by
  have hm := hg.len (by omega)
  obtain ⟨A, c, rfl, _, _⟩ := h.1.form
  obtain ⟨A2, n2, c2, hv2⟩ := ht.form
  have hb1 : Below w.heap.size w (w.alloc (.cells #[t.tv, .int .i64 t.ct] 32)) := (Below.refl _ w).alloc (Nat.le_refl _) _
  have hB1 : Blk (w.alloc (.cells #[t.tv, .int .i64 t.ct] 32)) w.heap.size 32 #[t.tv, .int .i64 t.ct] := Blk.new w _ _
  have hT1 := ht.up hb1
  have hM1 := h.up hb1
  have hone := tms_one L fun t ht => (h.2 t ht).form
  obtain ⟨w1, hw1⟩ : ∃ w1, w1 = w.alloc (.cells #[t.tv, .int .i64 t.ct] 32) := ⟨_, rfl⟩
  rw [← hw1] at hb1 hB1 hT1 hM1
  have hfind := find_any _ L t w1 hM1 hT1 hm
  have HM := keep hM1
  have HT := keep hT1
  have HO := keep hone
  have HG := keep hg
  obtain ⟨tv, tk, ct⟩ := t
  simp only at hv2 hB1 hw1 hn hn2
  subst hv2
  simp only [tmV] at hfind ⊢
  have HF := keep hfind
  have HW := keep hw1
  have HB := keep hb1
  have l1 := hB1.lt
  have e0 : w1.cell? ⟨w.heap.size, 0, none⟩ = some (.slice A2 n2 c2) := (hB1.cell 0).trans rfl
  have e1 : w1.cell? ⟨w.heap.size, 1, none⟩ = some (.int .i64 ct) := (hB1.cell 1).trans rfl
  rw [hw1] at e0 e1
  clear h ht hw1 hM1 hT1 hb1 hone hfind hg
  go_enter Tryz.func33, Tryz.ntmps33
  go_wp2_with fail
  rw [← HW.out]
  clear e0 e1
  refine HF.out.mono ?_
  rintro e w2 ⟨hres, hb2⟩
  have HB2 := keep hb2
  have e0 : w2.cell? ⟨w.heap.size, 0, none⟩ = some (.slice A2 n2 c2) := ((hB1.below hb2 l1).cell 0).trans rfl
  have e1 : w2.cell? ⟨w.heap.size, 1, none⟩ = some (.int .i64 ct) := ((hB1.below hb2 l1).cell 1).trans rfl
  rcases hres with ⟨k, hk, hkt, rfl⟩ | ⟨hnone, rfl⟩
  · have HK := keep hkt
    have hs2 := (HM.out.up hb2).1
    have HS2 := keep hs2
    have k1 : (k : Int) < (L.length : Int) := by omega
    have k2 : (k : Int) ≤ 1048576 := by omega
    have k3 : ¬ ((k : Int) < 0) := by omega
    clear hkt hs2 HF
    go_wp2_with (refine wpList_appendS elTm rfl (.const (.slice none 0 0)) _ rfl w2.heap.size _ 0 [] rfl (World.ownsRow_nil _ _ _ _) _ _ L.length (tms L) rfl HS2.out HO.out (by unfold maxLen; omega) (by omega) (Nat.le_refl _) ?_; intro v3 w3 hown3 hb3 hg3)
    rw [Nat.zero_add, List.nil_append] at hown3
    obtain ⟨g, cap, hv⟩ : ∃ g cap, v3 = .slice (some ⟨g, 0, none⟩) L.length cap := by
      rcases hown3.2 with ⟨_, hz⟩ | ⟨g, cap, cur, hv, _⟩
      · omega
      · exact ⟨g, cap, hv⟩
    subst hv
    have hgl := (hown3.lt g rfl).2
    have hgb := (hown3.lt g rfl).1
    have r0 := tms_at L k hk 0 (by omega)
    have r1 := tms_at L k hk 1 (by omega)
    have c1 : w3.drew.cell? ⟨g, k * 2 + 1, none⟩ = some (.int .i64 L[k].ct) := (own_cell hown3 rfl (k * 2 + 1) (by omega)).trans (r1.trans rfl)
    have f1 : w3.drew.frozen? ⟨g, k * 2 + 1, none⟩ = false := own_frozen hown3 rfl _
    have e3 : w3.drew.cell? ⟨w.heap.size, 1, none⟩ = some (.int .i64 ct) := (hb3.cell (p := ⟨w.heap.size, 1, none⟩) (Nat.lt_of_lt_of_le l1 hb2.size)).trans e1
    have hmem : (strs L[k].tk, L[k].ct) ∈ st L := List.mem_map.2 ⟨L[k], List.getElem_mem hk, rfl⟩
    have hct0 := HG.out.p _ hmem
    have hct1 := sumP_le HG.out.p hmem
    have hsm := HG.out.b
    have hset := tms_set hk (L[k].ct + ct)
    have hadd := added_found2 hk HG.out.s HG.out.p ct (by omega) (T := strs tk) (by rw [HK.out])
    have hst := own_store hown3 rfl (k * 2 + 1) (.int .i64 (L[k].ct + ct))
    rw [hset] at hst
    have hnost := own_noStr hown3 (Nat.zero_le _)
    have hb13 : Below w.heap.size w w3 := HB.out.trans ((HB2.out.trans (hb3.mono HB2.out.size)).mono HB.out.size)
    have hbw : Below w.heap.size w (w3.setCell ⟨g, k * 2 + 1, none⟩ (.int .i64 (L[k].ct + ct))) := hb13.setCell (p := ⟨g, k * 2 + 1, none⟩) (Nat.le_trans (Nat.le_trans HB.out.size HB2.out.size) hgb) _
    have hTs : ∀ u ∈ L, TkR 0 (w3.setCell ⟨g, k * 2 + 1, none⟩ (.int .i64 (L[k].ct + ct))) u := fun u hu => ((((HM.out.2 u hu).up HB2.out).up hb3)).grown (grownBy_set (World.grownBy.refl w3 (some g)) _ _) hnost
    have hTk : TkR 0 (w3.setCell ⟨g, k * 2 + 1, none⟩ (.int .i64 (L[k].ct + ct))) ⟨L[k].tv, L[k].tk, L[k].ct + ct⟩ := ⟨(hTs _ (List.getElem_mem hk)).1, (hTs _ (List.getElem_mem hk)).2⟩
    have hall : ∀ u ∈ L.set k ⟨L[k].tv, L[k].tk, L[k].ct + ct⟩, TkR 0 (w3.setCell ⟨g, k * 2 + 1, none⟩ (.int .i64 (L[k].ct + ct))) u := fun u hu => by
      rcases List.mem_or_eq_of_mem_set hu with hu | rfl
      · exact hTs u hu
      · exact hTk
    have hl2 : (L.set k ⟨L[k].tv, L[k].tk, L[k].ct + ct⟩).length = L.length := List.length_set
    have hkin : Kin L ⟨.slice A2 n2 c2, tk, ct⟩ (L.set k ⟨L[k].tv, L[k].tk, L[k].ct + ct⟩) := fun u hu => by
      rcases List.mem_or_eq_of_mem_set hu with hu | rfl
      · exact .inl ⟨u, hu, rfl, rfl⟩
      · exact .inl ⟨L[k], List.getElem_mem hk, rfl, rfl⟩
    obtain ⟨L2, hL2⟩ : ∃ L2, L2 = L.set k ⟨L[k].tv, L[k].tk, L[k].ct + ct⟩ := ⟨_, rfl⟩
    rw [← hL2] at hadd hst hall hl2 hkin
    have HKIN := keep hkin
    clear hkin
    obtain ⟨x, hx⟩ : ∃ x, x = L[k].ct := ⟨_, rfl⟩
    rw [← hx] at c1 hst hbw hall
    simp only at hct0 hct1
    rw [← hx] at hct0 hct1
    have HADD := keep hadd
    have HST := keep hst
    have HBW := keep hbw
    have HALL := keep hall
    have HL2 := keep hl2
    have HSUM := keep (refSum_any x ct w3.drew (by omega) (by omega) (by omega) (by omega))
    clear hadd hst hbw hall hl2 hx hL2 hset hmem r0 r1 hTs hTk hnost hb13 hown3 e0 e1
    refine wp_region_still_tail 12 (by kernel_rfl) (by kernel_rfl) ?_
    simp only [List.take_succ_cons, List.take_zero, List.drop_succ_cons, List.drop_zero]
    iterate 9 still_step
    still_call HSUM.out
    iterate 2 still_step
    refine wpStill_nil ?_
    change wpList _ _ _ _ _ w3.drew
    go_wp2_with fail
    go_ret
    refine ⟨_, L2, rfl, ⟨?_, HALL.out, HBW.out.drew⟩, HADD.out, HKIN.out⟩
    rw [HL2.out]
    exact own_base HST.out (Nat.le_trans HB.out.size HB2.out.size)
  · have hins := insert_any _ L ⟨.slice A2 n2 c2, tk, ct⟩ w2 (HM.out.up hb2) (HT.out.up hb2) (fun u hu e => hnone u hu e.symm) hm
    have HI := keep hins
    have HN := keep hnone
    simp only [tmV] at HI
    clear hins hnone HF
    go_wp2_with fail
    refine HI.out.mono ?_
    rintro e w3 ⟨v3, k, rfl, hk, hP, hS, hown, hb3⟩
    have hadd := added_ins (t := ⟨.slice A2 n2 c2, tk, ct⟩) hk hP hS (fun u hu e => HN.out u hu e.symm) HG.out.s HG.out.p hn
    have hall : ∀ u ∈ insRow L k ⟨.slice A2 n2 c2, tk, ct⟩, TkR 0 w3 u := fun u hu => by
      have hold : ∀ u ∈ L, TkR 0 w3 u := fun u hu => ((HM.out.2 u hu).up HB2.out).up hb3
      rcases List.mem_append.1 hu with hu | hu
      · rcases List.mem_append.1 hu with hu | hu
        · exact hold u (List.mem_of_mem_take hu)
        · rw [List.mem_singleton.1 hu]; exact (HT.out.up HB2.out).up hb3
      · exact hold u (List.mem_of_mem_drop hu)
    have hkin : Kin L ⟨.slice A2 n2 c2, tk, ct⟩ (insRow L k ⟨.slice A2 n2 c2, tk, ct⟩) := fun u hu => by
      rcases List.mem_append.1 hu with hu | hu
      · rcases List.mem_append.1 hu with hu | hu
        · exact .inl ⟨u, List.mem_of_mem_take hu, rfl, rfl⟩
        · rw [List.mem_singleton.1 hu]; exact .inr ⟨rfl, rfl⟩
      · exact .inl ⟨u, List.mem_of_mem_drop hu, rfl, rfl⟩
    have HKIN := keep hkin
    have hlen := insRow_len L k hk ⟨.slice A2 n2 c2, tk, ct⟩
    rw [← hlen] at hown
    have HADD := keep hadd
    have HALL := keep hall
    have HOW := keep hown
    clear hadd hall hown hlen hP hS hkin
    go_wp2_with fail
    go_ret
    exact ⟨_, _, rfl, ⟨own_base HOW.out (Nat.le_trans HB.out.size HB2.out.size), HALL.out, HB.out.trans ((HB2.out.trans (hb3.mono HB2.out.size)).mono HB.out.size)⟩, HADD.out, HKIN.out⟩
/-- The reference's Add: the state itself, or a new one. -/
def RAddRes (L : List Tm) (v : Value) (o : Option (List (List UInt8))) (w : World) (x : Ending) (w' : World) : Prop := ∃ v' L', x = .returned v' ∧ MS 0 w' v' L' ∧ Below w.heap.size w w' ∧ (match o with | none => L' = L ∧ v' = v | some T => Added (st L) (st L') T 1 ∧ w'.ownsRow w.heap.size 32 2 v' L'.length (tms L') ∧ ∀ u ∈ L', (∃ x ∈ L, x.tv = u.tv ∧ x.tk = u.tk) ∨ Sl w' (btw w.heap.size w'.heap.size) 1 u.tv u.tk.length (u.tk.map .string))
set_option maxHeartbeats 4000000 in
theorem refAdd_any (v : Value) (L : List Tm) (s : ByteArray) (w : World) (h : MS 0 w v L) (hg : Good (st L) 1048575) (hs : s.size ≤ 4294967296) : Calls Tryz.prog 13 #[v, .string s] w (RAddRes L v (tokW (lb s)) w) := by
  have H := keep h
  have HG := keep hg
  obtain ⟨A, c, rfl, _, _⟩ := h.1.form
  have HTK := keep (refTok_any s w hs)
  generalize tokW (lb s) = o at HTK
  clear h hg
  go_enter Tryz.func13, Tryz.ntmps13
  go_wp2_with fail
  refine HTK.out.mono ?_
  rintro e w1 ⟨tv, T, rfl, hT, hT6, ho, hb1⟩
  obtain ⟨A2, c2, rfl, _⟩ := own_sl ho
  have HO := keep ho
  clear ho HTK
  cases o with
  | none =>
    clear HO hT
    go_wp2_with fail
    go_ret
    exact ⟨_, L, rfl, H.out.up hb1, hb1, rfl, rfl⟩
  | some T' =>
    have hT' : strs T = T' := hT
    have hc := count_any (.slice A L.length c) L ⟨.slice A2 T.length c2, T, 1⟩ w1 (H.out.up hb1) ⟨own_str HO.out, by simp only; omega⟩ ⟨HG.out.s, HG.out.p, by have := HG.out.b; omega⟩ (by show (1 : Int) ≤ 1; omega) (by show (1 : Int) ≤ 1048576; omega)
    have HC := keep hc
    simp only [tmV] at HC
    have HT := keep hT'
    clear hc hT hT'
    simp only [Option.isSome_some]
    go_wp2_with fail
    refine HC.out.mono ?_
    rintro e w2 ⟨v2, L2, rfl, hn2, had, hki⟩
    have HN := keep hn2
    have HAD := keep had
    have HKI := keep hki
    clear hn2 had hki
    go_wp2_with fail
    go_ret
    exact ⟨v2, L2, rfl, HN.out.ms, bchain hb1 HN.out.2.2, HT.out ▸ HAD.out, own_base HN.out.1 hb1.size, fun u hu => by
      rcases HKI.out u hu with h | ⟨h1, h2⟩
      · exact .inl h
      · refine .inr ?_
        simp only at h1 h2
        rw [h1, h2]
        have := Sl.of_own_btw HO.out
        exact (this.under HN.out.2.2 (fun _ hb => hb.2)).mono fun _ hb => ⟨hb.1, Nat.lt_of_lt_of_le hb.2 HN.out.2.2.size⟩⟩
end Go.Proofs.YtigogjlbemkhdaaGreat
