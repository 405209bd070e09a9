/- The miner's states with counts up to the greatest int, as plain data. No program in sight. miner.Add, Remove, Merge with counts up to the greatest int (printed by wip/gen/ms.py out of XTmAdd, XTmLine, XMerge). The reference of chapter 15: count with counts up to the greatest int (printed by wip/gen/ms.py out of XRefAdd). The reference of chapter 15: Add, Remove, Merge, Size, with counts up to the greatest int; miner.Size. The reference of chapter 15: Size, token, Check; miner.Size with counts up to the greatest int. Printed by wip/gen/mschk.py. The law's state, with where its tokens lie (printed by wip/gen/msstate.py out of XRefState). MinerSteps: the walk of the statement. -/
import Derived.Test.YtigogjlbemkhdaaGreatOfP
import Derived.Test.YtigogjlbemkhdaaGreatTmLine
import Derived.Test.YtigogjlbemkhdaaGreatRefAdd
import Derived.Test.YtigogjlbemkhdaaGreatRfAll
import Derived.Test.YtigogjlbemkhdaaGreatTokEq
import Derived.Test.YtigogjlbemkhdaaGreatTkChk
import Derived.Test.YtigogjlbemkhdaaGreatKeepsP
import Derived.Test.YtigogjlbemkhdaaGreatRegAll
import Derived.Test.YtigogjlbemkhdaaGreatRefState
import Derived.Test.YtigogjlbemkhdaaGreatAwake15
namespace Go.Proofs.YtigogjlbemkhdaaGreat
open Go.RowKit

/-- A state: sorted, counts from 1 to the greatest int, no longer than N. -/
structure OkS (P : List TP) (N : Nat) : Prop where
  s : Srt P
  p : Pos P
  m : ∀ t ∈ P, t.2 ≤ MAXI
  l : P.length ≤ N
/-- A state in which tokens are counted n times more. -/
structure AddS (P P' : List TP) (T : List (List UInt8)) (n : Int) : Prop where
  s : Srt P'
  p : Pos P'
  m : ∀ t ∈ P', t.2 ≤ MAXI
  c : ∀ U, cnt P' U = if T = U then sat (cnt P U + n) else cnt P U
  l : P'.length ≤ P.length + 1
theorem AddS.uniq {P P1 P2 : List TP} {T : List (List UInt8)} {n : Int} (h1 : AddS P P1 T n) (h2 : AddS P P2 T n) : P1 = P2 :=
  cnt_ext h1.s h2.s h1.p h2.p fun U => by rw [h1.c, h2.c]
theorem AddS.ok {P P' : List TP} {T : List (List UInt8)} {n : Int} {N : Nat} (h : AddS P P' T n) (g : OkS P N) : OkS P' (N + 1) :=
  ⟨h.s, h.p, h.m, by have := h.l; have := g.l; omega⟩
theorem OkS.more {P : List TP} {N M : Nat} (g : OkS P N) (h : N ≤ M) : OkS P M := ⟨g.s, g.p, g.m, Nat.le_trans g.l h⟩
theorem OkS.len {L : List Tm} {N : Nat} (g : OkS (st L) N) : L.length ≤ N := by have := g.l; rwa [st_len] at this
theorem cnt_mid {A B : List TP} {T : List (List UInt8)} {x : Int} (hs : Srt (A ++ (T, x) :: B)) : cnt (A ++ (T, x) :: B) T = x := by
  obtain ⟨_, h2, h3⟩ := List.pairwise_append.1 hs
  obtain ⟨h4, _⟩ := List.pairwise_cons.1 h2
  rw [cnt_append, cnt, cnt_zero (L := A) (fun t ht e => ?_), cnt_zero (L := B) (fun t ht e => ?_)]
  · simp
  · have := h4 t ht
    rw [e, cmpT_eq.2 rfl] at this
    omega
  · have := h3 t ht (T, x) (by simp)
    rw [e, cmpT_eq.2 rfl] at this
    omega
theorem cnt_at {L : List Tm} {i : Nat} (h : i < L.length) (hs : Srt (st L)) : cnt (st L) (strs L[i].tk) = L[i].ct := by
  obtain ⟨e1, _⟩ := st_set h L[i]
  rw [e1] at hs ⊢
  exact cnt_mid hs
theorem adds_found2 {L : List Tm} {i N : Nat} (h : i < L.length) (g : OkS (st L) N) (n : Int) (hn : 0 ≤ n) {T : List (List UInt8)} (hT : strs L[i].tk = T) : AddS (st L) (st (L.set i ⟨L[i].tv, L[i].tk, sat (L[i].ct + n)⟩)) T n := by
  have hmem : (strs L[i].tk, L[i].ct) ∈ st L := List.mem_map.2 ⟨L[i], List.getElem_mem h, rfl⟩
  have hx1 := g.p _ hmem
  have hx2 := g.m _ hmem
  simp only at hx1 hx2
  have hm : 0 ≤ sat (L[i].ct + n) - L[i].ct := by unfold sat MAXI at *; omega
  have ha := added_found2 h g.s g.p (sat (L[i].ct + n) - L[i].ct) hm hT
  rw [show L[i].ct + (sat (L[i].ct + n) - L[i].ct) = sat (L[i].ct + n) by omega] at ha
  refine ⟨ha.s, ha.p, fun t ht => ?_, fun U => ?_, by rw [st_len, st_len, List.length_set]; omega⟩
  · obtain ⟨u, hu, rfl⟩ := List.mem_map.1 ht
    rcases List.mem_or_eq_of_mem_set hu with hu | rfl
    · exact g.m _ (List.mem_map.2 ⟨u, hu, rfl⟩)
    · show sat (L[i].ct + n) ≤ MAXI
      unfold sat; omega
  · rw [ha.c]
    by_cases e : T = U
    · subst e
      rw [if_pos rfl, if_pos rfl, ← hT, cnt_at h g.s]
      omega
    · rw [if_neg e, if_neg e]; omega
theorem adds_of {P P' : List TP} {T : List (List UInt8)} {n : Int} (h : Added P P' T n) (h0 : cnt P T = 0) (hn : n ≤ MAXI) (hm : ∀ t ∈ P', t ∈ P ∨ t = (T, n)) (hl : P'.length ≤ P.length + 1) (gm : ∀ t ∈ P, t.2 ≤ MAXI) : AddS P P' T n := by
  refine ⟨h.s, h.p, fun t ht => ?_, fun U => ?_, hl⟩
  · rcases hm t ht with h | rfl
    · exact gm t h
    · exact hn
  · rw [h.c]
    by_cases e : T = U
    · subst e
      rw [if_pos rfl, if_pos rfl, h0]
      unfold sat; omega
    · rw [if_neg e, if_neg e]; omega
theorem adds_new {s : List ByteArray} {L : List Tm} {i N : Nat} (hA : At_tm (cfs s) L i) (h0 : cfAt_tm (cfs s) L i ≠ 0) (g : OkS (st L) N) (t : Tm) (ht : strs t.tk = strs s) (hn : 1 ≤ t.ct) (hm : t.ct ≤ MAXI) : AddS (st L) (st (L.take i ++ [t] ++ L.drop i)) (strs s) t.ct := by
  refine adds_of (added_new hA h0 g.s g.p t ht hn) (cnt_new hA h0 g.s) hm (fun x hx => ?_) ?_ g.m
  · obtain ⟨u, hu, rfl⟩ := List.mem_map.1 hx
    rcases List.mem_append.1 hu with hu | hu
    · rcases List.mem_append.1 hu with hu | hu
      · exact .inl (List.mem_map.2 ⟨u, List.mem_of_mem_take hu, rfl⟩)
      · rw [List.mem_singleton.1 hu, ht]; exact .inr rfl
    · exact .inl (List.mem_map.2 ⟨u, List.mem_of_mem_drop hu, rfl⟩)
  · rw [st_len, st_len, List.length_append, List.length_append, List.length_take, List.length_drop]
    simp
    omega
theorem adds_ins {L : List Tm} {t : Tm} {k N : Nat} (hk : k ≤ L.length) (hP : insPre L t k) (hS : ∀ (j : Nat) (h : j < L.length), j + 1 = k → ¬ cmpT (strs t.tk) (strs L[j].tk) < 0) (hne : ∀ u ∈ L, t.tk ≠ u.tk) (g : OkS (st L) N) (hn : 1 ≤ t.ct) (hm : t.ct ≤ MAXI) :
    AddS (st L) (st (insRow L k t)) (strs t.tk) t.ct := by
  refine adds_of (added_ins hk hP hS hne g.s g.p hn) (cnt_zero fun x hx e => ?_) hm (fun x hx => ?_) ?_ g.m
  · obtain ⟨u, hu, rfl⟩ := List.mem_map.1 hx
    exact hne u hu (strs_inj e.symm)
  · obtain ⟨u, hu, rfl⟩ := List.mem_map.1 hx
    unfold insRow at hu
    rcases List.mem_append.1 hu with hu | hu
    · rcases List.mem_append.1 hu with hu | hu
      · exact .inl (List.mem_map.2 ⟨u, List.mem_of_mem_take hu, rfl⟩)
      · rw [List.mem_singleton.1 hu]; exact .inr rfl
    · exact .inl (List.mem_map.2 ⟨u, List.mem_of_mem_drop hu, rfl⟩)
  · rw [st_len, st_len, insRow_len _ _ hk]
    omega
/-- The first k elements of M counted, one after the other. -/
def MrgS (P M : List TP) (k : Nat) (R : List TP) : Prop := ∃ f : Nat → List TP, f 0 = P ∧ f k = R ∧ ∀ i, i < k → (h : i < M.length) → AddS (f i) (f (i + 1)) M[i].1 M[i].2
theorem MrgS.start (P M : List TP) : MrgS P M 0 P := ⟨fun _ => P, rfl, rfl, fun i h => absurd h (by omega)⟩
theorem MrgS.step {P M R R' : List TP} {k : Nat} (h : MrgS P M k R) (hk : k < M.length) (ha : AddS R R' M[k].1 M[k].2) : MrgS P M (k + 1) R' := by
  obtain ⟨f, h0, hfk, hs⟩ := h
  refine ⟨fun i => if i ≤ k then f i else R', by simp [h0], if_neg (by omega), fun i hi hl => ?_⟩
  simp only
  by_cases e : i = k
  · subst e
    rw [if_pos (Nat.le_refl _), if_neg (by omega), hfk]
    exact ha
  · rw [if_pos (by omega), if_pos (by omega)]
    exact hs i (by omega) hl
theorem MrgS.uniq {P M R R' : List TP} {k : Nat} (hk : k ≤ M.length) (h : MrgS P M k R) (h' : MrgS P M k R') : R = R' := by
  obtain ⟨f, h0, hfk, hs⟩ := h
  obtain ⟨g, g0, gk, gs⟩ := h'
  have key : ∀ i, i ≤ k → f i = g i := fun i => by
    induction i with
    | zero => intro _; rw [h0, g0]
    | succ i ih =>
      intro hi
      have h1 := hs i (by omega) (by omega)
      have h2 := gs i (by omega) (by omega)
      rw [ih (by omega)] at h1
      exact h1.uniq h2
  rw [← hfk, ← gk, key k (Nat.le_refl _)]
theorem MrgS.ok {P M R : List TP} {k N : Nat} (h : MrgS P M k R) (hk : k ≤ M.length) (g : OkS P N) : OkS R (N + k) := by
  obtain ⟨f, h0, hfk, hs⟩ := h
  have key : ∀ i, i ≤ k → OkS (f i) (N + i) := fun i => by
    induction i with
    | zero => intro _; rw [h0]; exact g
    | succ i ih =>
      intro hi
      exact (hs i (by omega) (by omega)).ok (ih (by omega))
  rw [← hfk]
  exact key k (Nat.le_refl _)
theorem Removed.uniq {P P1 P2 : List TP} {T : List (List UInt8)} (h1 : Removed P P1 T) (h2 : Removed P P2 T) : P1 = P2 :=
  cnt_ext h1.s h2.s h1.p h2.p fun U => by rw [h1.c, h2.c]
theorem RemStep.uniq {P P1 P2 : List TP} {o : Option (List ByteArray)} {k1 k2 : Bool} (h1 : RemStep P o k1 P1) (h2 : RemStep P o k2 P2) : k1 = k2 ∧ P1 = P2 := by
  cases o with
  | none => exact ⟨h1.1.trans h2.1.symm, h1.2.trans h2.2.symm⟩
  | some T =>
    have h1' : if cnt P (strs T) = 0 then k1 = false ∧ P1 = P else k1 = true ∧ Removed P P1 (strs T) := h1
    have h2' : if cnt P (strs T) = 0 then k2 = false ∧ P2 = P else k2 = true ∧ Removed P P2 (strs T) := h2
    by_cases h0 : cnt P (strs T) = 0
    · rw [if_pos h0] at h1' h2'
      exact ⟨h1'.1.trans h2'.1.symm, h1'.2.trans h2'.2.symm⟩
    · rw [if_neg h0] at h1' h2'
      exact ⟨h1'.1.trans h2'.1.symm, h1'.2.uniq h2'.2⟩
def AddStepS (P : List TP) (o : Option (List ByteArray)) (P' : List TP) : Prop := match o with | none => P' = P | some T => AddS P P' (strs T) 1
theorem AddStepS.uniq {P P1 P2 : List TP} {o : Option (List ByteArray)} (h1 : AddStepS P o P1) (h2 : AddStepS P o P2) : P1 = P2 := by
  unfold AddStepS at h1 h2
  cases o with
  | none => exact h1.trans h2.symm
  | some T => exact AddS.uniq h1 h2
end Go.Proofs.YtigogjlbemkhdaaGreat
namespace Go.Proofs.YtigogjlbemkhdaaGreat
open Go.RowKit

theorem sumS_any (a b : Int) (w : World) (ha : 0 ≤ a) (hb : 0 ≤ b) (ha1 : a ≤ 9223372036854775807) (hb1 : b ≤ 9223372036854775807) : Calls Tryz.prog 36 #[.int .i64 a, .int .i64 b] w fun e w' => e = .returned (.int .i64 (sat (a + b))) ∧ w = w' := by
  have h1 : IntKind.i64.wrap (9223372036854775807 - b) = 9223372036854775807 - b := IntWalk.i64_in _ (by omega)
  by_cases h2 : 9223372036854775807 - b < a
  · have hs : sat (a + b) = 9223372036854775807 := by unfold sat MAXI; omega
    rw [hs]
    clear hs
    go_enter Tryz.func36, Tryz.ntmps36
    go_wp2_with fail
    go_ret
    exact ⟨rfl, rfl⟩
  · have hs : sat (a + b) = a + b := by unfold sat MAXI; omega
    rw [hs]
    clear hs
    go_enter Tryz.func36, Tryz.ntmps36
    go_wp2_with fail
    go_ret
    exact ⟨rfl, rfl⟩
def AddResS (P : List TP) (T : List (List UInt8)) (n : Int) (w : World) (B : Nat) (v : Value) (x : Ending) (w' : World) : Prop :=
  ∃ (v' : Value) (L' : List Tm), x = .returned v' ∧ w'.ownsRow B 32 2 v' L'.length (tms L') ∧ (∀ t ∈ L', TkR 0 w' t) ∧ w.grownBy w' v.ownBlock ∧ AddS P (st L') T n
set_option maxHeartbeats 4000000 in
theorem addS_any (v tv : Value) (L : List Tm) (s : List ByteArray) (n : Int) (w : World) (B : Nat) (hown : w.ownsRow B 32 2 v L.length (tms L)) (hB : B ≤ w.heap.size) (hT : ∀ t ∈ L, TkR 0 w t) (h2 : Sl w (strB 0 w) 1 tv s.length (s.map .string)) (hs1 : s.length ≤ 1048576)
    (hg : OkS (st L) 1048576) (hn : 1 ≤ n) (hn2 : n ≤ 9223372036854775807) : Calls Tryz.prog 32 #[v, tv, .int .i64 n] w (AddResS (st L) (strs s) n w B v) := by
  have hm : L.length ≤ 1048576 := hg.len
  have hsrt := hg.s
  have hform : ∀ t ∈ L, ∃ A n c, t.tv = .slice A n c := fun t ht => (hT t ht).form
  obtain ⟨A, c, rfl, hc⟩ := own_sl hown
  have HSE := keep (search_any _ tv L s w (Sl.of_own hown) hT h2 hsrt hm)
  have HOWN := keep hown
  have HT := keep hT
  have H2 := keep h2
  have HG := keep hg
  have HF := keep hform
  clear hown hT h2 hsrt hg hform hc
  go_enter Tryz.func32, Tryz.ntmps32
  go_wp2_with fail
  refine HSE.out.mono ?_
  rintro e w1 ⟨i, hA, rfl, hb1⟩
  have hi1 : i ≤ L.length := hA.1
  have HA := keep hA
  have ho1 := own_bel HOWN.out hb1
  clear hA HSE
  by_cases h0 : cfAt_tm (cfs s) L i = 0
  · rw [show decide (cfAt_tm (cfs s) L i = 0) = true from decide_eq_true h0]
    obtain ⟨hi, _⟩ := at_found h0
    have hadd := adds_found2 hi HG.out n (by omega) (at_found h0).2
    have hmem : (strs L[i].tk, L[i].ct) ∈ st L := List.mem_map.2 ⟨L[i], List.getElem_mem hi, rfl⟩
    have hct0 := HG.out.p _ hmem
    have hct1 : L[i].ct ≤ 9223372036854775807 := HG.out.m _ hmem
    have hset := tms_set hi (sat (L[i].ct + n))
    have hTk := HT.out _ (List.getElem_mem hi)
    obtain ⟨g, cap, hgA⟩ : ∃ g cap, Value.slice A L.length c = .slice (some ⟨g, 0, none⟩) L.length cap := by
      rcases ho1.2 with ⟨_, hz⟩ | ⟨g, cap, cur, hv, _⟩
      · omega
      · exact ⟨g, cap, hv⟩
    injection hgA with hgA _ hcap
    subst hgA
    subst hcap
    obtain ⟨b, o, hbo, _, c0, c1⟩ := tm_cells (Sl.of_own ho1) hi
    injection hbo with hbo
    injection hbo with hb_ ho_
    subst hb_
    subst ho_
    have f1 : w1.frozen? ⟨g, 0 + i * 2 + 1, none⟩ = false := own_frozen ho1 rfl _
    have hst := own_store ho1 rfl (i * 2 + 1) (.int .i64 (sat (L[i].ct + n)))
    rw [hset] at hst
    have hnost := own_noStr ho1 (Nat.zero_le _)
    have hgw : w.grownBy (w1.setCell ⟨g, i * 2 + 1, none⟩ (.int .i64 (sat (L[i].ct + n)))) (some g) := grownBy_set (grownBy_of_below hb1 _) _ _
    simp only [Nat.zero_add] at c0 c1 f1
    simp only at hct0 hct1
    have HADD := keep hadd
    have HST := keep hst
    have HGW := keep hgw
    have HNO := keep (fun t ht => ((HT.out t ht).up hb1).grown (grownBy_set (World.grownBy.refl w1 (some g)) (i * 2 + 1) (.int .i64 (sat (L[i].ct + n)))) hnost)
    obtain ⟨x, hx⟩ : ∃ x, x = L[i].ct := ⟨_, rfl⟩
    have HX := keep hx
    rw [← hx] at c1 hct0 hct1
    clear hadd hmem hset hst hgw hnost h0 hTk hx ho1 HOWN
    have hi2 : (i : Int) < (L.length : Int) := by omega
    have hi3 : (i : Int) ≤ 1048576 := by omega
    go_wp2_with fail
    refine (sumS_any x n w1 (by omega) (by omega) (by omega) (by omega)).mono ?_
    rintro e w2 ⟨rfl, rfl⟩
    go_wp2_with fail
    go_ret
    refine ⟨_, L.set i ⟨L[i].tv, L[i].tk, sat (L[i].ct + n)⟩, rfl, ?_, ?_, ?_, HADD.out⟩
    · rw [List.length_set]
      have := HST.out
      rw [← HX.out] at this ⊢
      exact this
    · intro t ht
      rw [HX.out]
      rcases List.mem_or_eq_of_mem_set ht with ht | rfl
      · exact HNO.out t ht
      · exact HNO.out L[i] (List.getElem_mem hi)
    · have := HGW.out
      rw [← HX.out] at this
      exact this
  · rw [show decide (cfAt_tm (cfs s) L i = 0) = false from decide_eq_false h0]
    have H0 := keep h0
    have HO1 := keep ho1
    have h2w := H2.out.strUp hb1
    have hcl := clone_Sg tv s.length (s.map .string) w1 _ h2w (oneCells _ (fun _ => rfl) s) (fun _ hb => hb.lt_) hs1
    have HCL := keep hcl
    clear h0 ho1 h2w hcl
    go_wp2_with fail
    refine HCL.out.mono ?_
    rintro e w2 ⟨tv2, rfl, ho2, hb2⟩
    have hts := own_str (oB := 0) ho2
    obtain ⟨A2, c2, rfl, _⟩ := own_sl ho2
    have hb12 := bchain hb1 hb2
    have hbA : Below w2.heap.size w2 (w2.alloc (.cells #[.slice A2 s.length c2, .int .i64 n] 32)) := (Below.refl _ w2).alloc (Nat.le_refl _) _
    have hBk : Blk (w2.alloc (.cells #[.slice A2 s.length c2, .int .i64 n] 32)) w2.heap.size 32 #[.slice A2 s.length c2, .int .i64 n] := Blk.new _ _ _
    have ho3 := own_bel (own_bel HO1.out hb2) hbA
    have hne : (Value.slice A L.length c).ownBlock ≠ some w2.heap.size := by
      intro e
      have := (own_bel HO1.out hb2).lt _ e
      omega
    have hone := tms_one L HF.out
    have hBz : B ≤ (w2.alloc (.cells #[.slice A2 s.length c2, .int .i64 n] 32)).heap.size := Nat.le_trans (Nat.le_trans hB hb12.size) hbA.size
    obtain ⟨w3, hw3⟩ : ∃ w3, w3 = w2.alloc (.cells #[.slice A2 s.length c2, .int .i64 n] 32) := ⟨_, rfl⟩
    rw [← hw3] at hbA hBk ho3 hBz
    have hins := insert_Tm _ L.length i (tms L) [.slice A2 s.length c2, .int .i64 n] w2.heap.size w3 B ho3 hBz hi1 hBk rfl hne hone (by intro u hu; simp at hu; rcases hu with rfl | rfl <;> rfl) hm
    rw [hw3] at hins
    have HINS := keep hins
    have HBA := keep (bchain hb12 hbA)
    have HTS := keep (hts.strUp hbA)
    have HO3 := keep ho3
    have HW3 := keep hw3
    clear hins hbA hBk ho3 hne hone hBz hts ho2 HCL HO1 hb2 hb12 hw3
    go_wp2_with fail
    refine HINS.out.mono ?_
    rintro e w4 ⟨v', rfl, ho4, hg4⟩
    rw [← HW3.out] at hg4
    have hg04 := grownBy_trans (grownBy_of_below HBA.out (Value.slice A L.length c).ownBlock) hg4
    have hnost := own_noStr HO3.out (Nat.zero_le _)
    have hadd := adds_new HA.out H0.out HG.out ⟨.slice A2 s.length c2, s, n⟩ rfl hn (by unfold MAXI; exact hn2)
    have hrow : (tms L).take (i * 2) ++ [.slice A2 s.length c2, .int .i64 n] ++ (tms L).drop (i * 2) = tms (L.take i ++ [⟨.slice A2 s.length c2, s, n⟩] ++ L.drop i) := by
      rw [tms_take L i hi1, tms_drop L i hi1, tms_append, tms_append]; rfl
    rw [hrow] at ho4
    have hlen : L.length + 1 = (L.take i ++ [(⟨.slice A2 s.length c2, s, n⟩ : Tm)] ++ L.drop i).length := by
      rw [List.length_append, List.length_append, List.length_take, List.length_drop]; simp; omega
    rw [hlen] at ho4
    have hall : ∀ t ∈ L.take i ++ [(⟨.slice A2 s.length c2, s, n⟩ : Tm)] ++ L.drop i, TkR 0 w4 t := by
      intro t ht
      have hold : ∀ t ∈ L, TkR 0 w4 t := fun t ht => ((HT.out t ht).up HBA.out).grown hg4 hnost
      rcases List.mem_append.1 ht with ht | ht
      · rcases List.mem_append.1 ht with ht | ht
        · exact hold t (List.mem_of_mem_take ht)
        · rw [List.mem_singleton.1 ht]
          exact TkR.grown (t := ⟨.slice A2 s.length c2, s, n⟩) ⟨HTS.out, hs1⟩ hg4 hnost
      · exact hold t (List.mem_of_mem_drop ht)
    have HALL := keep hall
    have HADD := keep hadd
    have HO4 := keep ho4
    have HG := keep hg04
    clear hall hadd ho4 hg04 hrow hlen hnost hg4
    go_wp2_with fail
    go_ret
    exact ⟨_, _, rfl, HO4.out, HALL.out, HG.out, HADD.out⟩
def LineResS (P : List TP) (o : Option (List ByteArray)) (w : World) (x : Ending) (w' : World) : Prop := ∃ v' L', x = .returned v' ∧ NewSt w v' L' w' ∧ AddStepS P o (st L')
set_option maxHeartbeats 2000000 in
theorem addLineS (v : Value) (L : List Tm) (s : ByteArray) (w : World) (h : MS 0 w v L) (hg : OkS (st L) 1048575) (hs : s.size ≤ 4294967296) : Calls Tryz.prog 12 #[v, .string s] w (LineResS (st L) (toks s) w) := by
  have hm : L.length ≤ 1048576 := by have := hg.len; omega
  have H := keep h
  have HG := keep hg
  obtain ⟨A, c, rfl, _, _⟩ := h.1.form
  have HTK := keep (tokens_any s w hs)
  generalize toks s = o at HTK
  clear h hg
  go_enter Tryz.func12, Tryz.ntmps12
  go_wp2_with fail
  refine HTK.out.mono ?_
  rintro e w1 ⟨tv, T, rfl, hT, hT6, ho, hb1⟩
  obtain ⟨A2, c2, rfl, _⟩ := own_sl ho
  have HO := keep ho
  have HC := keep (clone_ms (H.out.up hb1) hm)
  clear ho HTK
  cases o with
  | none =>
    clear HO hT
    go_wp2_with fail
    refine HC.out.mono ?_
    rintro e w2 ⟨v', rfl, hn⟩
    have HN := keep hn
    clear hn HC
    go_wp2_with fail
    go_ret
    exact ⟨v', L, rfl, ⟨own_base HN.out.1 hb1.size, HN.out.2.1, bchain hb1 HN.out.2.2⟩, rfl⟩
  | some T' =>
    obtain rfl : T = T' := hT
    simp only [Option.isSome_some]
    go_wp2_with fail
    refine HC.out.mono ?_
    rintro e w2 ⟨v', rfl, hn⟩
    have hts := (own_str (oB := 0) HO.out).strUp hn.2.2
    have hlen : T.length ≤ 1048576 := by omega
    have hadd := addS_any v' (.slice A2 T.length c2) L T 1 w2 w1.heap.size hn.1 hn.2.2.size hn.2.1 hts hlen (HG.out.more (by omega)) (by omega) (by omega)
    have HADD := keep hadd
    have HN := keep hn
    clear hn hadd hts HC HO
    go_wp2_with fail
    refine HADD.out.mono ?_
    rintro e w3 ⟨v3, L3, rfl, ho3, hT3, hg3, had⟩
    have hb12 := bchain hb1 HN.out.2.2
    have hb3 : Below w.heap.size w w3 := by
      refine (bchain hb1 HN.out.2.2).grown hg3 hb12.size ?_
      intro k hk
      exact Nat.le_trans hb1.size (HN.out.1.lt k hk).1
    have HO3 := keep ho3
    have HT3 := keep hT3
    have HAD := keep had
    clear ho3 hT3 had hg3
    go_wp2_with fail
    go_ret
    exact ⟨v3, L3, rfl, ⟨own_base HO3.out hb1.size, HT3.out, hb3⟩, HAD.out⟩
set_option maxHeartbeats 8000000 in
theorem removeLineS (v : Value) (L : List Tm) (s : ByteArray) (w : World) (h : MS 0 w v L) (hg : OkS (st L) 1048576) (hs : s.size ≤ 4294967296) : Calls Tryz.prog 9 #[v, .string s] w (RemRes (st L) (toks s) w) := by
  have hm : L.length ≤ 1048576 := hg.len
  have H := keep h
  have HG := keep hg
  obtain ⟨A, c, rfl, _, _⟩ := h.1.form
  have HC := keep (clone_ms h hm)
  have HTK := keep fun w' => tokens_any s w' hs
  generalize toks s = o at HTK
  clear h hg
  go_enter Tryz.func9, Tryz.ntmps9
  go_wp2_with fail
  refine HC.out.mono ?_
  rintro e w1 ⟨v1, rfl, hn1⟩
  obtain ⟨A1, c1, rfl, _⟩ := own_sl hn1.1
  have HN1 := keep hn1
  clear hn1 HC
  go_wp2_with fail
  refine (HTK.out w1).mono ?_
  rintro e w2 ⟨tv, T, rfl, hT, hT6, ho, hb2⟩
  obtain ⟨A2, c2, rfl, _⟩ := own_sl ho
  have hb12 := bchain HN1.out.2.2 hb2
  have HO := keep ho
  have ho1 := own_bel HN1.out.1 hb2
  have hT1 : ∀ t ∈ L, TkR 0 w2 t := fun t ht => (HN1.out.2.1 t ht).up hb2
  have HO1 := keep ho1
  have HT1 := keep hT1
  clear ho HTK ho1 hT1
  cases o with
  | none =>
    clear HO hT
    go_wp2_with fail
    go_ret2
    exact ⟨_, L, false, rfl, ⟨HO1.out, HT1.out, hb12⟩, rfl, rfl⟩
  | some T' =>
    obtain rfl : T = T' := hT
    have hse := search_any (.slice A1 L.length c1) (.slice A2 T.length c2) L T w2 (Sl.of_own HO1.out) HT1.out (own_str HO.out) HG.out.s hm
    have HSE := keep hse
    clear hse HO
    simp only [Option.isSome_some]
    go_wp2_with fail
    refine HSE.out.mono ?_
    rintro e w3 ⟨i, hA, rfl, hb3⟩
    have hi1 : i ≤ L.length := hA.1
    have hb13 := bchain hb12 hb3
    have HA := keep hA
    have ho3 := own_bel HO1.out hb3
    have hT3 : ∀ t ∈ L, TkR 0 w3 t := fun t ht => (HT1.out t ht).up hb3
    clear hA HSE
    by_cases h0 : cfAt_tm (cfs T) L i = 0
    · rw [show decide (cfAt_tm (cfs T) L i = 0) = true from decide_eq_true h0]
      obtain ⟨hi, hiT⟩ := at_found h0
      have hcf := cnt_found h0 HG.out.p
      have hmem : (strs L[i].tk, L[i].ct) ∈ st L := List.mem_map.2 ⟨L[i], List.getElem_mem hi, rfl⟩
      have hct0 := HG.out.p _ hmem
      have hct1 : L[i].ct ≤ 9223372036854775807 := HG.out.m _ hmem
      have hset := tms_set hi (L[i].ct - 1)
      have hdl := removed_del hi HG.out.s HG.out.p
      have hst' := removed_set hi HG.out.s HG.out.p
      rw [hiT] at hdl hst'
      obtain ⟨g, cap, hgA⟩ : ∃ g cap, Value.slice A1 L.length c1 = .slice (some ⟨g, 0, none⟩) L.length cap := by
        rcases ho3.2 with ⟨_, hz⟩ | ⟨g, cap, cur, hv, _⟩
        · omega
        · exact ⟨g, cap, hv⟩
      injection hgA with hgA _ hcap
      subst hgA
      subst hcap
      obtain ⟨b, o, hbo, _, c0, c1'⟩ := tm_cells (Sl.of_own ho3) hi
      injection hbo with hbo
      injection hbo with hb_ ho_
      subst hb_
      subst ho_
      have f1 : w3.frozen? ⟨g, 0 + i * 2 + 1, none⟩ = false := own_frozen ho3 rfl _
      have hst := own_store ho3 rfl (i * 2 + 1) (.int .i64 (L[i].ct - 1))
      rw [hset] at hst
      have hnost := own_noStr ho3 (Nat.zero_le _)
      have hwg : w.heap.size ≤ g := (HN1.out.1.lt g rfl).1
      have hb4 := hb13.setCell (p := ⟨g, i * 2 + 1, none⟩) hwg (.int .i64 (L[i].ct - 1))
      have hT4 : ∀ t ∈ L, TkR 0 (w3.setCell ⟨g, i * 2 + 1, none⟩ (.int .i64 (L[i].ct - 1))) t := fun t ht => (hT3 t ht).grown (grownBy_set (World.grownBy.refl w3 (some g)) _ _) hnost
      have c4 : (w3.setCell ⟨g, i * 2 + 1, none⟩ (.int .i64 (L[i].ct - 1))).cell? ⟨g, i * 2 + 1, none⟩ = some (.int .i64 (L[i].ct - 1)) := by
        rw [own_cell hst rfl (i * 2 + 1) (by rw [Nat.add_comm]; omega), ← hset]
        rw [List.getElem?_set_self (by rw [tms_len]; omega)]
      have hmT : ∀ t ∈ L.set i ⟨L[i].tv, L[i].tk, L[i].ct - 1⟩, TkR 0 (w3.setCell ⟨g, i * 2 + 1, none⟩ (.int .i64 (L[i].ct - 1))) t := by
        intro t ht
        rcases List.mem_or_eq_of_mem_set ht with ht | rfl
        · exact hT4 t ht
        · exact hT4 L[i] (List.getElem_mem hi)
      have hone := tms_one (L.set i ⟨L[i].tv, L[i].tk, L[i].ct - 1⟩) fun t ht => (hmT t ht).form
      obtain ⟨W, hW⟩ : ∃ W, W = w3.setCell ⟨g, i * 2 + 1, none⟩ (.int .i64 (L[i].ct - 1)) := ⟨_, rfl⟩
      obtain ⟨L2, hL2⟩ : ∃ L2, L2 = L.set i ⟨L[i].tv, L[i].tk, L[i].ct - 1⟩ := ⟨_, rfl⟩
      have hl2 : L2.length = L.length := by rw [hL2, List.length_set]
      have htk2 : L2.take i ++ L2.drop (i + 1) = L.take i ++ L.drop (i + 1) := by
        rw [hL2, List.take_set_of_le (Nat.le_refl _), List.drop_set_of_lt (by omega)]
      rw [← hW] at hst hb4 hT4 c4 hmT
      rw [← hL2] at hst hmT hone hst'
      rw [← hl2] at hst
      have hdel := delete_Tm (.slice (some ⟨g, 0, none⟩) L2.length c1) L2.length i (tms L2) W w.heap.size (hl2.symm ▸ hst) (by omega) hone (by omega)
      rw [tms_take L2 i (by omega), tms_drop L2 (i + 1) (by omega), ← tms_append] at hdel
      rw [htk2, hl2] at hdel
      rw [hl2] at hst
      simp only [Nat.zero_add] at c0 c1' f1
      simp only at hct0 hct1
      obtain ⟨x, hx⟩ : ∃ x, x = L[i].ct := ⟨_, rfl⟩
      rw [← hx] at hW c4 c1' hct0 hct1 hdl hst'
      have HW := keep hW
      have HST := keep hst
      have HMT := keep hmT
      have HDEL := keep hdel
      have HDL := keep hdl
      have HST' := keep hst'
      have HCF := keep hcf
      have HT4 := keep hT4
      have HNO := keep (own_noStr hst (Nat.zero_le _))
      have hlen2 : L.length - 1 = (L.take i ++ L.drop (i + 1)).length := by rw [List.length_append, List.length_take, List.length_drop]; omega
      have HL2 := keep hlen2
      have HL22 := keep hl2
      clear hcf hmem hset hst hnost h0 hx ho3 hT3 hW hL2 hl2 htk2 hdel hdl hst' hmT hone hiT hT4 hlen2 HO1 HT1 HN1
      have hi2 : (i : Int) < (L.length : Int) := by omega
      have hi3 : (i : Int) ≤ 1048576 := by omega
      by_cases hx1 : x = 1
      · subst hx1
        obtain rfl : W = w3.setCell ⟨g, i * 2 + 1, none⟩ (.int .i64 0) := HW.out
        clear HW c4
        have HB4 := keep hb4
        clear hb4
        go_wp2_with fail
        refine HDEL.out.mono ?_
        rintro e w5 ⟨v5, rfl, ho5, hg5⟩
        rw [HL2.out] at ho5
        have hb5 := (HB4.out).grown hg5 (HB4.out).size (by intro k hk; obtain rfl : g = k := (by injection hk); exact hwg)
        have hT5 : ∀ t ∈ L.take i ++ L.drop (i + 1), TkR 0 w5 t := fun t ht => by
          refine (HT4.out t ?_).grown hg5 HNO.out
          rcases List.mem_append.1 ht with ht | ht
          · exact List.mem_of_mem_take ht
          · exact List.mem_of_mem_drop ht
        have HO5 := keep ho5
        have HT5 := keep hT5
        clear ho5 hT5 hg5
        go_wp2_with fail
        go_ret2
        exact ⟨v5, _, true, rfl, ⟨HO5.out, HT5.out, hb5⟩, remStep_yes HCF.out (HDL.out (by trivial))⟩
      · obtain rfl : W = w3.setCell ⟨g, i * 2 + 1, none⟩ (.int .i64 (x - 1)) := HW.out
        clear HW c4
        have d1 : (x - 1 == 0) = false := by simp; omega
        have HB4 := keep hb4
        have HX1 := keep hx1
        clear hb4 hx1
        go_wp2_with fail
        go_ret2
        refine ⟨_, L2, true, rfl, ⟨?_, HMT.out, HB4.out⟩, remStep_yes HCF.out (HST'.out HX1.out)⟩
        rw [HL22.out]
        exact HST.out
    · rw [show decide (cfAt_tm (cfs T) L i = 0) = false from decide_eq_false h0]
      have hcz := cnt_new HA.out h0 HG.out.s
      have HCZ := keep hcz
      have HO3 := keep ho3
      have HT3 := keep hT3
      clear h0 hcz ho3 hT3
      go_wp2_with fail
      go_ret2
      exact ⟨_, L, false, rfl, ⟨HO3.out, HT3.out, hb13⟩, remStep_no HCZ.out⟩
def MergeResS (P Q : List TP) (w : World) (x : Ending) (w' : World) : Prop := ∃ v' L', x = .returned v' ∧ NewSt w v' L' w' ∧ MrgS P Q Q.length (st L')
set_option maxHeartbeats 8000000 in
theorem mergeS_any (v1 v2 : Value) (L M : List Tm) (w : World) (h1 : MS 0 w v1 L) (h2 : MS 0 w v2 M) (g1 : OkS (st L) 1000) (g2 : OkS (st M) 1000) : Calls Tryz.prog 14 #[v1, v2] w (MergeResS (st L) (st M) w) := by
  have hm1 : L.length ≤ 1048576 := by have := g1.len; omega
  have hm2 : M.length ≤ 1048576 := by have := g2.len; omega
  obtain ⟨A1, c1, rfl, _, _⟩ := h1.1.form
  obtain ⟨A2, c2, rfl, _, _⟩ := h2.1.form
  have HC := keep (clone_ms h1 hm1)
  have H2 := keep h2
  have G1 := keep g1
  have G2 := keep g2
  clear h1 h2 g1 g2
  go_enter Tryz.func14, Tryz.ntmps14
  go_wp2_with fail
  refine HC.out.mono ?_
  rintro e w1 ⟨v3, rfl, hn⟩
  have HN := keep hn
  clear hn HC
  go_wp2_with fail
  go_loopw [5, 7, 12] (fun v _ i wr => ∃ (k : Nat) (R : List Tm), k ≤ M.length ∧ i = .int .i64 k ∧ Hid (wr.ownsRow w.heap.size 32 2 v R.length (tms R)) ∧ Hid (∀ t ∈ R, TkR 0 wr t) ∧ Hid (Below w.heap.size w wr) ∧ Hid (MrgS (st L) (st M) k (st R))) (fun _ _ i _ => M.length - (intOf i).toNat)
  case atStart => exact ⟨0, L, Nat.zero_le _, rfl, keep HN.out.1, keep HN.out.2.1, keep HN.out.2.2, keep (MrgS.start _ _)⟩
  case round =>
    obtain ⟨k, R, hk, rfl, hO, hT, hB, hR⟩ := hrel
    obtain ⟨wo, rfl⟩ : ∃ wo : World, wo = wr := ⟨_, rfl⟩
    obtain ⟨A3, c3, hv3, _⟩ := own_sl hO.out
    subst hv3
    by_cases hlt : k < M.length
    · obtain ⟨b, o, rfl, _, c0, c1'⟩ := tm_cells ((H2.out.1).below hB.out (Nat.le_refl _)) hlt
      have htk := (H2.out.2 _ (List.getElem_mem hlt)).up hB.out
      have hmem : (strs M[k].tk, M[k].ct) ∈ st M := List.mem_map.2 ⟨M[k], List.getElem_mem hlt, rfl⟩
      have hp := G2.out.p _ hmem
      have hsl := G2.out.m _ hmem
      have hmk : k < (st M).length := by rw [st_len]; exact hlt
      have hst : (st M)[k] = (strs M[k].tk, M[k].ct) := by simp [st]
      have hRk := (hR.out.ok (by rw [st_len]; omega) G1.out).more (show 1000 + k ≤ 1048576 by have := G2.out.len; omega)
      simp only at hp hsl
      generalize M[k] = t at c0 c1' htk hp hsl hst
      have hfm := htk.form
      obtain ⟨B1, m1, q1, hv1⟩ := hfm
      obtain ⟨tv, tk, tc⟩ := t
      simp only at hv1 c0 c1' hp hsl hst
      subst hv1
      have hbA : Below wo.heap.size wo (wo.alloc (.cells #[.slice B1 m1 q1, .int .i64 tc] 32)) := (Below.refl _ wo).alloc (Nat.le_refl _) _
      have hzA := hbA.size
      have hadd := addS_any (.slice A3 R.length c3) (.slice B1 m1 q1) R tk tc (wo.alloc (.cells #[.slice B1 m1 q1, .int .i64 tc] 32)) w.heap.size (own_bel hO.out hbA) (Nat.le_trans hB.out.size hzA) (fun t ht => (hT.out t ht).up hbA) (htk.up hbA).1 htk.2 hRk hp hsl
      have HADD := keep hadd
      have HST := keep hst
      have HBA := keep hbA
      have i1 : (k : Int) < (M.length : Int) := by omega
      have i2 : (k : Int) ≤ 1048576 := by omega
      clear hadd hst hbA hmem htk
      go_wp2_with fail
      refine HADD.out.mono ?_
      rintro e w4 ⟨v4, R4, rfl, ho4, ht4, hg4, had4⟩
      have hb4 : Below w.heap.size w w4 := (hB.out.trans (HBA.out.mono hB.out.size)).grown hg4 (Nat.le_trans hB.out.size hzA) (fun j hj => (hO.out.lt j hj).1)
      have HO4 := keep ho4
      have HT4 := keep ht4
      have HM4 := keep (hR.out.step hmk (by rw [HST.out]; exact had4))
      clear ho4 ht4 hg4 had4
      go_wp2_with fail
      go_roundw
      case rel => exact ⟨k + 1, R4, by omega, by go_num, HO4, HT4, keep hb4, HM4⟩
      case measure => simp [intOf]; omega
    · obtain rfl : k = M.length := by omega
      have HR2 := hR
      go_wp2_with fail
      go_ret
      exact ⟨_, R, rfl, ⟨hO.out, hT.out, hB.out⟩, by rw [st_len]; exact HR2.out⟩
end Go.Proofs.YtigogjlbemkhdaaGreat
namespace Go.Proofs.YtigogjlbemkhdaaGreat
open Go.RowKit

def CountResS (L : List Tm) (t : Tm) (w : World) (x : Ending) (w' : World) : Prop := ∃ v' L', x = .returned v' ∧ NewSt w v' L' w' ∧ AddS (st L) (st L') (strs t.tk) t.ct ∧ Kin L t L'
set_option maxHeartbeats 8000000 in
set_option maxRecDepth 100000 in
theorem countS_any (v : Value) (L : List Tm) (t : Tm) (w : World) (h : MS 0 w v L) (ht : TkR 0 w t) (hg : OkS (st L) 1048576) (hn : 1 ≤ t.ct) (hn2 : t.ct ≤ 9223372036854775807) : Calls Tryz.prog 33 #[v, .agg (tmV t).toArray] w (CountResS L t w) := by
  have hm : L.length ≤ 1048576 := hg.len
  obtain ⟨A, c, rfl, _, _⟩ := h.1.form
  obtain ⟨A2, n2, c2, hv2⟩ := ht.form
  have hb1 : Below w.heap.size w (w.alloc (.cells #[t.tv, .int .i64 t.ct] 32)) := (Below.refl _ w).alloc (Nat.le_refl _) _
  have hB1 : Blk (w.alloc (.cells #[t.tv, .int .i64 t.ct] 32)) w.heap.size 32 #[t.tv, .int .i64 t.ct] := Blk.new w _ _
  have hT1 := ht.up hb1
  have hM1 := h.up hb1
  have hone := tms_one L fun t ht => (h.2 t ht).form
  obtain ⟨w1, hw1⟩ : ∃ w1, w1 = w.alloc (.cells #[t.tv, .int .i64 t.ct] 32) := ⟨_, rfl⟩
  rw [← hw1] at hb1 hB1 hT1 hM1
  have hfind := find_any _ L t w1 hM1 hT1 hm
  have HM := keep hM1
  have HT := keep hT1
  have HO := keep hone
  have HG := keep hg
  obtain ⟨tv, tk, ct⟩ := t
  simp only at hv2 hB1 hw1 hn hn2
  subst hv2
  simp only [tmV] at hfind ⊢
  have HF := keep hfind
  have HW := keep hw1
  have HB := keep hb1
  have l1 := hB1.lt
  have e0 : w1.cell? ⟨w.heap.size, 0, none⟩ = some (.slice A2 n2 c2) := (hB1.cell 0).trans rfl
  have e1 : w1.cell? ⟨w.heap.size, 1, none⟩ = some (.int .i64 ct) := (hB1.cell 1).trans rfl
  rw [hw1] at e0 e1
  clear h ht hw1 hM1 hT1 hb1 hone hfind hg
  go_enter Tryz.func33, Tryz.ntmps33
  go_wp2_with fail
  rw [← HW.out]
  clear e0 e1
  refine HF.out.mono ?_
  rintro e w2 ⟨hres, hb2⟩
  have HB2 := keep hb2
  have e0 : w2.cell? ⟨w.heap.size, 0, none⟩ = some (.slice A2 n2 c2) := ((hB1.below hb2 l1).cell 0).trans rfl
  have e1 : w2.cell? ⟨w.heap.size, 1, none⟩ = some (.int .i64 ct) := ((hB1.below hb2 l1).cell 1).trans rfl
  rcases hres with ⟨k, hk, hkt, rfl⟩ | ⟨hnone, rfl⟩
  · have HK := keep hkt
    have hs2 := (HM.out.up hb2).1
    have HS2 := keep hs2
    have k1 : (k : Int) < (L.length : Int) := by omega
    have k2 : (k : Int) ≤ 1048576 := by omega
    have k3 : ¬ ((k : Int) < 0) := by omega
    clear hkt hs2 HF
    go_wp2_with (refine wpList_appendS elTm rfl (.const (.slice none 0 0)) _ rfl w2.heap.size _ 0 [] rfl (World.ownsRow_nil _ _ _ _) _ _ L.length (tms L) rfl HS2.out HO.out (by unfold maxLen; omega) (by omega) (Nat.le_refl _) ?_; intro v3 w3 hown3 hb3 hg3)
    rw [Nat.zero_add, List.nil_append] at hown3
    obtain ⟨g, cap, hv⟩ : ∃ g cap, v3 = .slice (some ⟨g, 0, none⟩) L.length cap := by
      rcases hown3.2 with ⟨_, hz⟩ | ⟨g, cap, cur, hv, _⟩
      · omega
      · exact ⟨g, cap, hv⟩
    subst hv
    have hgl := (hown3.lt g rfl).2
    have hgb := (hown3.lt g rfl).1
    have r0 := tms_at L k hk 0 (by omega)
    have r1 := tms_at L k hk 1 (by omega)
    have c1 : w3.drew.cell? ⟨g, k * 2 + 1, none⟩ = some (.int .i64 L[k].ct) := (own_cell hown3 rfl (k * 2 + 1) (by omega)).trans (r1.trans rfl)
    have f1 : w3.drew.frozen? ⟨g, k * 2 + 1, none⟩ = false := own_frozen hown3 rfl _
    have e3 : w3.drew.cell? ⟨w.heap.size, 1, none⟩ = some (.int .i64 ct) := (hb3.cell (p := ⟨w.heap.size, 1, none⟩) (Nat.lt_of_lt_of_le l1 hb2.size)).trans e1
    have hmem : (strs L[k].tk, L[k].ct) ∈ st L := List.mem_map.2 ⟨L[k], List.getElem_mem hk, rfl⟩
    have hct0 := HG.out.p _ hmem
    have hct1 : L[k].ct ≤ 9223372036854775807 := HG.out.m _ hmem
    have hset := tms_set hk (sat (L[k].ct + ct))
    have hadd := adds_found2 hk HG.out ct (by omega) (T := strs tk) (by rw [HK.out])
    have hst := own_store hown3 rfl (k * 2 + 1) (.int .i64 (sat (L[k].ct + ct)))
    rw [hset] at hst
    have hnost := own_noStr hown3 (Nat.zero_le _)
    have hb13 : Below w.heap.size w w3 := HB.out.trans ((HB2.out.trans (hb3.mono HB2.out.size)).mono HB.out.size)
    have hbw : Below w.heap.size w (w3.setCell ⟨g, k * 2 + 1, none⟩ (.int .i64 (sat (L[k].ct + ct)))) := hb13.setCell (p := ⟨g, k * 2 + 1, none⟩) (Nat.le_trans (Nat.le_trans HB.out.size HB2.out.size) hgb) _
    have hTs : ∀ u ∈ L, TkR 0 (w3.setCell ⟨g, k * 2 + 1, none⟩ (.int .i64 (sat (L[k].ct + ct)))) u := fun u hu => ((((HM.out.2 u hu).up HB2.out).up hb3)).grown (grownBy_set (World.grownBy.refl w3 (some g)) _ _) hnost
    have hTk : TkR 0 (w3.setCell ⟨g, k * 2 + 1, none⟩ (.int .i64 (sat (L[k].ct + ct)))) ⟨L[k].tv, L[k].tk, sat (L[k].ct + ct)⟩ := ⟨(hTs _ (List.getElem_mem hk)).1, (hTs _ (List.getElem_mem hk)).2⟩
    have hall : ∀ u ∈ L.set k ⟨L[k].tv, L[k].tk, sat (L[k].ct + ct)⟩, TkR 0 (w3.setCell ⟨g, k * 2 + 1, none⟩ (.int .i64 (sat (L[k].ct + ct)))) u := fun u hu => by
      rcases List.mem_or_eq_of_mem_set hu with hu | rfl
      · exact hTs u hu
      · exact hTk
    have hl2 : (L.set k ⟨L[k].tv, L[k].tk, sat (L[k].ct + ct)⟩).length = L.length := List.length_set
    have hkin : Kin L ⟨.slice A2 n2 c2, tk, ct⟩ (L.set k ⟨L[k].tv, L[k].tk, sat (L[k].ct + ct)⟩) := fun u hu => by
      rcases List.mem_or_eq_of_mem_set hu with hu | rfl
      · exact .inl ⟨u, hu, rfl, rfl⟩
      · exact .inl ⟨L[k], List.getElem_mem hk, rfl, rfl⟩
    obtain ⟨L2, hL2⟩ : ∃ L2, L2 = L.set k ⟨L[k].tv, L[k].tk, sat (L[k].ct + ct)⟩ := ⟨_, rfl⟩
    rw [← hL2] at hadd hst hall hl2 hkin
    have HKIN := keep hkin
    clear hkin
    obtain ⟨x, hx⟩ : ∃ x, x = L[k].ct := ⟨_, rfl⟩
    rw [← hx] at c1 hst hbw hall
    simp only at hct0 hct1
    rw [← hx] at hct0 hct1
    have HADD := keep hadd
    have HST := keep hst
    have HBW := keep hbw
    have HALL := keep hall
    have HL2 := keep hl2
    have HSUM := keep (rSum_any x ct w3.drew (by omega) (by omega) (by omega) (by omega))
    clear hadd hst hbw hall hl2 hx hL2 hset hmem r0 r1 hTs hTk hnost hb13 hown3 e0 e1
    refine wp_region_still_tail 12 (by kernel_rfl) (by kernel_rfl) ?_
    simp only [List.take_succ_cons, List.take_zero, List.drop_succ_cons, List.drop_zero]
    iterate 9 still_step
    still_call HSUM.out
    iterate 2 still_step
    refine wpStill_nil ?_
    change wpList _ _ _ _ _ w3.drew
    go_wp2_with fail
    go_ret
    refine ⟨_, L2, rfl, ⟨?_, HALL.out, HBW.out.drew⟩, HADD.out, HKIN.out⟩
    rw [HL2.out]
    exact own_base HST.out (Nat.le_trans HB.out.size HB2.out.size)
  · have hins := insert_any _ L ⟨.slice A2 n2 c2, tk, ct⟩ w2 (HM.out.up hb2) (HT.out.up hb2) (fun u hu e => hnone u hu e.symm) hm
    have HI := keep hins
    have HN := keep hnone
    simp only [tmV] at HI
    clear hins hnone HF
    go_wp2_with fail
    refine HI.out.mono ?_
    rintro e w3 ⟨v3, k, rfl, hk, hP, hS, hown, hb3⟩
    have hadd := adds_ins (t := ⟨.slice A2 n2 c2, tk, ct⟩) hk hP hS (fun u hu e => HN.out u hu e.symm) HG.out hn (by unfold MAXI; exact hn2)
    have hall : ∀ u ∈ insRow L k ⟨.slice A2 n2 c2, tk, ct⟩, TkR 0 w3 u := fun u hu => by
      have hold : ∀ u ∈ L, TkR 0 w3 u := fun u hu => ((HM.out.2 u hu).up HB2.out).up hb3
      rcases List.mem_append.1 hu with hu | hu
      · rcases List.mem_append.1 hu with hu | hu
        · exact hold u (List.mem_of_mem_take hu)
        · rw [List.mem_singleton.1 hu]; exact (HT.out.up HB2.out).up hb3
      · exact hold u (List.mem_of_mem_drop hu)
    have hkin : Kin L ⟨.slice A2 n2 c2, tk, ct⟩ (insRow L k ⟨.slice A2 n2 c2, tk, ct⟩) := fun u hu => by
      rcases List.mem_append.1 hu with hu | hu
      · rcases List.mem_append.1 hu with hu | hu
        · exact .inl ⟨u, List.mem_of_mem_take hu, rfl, rfl⟩
        · rw [List.mem_singleton.1 hu]; exact .inr ⟨rfl, rfl⟩
      · exact .inl ⟨u, List.mem_of_mem_drop hu, rfl, rfl⟩
    have HKIN := keep hkin
    have hlen := insRow_len L k hk ⟨.slice A2 n2 c2, tk, ct⟩
    rw [← hlen] at hown
    have HADD := keep hadd
    have HALL := keep hall
    have HOW := keep hown
    clear hadd hall hown hlen hP hS hkin
    go_wp2_with fail
    go_ret
    exact ⟨_, _, rfl, ⟨own_base HOW.out (Nat.le_trans HB.out.size HB2.out.size), HALL.out, HB.out.trans ((HB2.out.trans (hb3.mono HB2.out.size)).mono HB.out.size)⟩, HADD.out, HKIN.out⟩
end Go.Proofs.YtigogjlbemkhdaaGreat
namespace Go.Proofs.YtigogjlbemkhdaaGreat
open Go.RowKit

theorem toks_same (s : ByteArray) : (toks s).isSome = (tokW (lb s)).isSome ∧ ∀ T : List ByteArray, strs T = (tokW (lb s)).getD [] → T = (toks s).getD [] := by
  have h := toks_eq s
  rw [← h]
  refine ⟨by cases toks s <;> rfl, fun T hT => strs_inj (hT.trans ?_)⟩
  cases toks s <;> rfl
def RLineS (P : List TP) (o : Option (List ByteArray)) (w : World) (x : Ending) (w' : World) : Prop := ∃ v' L', x = .returned v' ∧ MS 0 w' v' L' ∧ AddStepS P o (st L') ∧ Below w.heap.size w w'
set_option maxHeartbeats 4000000 in
theorem refAddS_any (v : Value) (L : List Tm) (s : ByteArray) (w : World) (h : MS 0 w v L) (hg : OkS (st L) 1000) (hs : s.size ≤ 4294967296) : Calls Tryz.prog 13 #[v, .string s] w (RLineS (st L) (toks s) w) := by
  have H := keep h
  have HG := keep hg
  obtain ⟨A, c, rfl, _, _⟩ := h.1.form
  have HTK := keep (refTok_any s w hs)
  have HTS := keep (toks_same s).2
  obtain ⟨q, hq⟩ : ∃ q, (tokW (lb s)).isSome = q := ⟨_, rfl⟩
  have HQ := keep ((toks_same s).1.trans hq)
  clear h hg
  go_enter Tryz.func13, Tryz.ntmps13
  go_wp2_with fail
  refine HTK.out.mono ?_
  rintro e w1 ⟨tv, T, rfl, hT, hT6, ho, hb1⟩
  rw [hq]
  obtain ⟨A2, c2, rfl, _⟩ := own_sl ho
  have HO := keep ho
  have HUT := keep (HTS.out T hT)
  clear ho HTK hT hq
  cases q with
  | false =>
    have HN : Hid (toks s = none) := keep (by
      have h1 := HQ.out
      cases ht : toks s with
      | none => rfl
      | some x => rw [ht] at h1; cases h1)
    go_wp2_with fail
    go_ret
    exact ⟨_, L, rfl, H.out.up hb1, by rw [HN.out]; exact rfl, hb1⟩
  | true =>
    have HTO : Hid (toks s = some T) := keep (by
      have h1 := HQ.out
      have h2 := HUT.out
      cases ht : toks s with
      | none => rw [ht] at h1; cases h1
      | some x => rw [ht] at h2; rw [h2]; rfl)
    have hc := countS_any (.slice A L.length c) L ⟨.slice A2 T.length c2, T, 1⟩ w1 (H.out.up hb1) ⟨own_str HO.out, by simp only; omega⟩ (HG.out.more (by omega)) (by show (1 : Int) ≤ 1; omega) (by show (1 : Int) ≤ 9223372036854775807; omega)
    have HC := keep hc
    simp only [tmV] at HC
    clear hc
    go_wp2_with fail
    refine HC.out.mono ?_
    rintro e w2 ⟨v2, L2, rfl, hn2, had, hki⟩
    have HN := keep hn2
    have HAD := keep had
    clear hn2 had hki
    go_wp2_with fail
    go_ret
    exact ⟨v2, L2, rfl, HN.out.ms, by rw [HTO.out]; exact HAD.out, bchain hb1 HN.out.2.2⟩
/-- The state with one line less, up to the element k. -/
def decT (t : Tm) : Tm := ⟨t.tv, t.tk, t.ct - 1⟩
def remL (L : List Tm) (i k : Nat) : List Tm := ((L.modify i decT).take k).filter fun t => decide (0 < t.ct)
theorem remL_step {L : List Tm} {i k : Nat} (hk : k < L.length) : remL L i (k + 1) = remL L i k ++ if 0 < (if k = i then L[k].ct - 1 else L[k].ct) then [⟨L[k].tv, L[k].tk, if k = i then L[k].ct - 1 else L[k].ct⟩] else [] := by
  unfold remL
  have hk2 : k < (L.modify i decT).length := by rw [List.length_modify]; exact hk
  rw [List.take_succ_eq_append_getElem hk2, List.filter_append]
  congr 1
  have e : (L.modify i decT)[k] = ⟨L[k].tv, L[k].tk, if k = i then L[k].ct - 1 else L[k].ct⟩ := by
    rw [List.getElem_modify]
    by_cases h : i = k
    · subst h; rw [if_pos rfl, if_pos rfl]; rfl
    · rw [if_neg h, if_neg (fun e => h e.symm)]
  rw [e]
  by_cases h : 0 < (if k = i then L[k].ct - 1 else L[k].ct)
  · rw [if_pos h]
    simp [h]
  · rw [if_neg h]
    simp only [List.filter_cons, List.filter_nil]
    rw [if_neg (by simpa using h)]
theorem remL_done {L : List Tm} {i N : Nat} (hi : i < L.length) (g : OkS (st L) N) : Removed (st L) (st (remL L i L.length)) (strs L[i].tk) := by
  have hall : ∀ j, (h : j < L.length) → 1 ≤ L[j].ct := fun j h => g.p _ (List.mem_map.2 ⟨L[j], List.getElem_mem h, rfl⟩)
  have e0 : (L.modify i decT).take L.length = L.take i ++ decT L[i] :: L.drop (i + 1) := by
    rw [List.take_of_length_le (by rw [List.length_modify]; exact Nat.le_refl _), List.modify_eq_take_cons_drop hi]
  have hpre : (L.take i).filter (fun t => decide (0 < t.ct)) = L.take i := List.filter_eq_self.2 fun t ht => by
    obtain ⟨j, hj, rfl⟩ := List.getElem_of_mem ht
    rw [List.length_take] at hj
    rw [List.getElem_take]
    have := hall j (by omega)
    simp; omega
  have hpost : (L.drop (i + 1)).filter (fun t => decide (0 < t.ct)) = L.drop (i + 1) := List.filter_eq_self.2 fun t ht => by
    obtain ⟨j, hj, rfl⟩ := List.getElem_of_mem ht
    rw [List.length_drop] at hj
    rw [List.getElem_drop]
    have := hall (i + 1 + j) (by omega)
    simp; omega
  have h1 := hall i hi
  unfold remL
  rw [e0, List.filter_append, hpre, List.filter_cons, hpost]
  by_cases hc : L[i].ct = 1
  · rw [if_neg (by simp [decT, hc])]
    exact removed_del hi g.s g.p hc
  · rw [if_pos (by simp [decT]; omega)]
    have := removed_set hi g.s g.p hc
    rw [List.set_eq_take_append_cons_drop, if_pos hi] at this
    exact this
theorem remL_kin {L : List Tm} {i k : Nat} : ∀ t ∈ remL L i k, ∃ x ∈ L, x.tv = t.tv ∧ x.tk = t.tk := by
  intro t ht
  have h1 := List.mem_of_mem_take (List.mem_filter.1 ht).1
  obtain ⟨j, hj, rfl⟩ := List.getElem_of_mem h1
  rw [List.length_modify] at hj
  rw [List.getElem_modify]
  refine ⟨L[j], List.getElem_mem hj, ?_⟩
  split <;> exact ⟨rfl, rfl⟩
def RRemS (P : List TP) (o : Option (List ByteArray)) (w : World) (x : Ending) (w' : World) : Prop := ∃ v' L' ok, x = .returned (.tuple #[v', .bool ok]) ∧ MS 0 w' v' L' ∧ RemStep P o ok (st L') ∧ L'.length ≤ P.length ∧ Below w.heap.size w w'
set_option maxHeartbeats 8000000 in
set_option maxRecDepth 100000 in
theorem refRemS_any (v : Value) (L : List Tm) (s : ByteArray) (w : World) (h : MS 0 w v L) (hg : OkS (st L) 1000) (hs : s.size ≤ 4294967296) : Calls Tryz.prog 10 #[v, .string s] w (RRemS (st L) (toks s) w) := by
  have H := keep h
  have HG := keep hg
  have hlm : L.length ≤ 1000 := hg.len
  obtain ⟨A, c, rfl, _, _⟩ := h.1.form
  have HTK := keep (refTok_any s w hs)
  have HTS := keep (toks_same s).2
  obtain ⟨q, hq⟩ : ∃ q, (tokW (lb s)).isSome = q := ⟨_, rfl⟩
  have HQ := keep ((toks_same s).1.trans hq)
  clear h hg
  go_enter Tryz.func10, Tryz.ntmps10
  go_wp2_with fail
  refine HTK.out.mono ?_
  rintro e w1 ⟨tv, T, rfl, hT, hT6, ho, hb1⟩
  rw [hq]
  obtain ⟨A2, c2, rfl, _⟩ := own_sl ho
  have HO := keep ho
  have HUT := keep (HTS.out T hT)
  clear ho HTK hT hq
  cases q with
  | false =>
    have HN : Hid (toks s = none) := keep (by
      have h1 := HQ.out
      cases ht : toks s with
      | none => rfl
      | some x => rw [ht] at h1; cases h1)
    go_wp2_with fail
    go_ret2
    exact ⟨_, L, false, rfl, H.out.up hb1, by rw [HN.out]; exact ⟨rfl, rfl⟩, by rw [st_len]; exact Nat.le_refl _, hb1⟩
  | true =>
    have HTO : Hid (toks s = some T) := keep (by
      have h1 := HQ.out
      have h2 := HUT.out
      cases ht : toks s with
      | none => rw [ht] at h1; cases h1
      | some x => rw [ht] at h2; rw [h2]; rfl)
    have hfd := find_any (oB := 0) (.slice A L.length c) L ⟨.slice A2 T.length c2, T, 0⟩ w1 (H.out.up hb1) ⟨own_str HO.out, by simp only; omega⟩ (by omega)
    have HFD := keep hfd
    simp only [tmV] at HFD
    clear hfd HQ HUT
    go_wp2_with fail
    refine HFD.out.mono ?_
    rintro e w2 ⟨hres, hb2⟩
    have HB2 := keep (hb1.trans (hb2.mono hb1.size))
    have HM2 := keep (H.out.up HB2.out)
    rcases hres with ⟨i, hi, hit, rfl⟩ | ⟨hnone, rfl⟩
    · have HIT := keep hit
      have HRD := keep (remL_done hi HG.out)
      have HPS := keep HG.out.p
      have HMX := keep HG.out.m
      have i3 : ¬ ((i : Int) < 0) := by omega
      clear hit hb2 HFD
      go_wp2_with fail
      go_loopw [9, 10] (fun u9 u10 wr => ∃ (k : Nat) (R : List Tm) (Ar : Option Addr) (cr : Nat), k ≤ L.length ∧ u10 = .int .i64 k ∧ u9 = .slice Ar R.length cr ∧ R.length ≤ k ∧ Hid (R = remL L i k) ∧ Hid (wr.ownsRow w2.heap.size 32 2 (.slice Ar R.length cr) R.length (tms R)) ∧ Hid (Below w2.heap.size w2 wr)) (fun _ u10 _ => L.length - (intOf u10).toNat)
      case atStart => exact ⟨0, [], none, 0, Nat.zero_le _, rfl, rfl, Nat.le_refl _, keep (by simp [remL]), keep (World.ownsRow_nil _ _ _ _), keep (Below.refl _ _)⟩
      case round =>
        obtain ⟨k, R, Ar, cr, hk, rfl, rfl, hRl, hR, hO2, hB⟩ := hrel
        obtain ⟨wo, rfl⟩ : ∃ wo : World, wo = wr := ⟨_, rfl⟩
        by_cases hlt : k < L.length
        · obtain ⟨b1, o1, rfl, _, d0, d1⟩ := tm_cells (HM2.out.1.upW hB.out) hlt
          have htr := (HM2.out.2 _ (List.getElem_mem hlt)).up hB.out
          have hmem : (strs L[k].tk, L[k].ct) ∈ st L := List.mem_map.2 ⟨L[k], List.getElem_mem hlt, rfl⟩
          have hc1 := HPS.out _ hmem
          have hc2 := HMX.out _ hmem
          have hstep := remL_step (i := i) hlt
          obtain ⟨t, ht⟩ : ∃ t, L[k] = t := ⟨_, rfl⟩
          rw [ht] at d0 d1 htr hc1 hc2 hstep
          obtain ⟨yv, Y, ct⟩ := t
          simp only at d0 d1 hc1 hc2 hstep
          obtain ⟨ya, yn, yc, hyv⟩ := htr.form
          simp only at hyv
          subst hyv
          have hc2' : ct ≤ 9223372036854775807 := hc2
          rw [← hR.out] at hstep
          have HSTEP := keep hstep
          have k1 : (k : Int) < (L.length : Int) := by omega
          have k2 : (k : Int) ≤ 1000 := by omega
          have k4 : (i : Int) ≤ 1000 := by omega
          clear htr ht hmem hc2 hstep
          by_cases e : k = i
          · have hke : ((k : Int) == (i : Int)) = true := by rw [e]; simp
            have HE := keep e
            clear e
            by_cases hp : 1 < ct
            · obtain ⟨wa, hwa⟩ : ∃ wa, wa = wo.alloc (.cells #[.slice ya yn yc, .int .i64 (ct - 1)] 32) := ⟨_, rfl⟩
              have hal : Below wo.heap.size wo wa := hwa ▸ (Below.refl _ wo).alloc (Nat.le_refl _) _
              have hbk : Blk wa wo.heap.size 32 #[.slice ya yn yc, .int .i64 (ct - 1)] := hwa ▸ Blk.new wo _ _
              obtain ⟨q0, q1⟩ := hbk.cell2
              have HOA := keep (own_bel hO2.out hal)
              have HBA := keep (hB.out.trans (hal.mono hB.out.size))
              have HBAS := hB.out.size
              have HWAS := hal.size
              have hx1 : ∀ c ∈ (Value.agg #[.slice ya yn yc, .int .i64 (ct - 1)]).cells.toList, c.oneCell' = true := by
                intro c hc
                simp [Value.cells] at hc
                rcases hc with rfl | rfl <;> rfl
              have HX1 := keep hx1
              have HR1 : Hid (R ++ [(⟨.slice ya yn yc, Y, ct - 1⟩ : Tm)] = remL L i (k + 1)) := keep (by rw [HSTEP.out, if_pos (by rw [if_pos HE.out]; omega), if_pos HE.out])
              go_upto_region 15 with fail
              rw [← hwa]
              clear hx1 hal hbk hwa
              go_wp2_with (refine wpList_push elTm rfl rfl (.tmp 48) (.tmp 47) 49 rfl rfl rfl w2.heap.size (.slice Ar R.length cr) (.agg #[.slice ya yn yc, .int .i64 (ct - 1)]) R.length (tms R) ?_ ?_ ?_ ?_ ?_ ?_ ?_ ?_ ?_ ?_ ?_)
              case refine_1 => rfl
              case refine_2 => intro q; rfl
              case refine_3 => intro q; rfl
              case refine_4 => exact HOA.out
              case refine_5 => rfl
              case refine_6 => exact HX1.out
              case refine_7 => decide
              case refine_8 => unfold maxLen; omega
              case refine_9 => omega
              case refine_10 => omega
              case refine_11 =>
                intro g cap w9 hown9 hb9 _ _ _
                have hl9 : (R ++ [(⟨.slice ya yn yc, Y, ct - 1⟩ : Tm)]).length = R.length + 1 := by simp
                have HO9 : Hid (w9.ownsRow w2.heap.size 32 2 (.slice (some ⟨g, 0, none⟩) (R ++ [(⟨.slice ya yn yc, Y, ct - 1⟩ : Tm)]).length cap) (R ++ [(⟨.slice ya yn yc, Y, ct - 1⟩ : Tm)]).length (tms (R ++ [(⟨.slice ya yn yc, Y, ct - 1⟩ : Tm)]))) := keep (by
                  rw [hl9, tms_append]
                  exact hown9)
                have HB9 := keep (HBA.out.trans hb9)
                rw [← hl9]
                have hP9 : (R ++ [(⟨.slice ya yn yc, Y, ct - 1⟩ : Tm)]).length ≤ k + 1 := by omega
                clear hown9 hb9 hl9
                generalize R ++ [(⟨.slice ya yn yc, Y, ct - 1⟩ : Tm)] = R2 at HR1 HO9 hP9 ⊢
                go_wp2_with fail
                go_roundw
                case rel => exact ⟨k + 1, R2, _, _, by omega, by go_num, rfl, hP9, HR1, HO9, HB9⟩
                case measure => simp [intOf]; omega
            · have HR1 : Hid (R = remL L i (k + 1)) := keep (by rw [HSTEP.out, if_neg (by rw [if_pos HE.out]; omega), List.append_nil])
              have HBA := keep (hB.out.trans (((Below.refl _ wo).alloc (Nat.le_refl _) (.cells #[.slice ya yn yc, .int .i64 (ct - 1)] 32)).mono hB.out.size))
              have HOA := keep (own_bel hO2.out ((Below.refl _ wo).alloc (Nat.le_refl _) (.cells #[.slice ya yn yc, .int .i64 (ct - 1)] 32)))
              go_wp2_with fail
              go_roundw
              case rel => exact ⟨k + 1, R, Ar, cr, by omega, by go_num, rfl, by omega, HR1, HOA, HBA⟩
              case measure => simp [intOf]; omega
          · have hke : ((k : Int) == (i : Int)) = false := by
              have : ¬ (k : Int) = (i : Int) := by omega
              simpa using this
            have hp : 0 < ct := by omega
            obtain ⟨wa, hwa⟩ : ∃ wa, wa = wo.alloc (.cells #[.slice ya yn yc, .int .i64 (ct)] 32) := ⟨_, rfl⟩
            have hal : Below wo.heap.size wo wa := hwa ▸ (Below.refl _ wo).alloc (Nat.le_refl _) _
            have hbk : Blk wa wo.heap.size 32 #[.slice ya yn yc, .int .i64 (ct)] := hwa ▸ Blk.new wo _ _
            obtain ⟨q0, q1⟩ := hbk.cell2
            have HOA := keep (own_bel hO2.out hal)
            have HBA := keep (hB.out.trans (hal.mono hB.out.size))
            have HBAS := hB.out.size
            have HWAS := hal.size
            have hx1 : ∀ c ∈ (Value.agg #[.slice ya yn yc, .int .i64 (ct)]).cells.toList, c.oneCell' = true := by
              intro c hc
              simp [Value.cells] at hc
              rcases hc with rfl | rfl <;> rfl
            have HX1 := keep hx1
            have HR1 : Hid (R ++ [(⟨.slice ya yn yc, Y, ct⟩ : Tm)] = remL L i (k + 1)) := keep (by rw [HSTEP.out, if_pos (by rw [if_neg e]; omega), if_neg e])
            have HE := keep e
            clear e
            go_upto_region 15 with fail
            rw [← hwa]
            clear hx1 hal hbk hwa
            go_wp2_with (refine wpList_push elTm rfl rfl (.tmp 48) (.tmp 47) 49 rfl rfl rfl w2.heap.size (.slice Ar R.length cr) (.agg #[.slice ya yn yc, .int .i64 (ct)]) R.length (tms R) ?_ ?_ ?_ ?_ ?_ ?_ ?_ ?_ ?_ ?_ ?_)
            case refine_1 => rfl
            case refine_2 => intro q; rfl
            case refine_3 => intro q; rfl
            case refine_4 => exact HOA.out
            case refine_5 => rfl
            case refine_6 => exact HX1.out
            case refine_7 => decide
            case refine_8 => unfold maxLen; omega
            case refine_9 => omega
            case refine_10 => omega
            case refine_11 =>
              intro g cap w9 hown9 hb9 _ _ _
              have hl9 : (R ++ [(⟨.slice ya yn yc, Y, ct⟩ : Tm)]).length = R.length + 1 := by simp
              have HO9 : Hid (w9.ownsRow w2.heap.size 32 2 (.slice (some ⟨g, 0, none⟩) (R ++ [(⟨.slice ya yn yc, Y, ct⟩ : Tm)]).length cap) (R ++ [(⟨.slice ya yn yc, Y, ct⟩ : Tm)]).length (tms (R ++ [(⟨.slice ya yn yc, Y, ct⟩ : Tm)]))) := keep (by
                rw [hl9, tms_append]
                exact hown9)
              have HB9 := keep (HBA.out.trans hb9)
              rw [← hl9]
              have hP9 : (R ++ [(⟨.slice ya yn yc, Y, ct⟩ : Tm)]).length ≤ k + 1 := by omega
              clear hown9 hb9 hl9
              generalize R ++ [(⟨.slice ya yn yc, Y, ct⟩ : Tm)] = R2 at HR1 HO9 hP9 ⊢
              go_wp2_with fail
              go_roundw
              case rel => exact ⟨k + 1, R2, _, _, by omega, by go_num, rfl, hP9, HR1, HO9, HB9⟩
              case measure => simp [intOf]; omega
        · obtain rfl : k = L.length := by omega
          have HRR : Hid (Removed (st L) (st R) (strs T)) := keep (by rw [hR.out, ← HIT.out]; exact HRD.out)
          have HKI : Hid (∀ t ∈ R, ∃ x ∈ L, x.tv = t.tv ∧ x.tk = t.tk) := keep (by rw [hR.out]; exact remL_kin)
          have HCN : Hid (cnt (st L) (strs T) ≠ 0) := keep (by
            rw [← HIT.out, cnt_at hi HG.out.s]
            have := HPS.out _ (List.mem_map.2 ⟨L[i], List.getElem_mem hi, rfl⟩)
            simp only at this
            omega)
          have HMF : Hid (MS 0 wo (.slice Ar R.length cr) R) := keep ⟨Sl.of_own hO2.out, fun t ht => by
            obtain ⟨x, hx, h1, h2⟩ := HKI.out t ht
            have h3 := (HM2.out.2 x hx).up hB.out
            unfold TkR at h3 ⊢
            rw [← h1, ← h2]
            exact h3⟩
          go_wp2_with fail
          go_ret2
          exact ⟨_, R, true, rfl, HMF.out, by rw [HTO.out]; exact remStep_yes HCN.out HRR.out, by rw [st_len]; exact hRl, HB2.out.trans (hB.out.mono HB2.out.size)⟩
    · have HCZ : Hid (cnt (st L) (strs T) = 0) := keep (cnt_zero fun x hx e => by
        obtain ⟨u, hu, rfl⟩ := List.mem_map.1 hx
        exact hnone u hu (strs_inj e))
      clear hnone hb2 HFD
      go_wp2_with fail
      go_ret2
      exact ⟨_, L, false, rfl, HM2.out, by rw [HTO.out]; exact remStep_no HCZ.out, by rw [st_len]; exact Nat.le_refl _, HB2.out⟩
def RMrgS (P Q : List TP) (w : World) (x : Ending) (w' : World) : Prop := ∃ v' L', x = .returned v' ∧ MS 0 w' v' L' ∧ MrgS P Q Q.length (st L') ∧ Below w.heap.size w w'
set_option maxHeartbeats 8000000 in
theorem refMrgS_any (v1 v2 : Value) (L M : List Tm) (w : World) (h1 : MS 0 w v1 L) (h2 : MS 0 w v2 M) (g1 : OkS (st L) 1000) (g2 : OkS (st M) 1000) : Calls Tryz.prog 15 #[v1, v2] w (RMrgS (st L) (st M) w) := by
  have hm1 : L.length ≤ 1000 := g1.len
  have hm2 : M.length ≤ 1000 := g2.len
  obtain ⟨A1, c1, rfl, _, _⟩ := h1.1.form
  obtain ⟨A2, c2, rfl, _, _⟩ := h2.1.form
  have H1 := keep h1
  have H2 := keep h2
  have G1 := keep g1
  have G2 := keep g2
  clear h1 h2 g1 g2
  go_enter Tryz.func15, Tryz.ntmps15
  go_wp2_with fail
  go_loopw [5, 6] (fun u5 u6 wr => ∃ (k : Nat) (R : List Tm) (Ar : Option Addr) (cr : Nat), k ≤ M.length ∧ u6 = .int .i64 k ∧ u5 = .slice Ar R.length cr ∧ Hid (MS 0 wr (.slice Ar R.length cr) R) ∧ Hid (Below w.heap.size w wr) ∧ Hid (MrgS (st L) (st M) k (st R))) (fun _ u6 _ => M.length - (intOf u6).toNat)
  case atStart => exact ⟨0, L, A1, c1, Nat.zero_le _, rfl, rfl, H1, keep (Below.refl _ _), keep (MrgS.start _ _)⟩
  case round =>
    obtain ⟨k, R, A3, c3, hk, rfl, rfl, hM, hB, hR⟩ := hrel
    obtain ⟨wo, rfl⟩ : ∃ wo : World, wo = wr := ⟨_, rfl⟩
    by_cases hlt : k < M.length
    · obtain ⟨b, o, rfl, _, d0, d1⟩ := tm_cells ((H2.out.1).below hB.out (Nat.le_refl _)) hlt
      have htk := (H2.out.2 _ (List.getElem_mem hlt)).up hB.out
      have hmem : (strs M[k].tk, M[k].ct) ∈ st M := List.mem_map.2 ⟨M[k], List.getElem_mem hlt, rfl⟩
      have hp := G2.out.p _ hmem
      have hsl := G2.out.m _ hmem
      have hmk : k < (st M).length := by rw [st_len]; exact hlt
      have hst : (st M)[k] = (strs M[k].tk, M[k].ct) := by simp [st]
      have hRk := (hR.out.ok (by rw [st_len]; omega) G1.out).more (show 1000 + k ≤ 1048576 by omega)
      obtain ⟨t, ht⟩ : ∃ t, M[k] = t := ⟨_, rfl⟩
      rw [ht] at d0 d1 htk hp hsl hst
      obtain ⟨tv, tk, tc⟩ := t
      obtain ⟨B1, m1, q1, hv1⟩ := htk.form
      simp only at hv1 d0 d1 hp hsl hst
      subst hv1
      have hcn := countS_any (.slice A3 R.length c3) R ⟨.slice B1 m1 q1, tk, tc⟩ wo hM.out htk hRk hp hsl
      simp only [tmV] at hcn
      have HCN := keep hcn
      have HST := keep hst
      have i1 : (k : Int) < (M.length : Int) := by omega
      have i2 : (k : Int) ≤ 1000 := by omega
      clear hcn hst hmem htk ht hRk
      go_wp2_with fail
      refine HCN.out.mono ?_
      rintro e w4 ⟨v4, R4, rfl, hn4, had4, _⟩
      obtain ⟨A4, c4, rfl, _⟩ := own_sl hn4.1
      have HN4 := keep hn4.ms
      have HB4 := keep (hB.out.trans (hn4.2.2.mono hB.out.size))
      have HM4 := keep (hR.out.step hmk (by rw [HST.out]; exact had4))
      clear hn4 had4 HCN
      go_wp2_with fail
      go_roundw
      case rel => exact ⟨k + 1, R4, A4, c4, by omega, by go_num, rfl, HN4, HB4, HM4⟩
      case measure => simp [intOf]; omega
    · obtain rfl : k = M.length := by omega
      go_wp2_with fail
      go_ret
      exact ⟨_, R, rfl, hM.out, by rw [st_len]; exact hR.out, hB.out⟩
end Go.Proofs.YtigogjlbemkhdaaGreat
namespace Go.Proofs.YtigogjlbemkhdaaGreat
open Go.RowKit
variable {oB : Nat}

theorem sat_bds {x : Int} (h : 0 ≤ x) : 0 ≤ sat x ∧ sat x ≤ 9223372036854775807 := by unfold sat MAXI; omega
theorem sat_addS {a b : Int} (hb : 0 ≤ b) : sat (sat a + b) = sat (a + b) := by unfold sat MAXI; omega
theorem st_sumS {L : List Tm} {k N : Nat} (g : OkS (st L) N) : 0 ≤ sumP (st (L.take k)) := by
  have hp : Pos (st (L.take k)) := fun t ht => by
    obtain ⟨u, hu, rfl⟩ := List.mem_map.1 ht
    exact g.p _ (List.mem_map.2 ⟨u, List.mem_of_mem_take hu, rfl⟩)
  have := sumP_len hp
  omega
theorem sizeS_any (v : Value) (L : List Tm) (w : World) (h : MS oB w v L) (hg : OkS (st L) 1000) : Calls Tryz.prog 18 #[v] w fun e w' => e = .returned (.int .i64 (sat (sumP (st L)))) ∧ Below w.heap.size w w' := by
  obtain ⟨A, c, rfl, _, hs⟩ := h.1.form
  have HS := keep hs
  have HG := keep hg
  have HT := keep h.2
  have hlm : L.length ≤ 1000 := hg.len
  clear h hs hg
  go_enter Tryz.func18, Tryz.ntmps18
  go_wp2_with fail
  go_loopw [3, 8] (fun u3 i wr => ∃ (k : Nat) (n : Int), k ≤ L.length ∧ i = .int .i64 k ∧ u3 = .int .i64 n ∧ Hid (n = sat (sumP (st (L.take k)))) ∧ Hid (Below w.heap.size w wr)) (fun _ i _ => L.length - (intOf i).toNat)
  case atStart => exact ⟨0, 0, Nat.zero_le _, rfl, rfl, keep rfl, keep (Below.refl _ _)⟩
  case round =>
    obtain ⟨k, n, hk, rfl, rfl, hn, hB⟩ := hrel
    obtain ⟨wo, rfl⟩ : ∃ wo : World, wo = wr := ⟨_, rfl⟩
    by_cases hlt : k < L.length
    · obtain ⟨b1, o1, rfl, _, c0, c1⟩ := tm_cells (HS.out.below hB.out (Nat.le_refl _)) hlt
      have hs1 := st_take_sum hlt
      have hmem : (strs L[k].tk, L[k].ct) ∈ st L := List.mem_map.2 ⟨L[k], List.getElem_mem hlt, rfl⟩
      have hc1 := HG.out.p _ hmem
      have hc2 : L[k].ct ≤ 9223372036854775807 := HG.out.m _ hmem
      have hn1 := sat_bds (st_sumS (k := k) HG.out)
      rw [← hn.out] at hn1
      obtain ⟨ct, hct⟩ : ∃ x, x = L[k].ct := ⟨_, rfl⟩
      simp only at hc1
      rw [← hct] at c1 hs1 hc1 hc2
      have HS1 : Hid (sat (n + ct) = sat (sumP (st (L.take (k + 1))))) := keep (by rw [hs1, hn.out, sat_addS (by omega)])
      have HSUM := keep (sumS_any n ct (wo.alloc (.cells #[L[k].tv, .int .i64 ct] 32)) hn1.1 (by omega) hn1.2 hc2)
      have HB2 := keep (hB.out.trans (((Below.refl wo.heap.size wo).alloc (Nat.le_refl _) (.cells #[L[k].tv, .int .i64 ct] 32)).mono hB.out.size))
      have i1 : (k : Int) < (L.length : Int) := by omega
      have i2 : (k : Int) ≤ 1000 := by omega
      clear hs1 hc1 hc2 hn1 hct hmem
      obtain ⟨ya, yn, yc, hyv⟩ := (HT.out _ (List.getElem_mem hlt)).form
      rw [hyv] at c0 HSUM HB2
      clear hyv
      go_wp2_with fail
      refine HSUM.out.mono ?_
      rintro e w2 ⟨rfl, rfl⟩
      go_wp2_with fail
      go_roundw
      case rel => exact ⟨k + 1, _, by omega, by go_num, rfl, HS1, HB2⟩
      case measure => simp [intOf]; omega
    · obtain rfl : k = L.length := by omega
      have HN : Hid (n = sat (sumP (st L))) := keep (by have h := hn.out; rwa [List.take_length] at h)
      clear hn
      go_wp2_with fail
      go_ret
      exact ⟨by rw [← HN.out]; rfl, hB.out⟩
theorem rsizeS_any (v : Value) (L : List Tm) (w : World) (h : MS oB w v L) (hg : OkS (st L) 1000) : Calls Tryz.prog 19 #[v] w fun e w' => e = .returned (.int .i64 (sat (sumP (st L)))) ∧ Below w.heap.size w w' := by
  obtain ⟨A, c, rfl, _, hs⟩ := h.1.form
  have HS := keep hs
  have HG := keep hg
  have hlm : L.length ≤ 1000 := hg.len
  clear h hs hg
  go_enter Tryz.func19, Tryz.ntmps19
  go_wp2_with fail
  go_loopw [3, 4] (fun u3 i wr => ∃ (k : Nat) (n : Int), k ≤ L.length ∧ i = .int .i64 k ∧ u3 = .int .i64 n ∧ Hid (n = sat (sumP (st (L.take k)))) ∧ Hid (Below w.heap.size w wr)) (fun _ i _ => L.length - (intOf i).toNat)
  case atStart => exact ⟨0, 0, Nat.zero_le _, rfl, rfl, keep rfl, keep (Below.refl _ _)⟩
  case round =>
    obtain ⟨k, n, hk, rfl, rfl, hn, hB⟩ := hrel
    obtain ⟨wo, rfl⟩ : ∃ wo : World, wo = wr := ⟨_, rfl⟩
    by_cases hlt : k < L.length
    · obtain ⟨b1, o1, rfl, _, c0, c1⟩ := tm_cells (HS.out.below hB.out (Nat.le_refl _)) hlt
      have hs1 := st_take_sum hlt
      have hmem : (strs L[k].tk, L[k].ct) ∈ st L := List.mem_map.2 ⟨L[k], List.getElem_mem hlt, rfl⟩
      have hc1 := HG.out.p _ hmem
      have hc2 : L[k].ct ≤ 9223372036854775807 := HG.out.m _ hmem
      have hn1 := sat_bds (st_sumS (k := k) HG.out)
      rw [← hn.out] at hn1
      obtain ⟨ct, hct⟩ : ∃ x, x = L[k].ct := ⟨_, rfl⟩
      simp only at hc1
      rw [← hct] at c1 hs1 hc1 hc2
      have HS1 : Hid (sat (n + ct) = sat (sumP (st (L.take (k + 1))))) := keep (by rw [hs1, hn.out, sat_addS (by omega)])
      have HSUM := keep (fun wx => rSum_any n ct wx hn1.1 (by omega) hn1.2 hc2)
      have i1 : (k : Int) < (L.length : Int) := by omega
      have i2 : (k : Int) ≤ 1000 := by omega
      clear hs1 hc1 hc2 hn1 hct hmem c0
      go_wp2_with fail
      refine (HSUM.out wo).mono ?_
      rintro e w2 ⟨rfl, rfl⟩
      go_wp2_with fail
      go_roundw
      case rel => exact ⟨k + 1, _, by omega, by go_num, rfl, HS1, hB⟩
      case measure => simp [intOf]; omega
    · obtain rfl : k = L.length := by omega
      have HN : Hid (n = sat (sumP (st L))) := keep (by have h := hn.out; rwa [List.take_length] at h)
      clear hn
      go_wp2_with fail
      go_ret
      exact ⟨by rw [← HN.out]; rfl, hB.out⟩
theorem rtoken_any (s : ByteArray) (w : World) (hs : s.size ≤ 4294967296) : Calls Tryz.prog 44 #[.string s] w fun e w' => e = .returned (.bool (okS s)) ∧ w' = w := by
  obtain ⟨q, hq⟩ : ∃ q, okS s = q := ⟨_, rfl⟩
  have HQ : Hid ((!(lb s).any fun c => tkR c.toNat) = q) := keep (by rw [← okS_any, hq])
  rw [hq]
  clear hq
  go_enter Tryz.func44, Tryz.ntmps44
  go_wp2_with fail
  go_loopw [3] (fun i wr => ∃ k : Nat, k ≤ s.size ∧ i = .int .i64 k ∧ Hid (((lb s).any fun c => tkR c.toNat) = ((lb s).drop k).any fun c => tkR c.toNat) ∧ wr = w) (fun i _ => s.size - (intOf i).toNat)
  case atStart => exact ⟨0, Nat.zero_le _, rfl, keep rfl, rfl⟩
  case round =>
    obtain ⟨k, hk, rfl, hI, rfl⟩ := hrel
    by_cases hlt : k < s.size
    · have hd := any_dropK hlt
      have HC1 := keep (digit_any s[k].toNat wr)
      have HC2 := keep (space_any s[k].toNat wr)
      have hu2 : (s[k].toNat : Int) < 256 := by have := s[k].toNat_lt; omega
      have i1 : (k : Int) < (s.size : Int) := by omega
      have HD := keep hd
      clear hd
      go_wp2_with fail
      refine HC1.out.mono ?_
      rintro e w1 ⟨rfl, rfl⟩
      cases hdg : dgR s[k].toNat
      · have HDG := keep hdg
        clear hdg
        go_wp2_with fail
        refine HC2.out.mono ?_
        rintro e w1 ⟨rfl, rfl⟩
        cases hsp : spR s[k].toNat
        · have HI2 := keep (hI.out.trans (HD.out.trans (by unfold tkR; rw [hsp, HDG.out, Bool.false_or, Bool.false_or])))
          clear hsp HC1 HC2
          go_wp2_with fail
          go_roundw
          case rel => exact ⟨k + 1, by omega, by go_num, HI2, trivial⟩
          case measure => simp [intOf]; omega
        · have HF : Hid (q = false) := keep (by rw [← HQ.out, hI.out, HD.out]; unfold tkR; rw [hsp]; rfl)
          clear hsp HC1 HC2
          go_wp2_with fail
          go_ret
          exact ⟨by rw [HF.out]; rfl, rfl⟩
      · have HF : Hid (q = false) := keep (by rw [← HQ.out, hI.out, HD.out]; unfold tkR; rw [hdg]; simp)
        clear hdg HC1 HC2
        go_wp2_with fail
        go_ret
        exact ⟨by rw [HF.out]; rfl, rfl⟩
    · obtain rfl : k = s.size := by omega
      have HF : Hid (q = true) := keep (by rw [← HQ.out, hI.out, List.drop_of_length_le (by show s.size ≤ s.size; exact Nat.le_refl _)]; rfl)
      go_wp2_with fail
      go_ret
      exact ⟨by rw [HF.out]; rfl, rfl⟩
def fr82 (x : Nat → Value) : Array Value := #[x 0, x 1, x 2, x 3, x 4, x 5, x 6, x 7, x 8, x 9, x 10, x 11, x 12, x 13, x 14, x 15, x 16, x 17, x 18, x 19, x 20, x 21, x 22, x 23, x 24, x 25, x 26, x 27, x 28, x 29, x 30, x 31, x 32, x 33, x 34, x 35, x 36, x 37, x 38, x 39, x 40, x 41, x 42, x 43, x 44, x 45, x 46, x 47, x 48, x 49, x 50, x 51, x 52, x 53, x 54, x 55, x 56, x 57, x 58, x 59, x 60, x 61, x 62, x 63, x 64, x 65, x 66, x 67, x 68, x 69, x 70, x 71, x 72, x 73, x 74, x 75, x 76, x 77, x 78, x 79, x 80, x 81]
set_option maxHeartbeats 16000000 in
set_option maxRecDepth 100000 in
theorem rcheck_any (v : Value) (L : List Tm) (w : World) (h : MS oB w v L) (hz : ∀ t ∈ L, ∀ s ∈ t.tk, s.size ≤ 4294967296) (hm : L.length ≤ 1000) :
    Calls Tryz.prog 21 #[v] w (ChkOut L w) := by
  obtain ⟨A0, c0, rfl, _, _⟩ := h.1.form
  have H := keep h
  have HZ := keep hz
  clear h hz
  go_enter Tryz.func21, Tryz.ntmps21
  go_wp2_with fail
  go_loopw [3, 4] (fun u3 _ wr => ∃ k : Nat, k ≤ L.length ∧ u3 = .int .i64 k ∧ Hid (ChkP L k) ∧ Hid (Below w.heap.size w wr)) (fun u3 _ _ => L.length - (intOf u3).toNat)
  case atStart => exact ⟨0, Nat.zero_le _, rfl, keep ⟨fun i _ h => absurd h (by omega), fun i _ h => absurd h (by omega)⟩, keep (Below.refl _ _)⟩
  case round =>
    obtain ⟨kk, hk, rfl, hP, hB0⟩ := hrel
    obtain ⟨wq, rfl⟩ : ∃ wq : World, wq = wr := ⟨_, rfl⟩
    by_cases hlt : kk < L.length
    · have HMq := keep (H.out.up hB0.out)
      obtain ⟨bx, ox, rfl, hbl, d0, d1⟩ := tm_cells HMq.out.1 hlt
      have htr := HMq.out.2 _ (List.getElem_mem hlt)
      have hzz := HZ.out _ (List.getElem_mem hlt)
      obtain ⟨t, ht⟩ : ∃ t, L[kk] = t := ⟨_, rfl⟩
      have HLT := keep ht
      rw [ht] at d0 d1 htr hzz
      obtain ⟨tv1, T1, ct1⟩ := t
      obtain ⟨sa1, n1, k1, hv1⟩ := htr.form
      simp only at d0 d1 hv1 hzz
      subst hv1
      have hn1 : n1 = T1.length := by obtain ⟨_, _, _, hv, _⟩ := htr.1; injection hv
      subst hn1
      have htl : T1.length ≤ 1048576 := htr.2
      have HTR := keep htr.1.str
      have HZZ := keep hzz
      have HCK : Hid (chkT L[kk] = (decide (1 ≤ ct1) && decide (1 ≤ T1.length) && decide (T1.length ≤ 60) && !(T1.any fun s => !okS s))) := keep (by rw [ht]; rfl)
      have i1 : (kk : Int) < (L.length : Int) := by omega
      have i2 : (kk : Int) ≤ 1000 := by omega
      clear htr ht hzz
      by_cases g1 : ct1 < 1
      · have HNO := keep (chk_no hlt (by rw [HCK.out]; simp; omega))
        go_wp2_with fail
        go_ret
        exact ⟨false, rfl, by simp only [Bool.false_eq_true, false_iff]; exact HNO.out, hB0.out⟩
      · by_cases g2 : (T1.length : Int) < 1
        · have HNO := keep (chk_no hlt (by rw [HCK.out]; simp; omega))
          go_wp2_with fail
          go_ret
          exact ⟨false, rfl, by simp only [Bool.false_eq_true, false_iff]; exact HNO.out, hB0.out⟩
        · by_cases g3 : (60 : Int) < (T1.length : Int)
          · have HNO := keep (chk_no hlt (by rw [HCK.out]; simp; omega))
            go_wp2_with fail
            go_ret
            exact ⟨false, rfl, by simp only [Bool.false_eq_true, false_iff]; exact HNO.out, hB0.out⟩
          · go_wp2_with fail
            go_loopw [4] (fun u4 wr => ∃ m : Nat, m ≤ T1.length ∧ u4 = .int .i64 m ∧ Hid (∀ j, (hj : j < T1.length) → j < m → okS T1[j] = true) ∧ wr = wq) (fun u4 _ => T1.length - (intOf u4).toNat)
            case atStart => exact ⟨0, Nat.zero_le _, rfl, keep (fun j _ h => absurd h (by omega)), rfl⟩
            case round =>
              obtain ⟨m, hm2, rfl, hok, rfl⟩ := hrel
              by_cases hml : m < T1.length
              · obtain ⟨b2, o2, rfl, _, q0⟩ := str_at HTR.out hml
                have HTK := keep (rtoken_any T1[m] wr (HZZ.out _ (List.getElem_mem hml)))
                obtain ⟨x, hx⟩ : ∃ x, T1[m] = x := ⟨_, rfl⟩
                have HX := keep hx
                rw [hx] at q0 HTK
                have m1 : (m : Int) < (T1.length : Int) := by omega
                have m2 : (m : Int) ≤ 60 := by omega
                obtain ⟨z, hzk⟩ : ∃ z, okS x = z := ⟨_, rfl⟩
                rw [hzk] at HTK
                have HZK := keep hzk
                clear hx hzk
                go_wp2_with fail
                refine HTK.out.mono ?_
                rintro e w9 ⟨rfl, rfl⟩
                cases z with
                | false =>
                  have HNO := keep (chk_no hlt (by
                    rw [HCK.out]
                    have : (T1.any fun s => !okS s) = true := List.any_eq_true.2 ⟨T1[m], List.getElem_mem hml, by rw [HX.out, HZK.out]; rfl⟩
                    rw [this]
                    simp))
                  go_wp2_with fail
                  go_ret
                  exact ⟨false, rfl, by simp only [Bool.false_eq_true, false_iff]; exact HNO.out, hB0.out⟩
                | true =>
                  have HOK : Hid (∀ j, (hj : j < T1.length) → j < m + 1 → okS T1[j] = true) := keep (fun j hj hjm => by
                    by_cases e : j = m
                    · subst e; rw [HX.out, HZK.out]
                    · exact hok.out j hj (by omega))
                  go_wp2_with fail
                  go_roundw
                  case rel => exact ⟨m + 1, by omega, by go_num, HOK, trivial⟩
                  case measure => simp [intOf]; omega
              · obtain rfl : m = T1.length := by omega
                have HCT : Hid (chkT L[kk] = true) := keep (by
                  rw [HCK.out]
                  have : (T1.any fun s => !okS s) = false := by
                    rw [List.any_eq_false]
                    intro s hs
                    obtain ⟨j, hj, rfl⟩ := List.getElem_of_mem hs
                    rw [hok.out j hj hj]
                    simp
                  rw [this]
                  simp
                  omega)
                obtain ⟨wo, hwo⟩ : ∃ wo : World, wo = wr := ⟨_, rfl⟩
                subst hwo
                have hB := hB0
                by_cases hk0 : kk = 0
                · have kd : decide (0 < kk) = false := decide_eq_false (by omega)
                  have kn : ¬ 0 < kk := by omega
                  have HP1 : Hid (ChkP L (kk + 1)) := keep (chkP_step hlt hP.out HCT.out (fun j hj => absurd hj (by omega)))
                  clear hk0
                  go_wp2_with fail
                  go_quiet (fail)
                  go_wp2_with fail
                  go_roundw
                  case rel => exact ⟨kk + 1, by omega, by go_num, HP1, keep (below_drewN hB.out nq)⟩
                  case measure => simp [intOf]; omega
                · have kn : 0 < kk := by omega
                  have kd : decide (0 < kk) = true := decide_eq_true kn
                  obtain ⟨jj, hjj⟩ : ∃ jj, kk = jj + 1 := ⟨kk - 1, by omega⟩
                  have hjL : jj < L.length := by omega
                  have hcx : ∀ W' : World, Below wo.heap.size wo W' → (W'.cell? ⟨bx, ox + jj * 2, none⟩ = some L[jj].tv ∧ W'.cell? ⟨bx, ox + jj * 2 + 1, none⟩ = some (.int .i64 L[jj].ct)) ∧ (W'.cell? ⟨bx, ox + kk * 2, none⟩ = some (.slice sa1 T1.length k1) ∧ W'.cell? ⟨bx, ox + kk * 2 + 1, none⟩ = some (.int .i64 ct1)) := fun W' hW' => by
                    have h2 := HMq.out.up hW'
                    obtain ⟨bx', ox', hA, _, p0, p1⟩ := tm_cells h2.1 hjL
                    injection hA with hA
                    injection hA with e1 e2 _
                    subst e1
                    subst e2
                    exact ⟨⟨p0, p1⟩, (hW'.cell hbl).trans d0, (hW'.cell hbl).trans d1⟩
                  have htr0 := HMq.out.2 _ (List.getElem_mem hjL)
                  have htr1 := HMq.out.2 _ (List.getElem_mem hlt)
                  rw [HLT.out] at htr1
                  obtain ⟨t0, ht0⟩ : ∃ t, L[jj] = t := ⟨_, rfl⟩
                  have HLJ := keep ht0
                  rw [ht0] at hcx htr0
                  obtain ⟨tv0, T0, ct0⟩ := t0
                  obtain ⟨sa0, n0, k0, hv0⟩ := htr0.form
                  simp only at hv0 hcx
                  subst hv0
                  obtain ⟨z1, hz1⟩ : ∃ z, decide (T0 = T1) = z := ⟨_, rfl⟩
                  obtain ⟨z2, hz2⟩ : ∃ z, decide (cmpT (strs T0) (strs T1) < 0) = z := ⟨_, rfl⟩
                  have P1 := keep (fun (W' : World) (h : Below wo.heap.size wo W') => sameTok_any (⟨.slice sa0 n0 k0, T0, ct0⟩ : Tm) ⟨.slice sa1 T1.length k1, T1, ct1⟩ W' (htr0.up h) (htr1.up h))
                  have P2 : Hid (z1 = false → ∀ (W' : World), Below wo.heap.size wo W' → Calls Tryz.prog 45 #[.agg (tmV (⟨.slice sa0 n0 k0, T0, ct0⟩ : Tm)).toArray, .agg (tmV (⟨.slice sa1 T1.length k1, T1, ct1⟩ : Tm)).toArray] W' fun e w' => e = .returned (.bool (decide (cmpT (strs T0) (strs T1) < 0))) ∧ Below W'.heap.size W' w') := keep (fun hz W' h => less_any (⟨.slice sa0 n0 k0, T0, ct0⟩ : Tm) ⟨.slice sa1 T1.length k1, T1, ct1⟩ W' (htr0.up h) (htr1.up h) (fun e => by
                    have e' : T0 = T1 := e
                    rw [← hz1, decide_eq_true e'] at hz
                    cases hz))
                  rw [hz1] at P1
                  rw [hz2] at P2
                  simp only [tmV] at P1 P2
                  have HNC : Hid ((z1 || !z2) = true → ¬ ChkL L) := keep (fun hz hc => by
                    have h1 := hc.2 jj (by omega)
                    have e1 : L[jj + 1]'(by omega) = L[kk] := by congr 1; omega
                    rw [e1, HLJ.out, HLT.out] at h1
                    simp only at h1
                    rw [decide_eq_true h1] at hz2
                    rw [← hz2] at hz
                    simp only [Bool.not_true, Bool.or_false] at hz
                    rw [← hz1] at hz
                    have e2 := of_decide_eq_true hz
                    rw [e2, cmpT_eq.2 rfl] at h1
                    omega)
                  have HYC : Hid ((z1 || !z2) = false → ChkP L (kk + 1)) := keep (fun hz => chkP_step hlt hP.out HCT.out (fun j hj => by
                    obtain rfl : j = jj := by omega
                    rw [HLJ.out, HLT.out]
                    simp only [Bool.or_eq_false_iff, Bool.not_eq_false'] at hz
                    rw [← hz2] at hz
                    exact of_decide_eq_true hz.2))
                  have HCX := keep hcx
                  have hwj : IntKind.i64.wrap ((kk : Int) - 1) = (jj : Int) := by rw [IntWalk.i64_in _ (by omega)]; omega
                  have j1 : (jj : Int) < (L.length : Int) := by omega
                  have j4 : (0 : Int) ≤ (jj : Int) := by omega
                  have HJJ := keep hjj
                  clear hcx htr0 htr1 ht0 hz1 hz2 hjj hk0
                  go_wp2_with fail
                  clear d0 d1
                  refine reg_start 82 fr82 (fun _ => rfl) _ rfl fun x0 hx0 => ?_
                  have y0 : x0 0 = .slice (some ⟨bx, ox, none⟩) L.length c0 := hx0 0
                  have y3 : x0 3 = .int .i64 (kk : Int) := hx0 3
                  refine wp_regT (by kernel_rfl) 82 (by kernel_rfl) fr82 (fun _ => rfl) x0 (Below wo.heap.size wo) (fun _ _ _ => True) (fun i v wa => match i with
                      | 0 => v = .int .i64 (kk : Int)
                      | 1 => v = .bool true
                      | 2 => v = .bool true
                      | 3 => v = .slice (some ⟨bx, ox, none⟩) L.length c0
                      | 4 => v = .int .i64 (kk : Int)
                      | 5 => v = .int .i64 (jj : Int)
                      | 6 => v = .pointer (some ⟨bx, ox + jj * 2, none⟩)
                      | 7 => v = .agg #[.slice sa0 n0 k0, .int .i64 ct0]
                      | 8 => v = .slice (some ⟨bx, ox, none⟩) L.length c0
                      | 9 => v = .int .i64 (kk : Int)
                      | 10 => v = .pointer (some ⟨bx, ox + kk * 2, none⟩)
                      | 11 => v = .agg #[.slice sa1 T1.length k1, .int .i64 ct1]
                      | 12 => v = .bool z1
                      | 13 => v = .bool z1
                      | 14 => z1 = false → v = .slice (some ⟨bx, ox, none⟩) L.length c0
                      | 15 => z1 = false → v = .int .i64 (kk : Int)
                      | 16 => z1 = false → v = .int .i64 (jj : Int)
                      | 17 => z1 = false → v = .pointer (some ⟨bx, ox + jj * 2, none⟩)
                      | 18 => z1 = false → v = .agg #[.slice sa0 n0 k0, .int .i64 ct0]
                      | 19 => z1 = false → v = .slice (some ⟨bx, ox, none⟩) L.length c0
                      | 20 => z1 = false → v = .int .i64 (kk : Int)
                      | 21 => z1 = false → v = .pointer (some ⟨bx, ox + kk * 2, none⟩)
                      | 22 => z1 = false → v = .agg #[.slice sa1 T1.length k1, .int .i64 ct1]
                      | 23 => z1 = false → v = .bool z2
                      | 24 => z1 = false → v = .bool (!z2)
                      | 25 => v = .bool (z1 || !z2)
                      | 26 => v = .bool (z1 || !z2)
                      | _ => True) (fun _ _ _ _ _ _ _ h => h) (below_drewN (Below.refl _ _) 1) ?step ?skip ?done
                  case step =>
                    intro i o ho x wa K hW hout hdep hgd hK
                    have E0 : Hid (x 0 = .slice (some ⟨bx, ox, none⟩) L.length c0) := keep ((hout 0 (by decide)).trans y0)
                    have E3 : Hid (x 3 = .int .i64 (kk : Int)) := keep ((hout 3 (by decide)).trans y3)
                    clear hout hx0 y0 y3
                    have hi : i < 27 := (Array.getElem?_eq_some_iff.1 ho).1
                    have hcase : i = 0 ∨ i = 1 ∨ i = 2 ∨ i = 3 ∨ i = 4 ∨ i = 5 ∨ i = 6 ∨ i = 7 ∨ i = 8 ∨ i = 9 ∨ i = 10 ∨ i = 11 ∨ i = 12 ∨ i = 13 ∨ i = 14 ∨ i = 15 ∨ i = 16 ∨ i = 17 ∨ i = 18 ∨ i = 19 ∨ i = 20 ∨ i = 21 ∨ i = 22 ∨ i = 23 ∨ i = 24 ∨ i = 25 ∨ i = 26 := by omega
                    clear hi
                    rcases hcase with rfl | rfl | rfl | rfl | rfl | rfl | rfl | rfl | rfl | rfl | rfl | rfl | rfl | rfl | rfl | rfl | rfl | rfl | rfl | rfl | rfl | rfl | rfl | rfl | rfl | rfl | rfl
                    · -- operation 0
                      simp only [List.getElem?_toArray, List.getElem?_cons_zero, Option.some.injEq] at ho
                      subst ho
                      clear hdep hgd
                      unfold fr82
                      rw [E3.out]
                      go_simp
                      have hk : K { tmps := #[x 0, x 1, x 2, x 3, x 4, x 5, x 6, x 7, x 8, x 9, x 10, x 11, x 12, x 13, x 14, x 15, x 16, x 17, x 18, x 19, x 20, x 21, x 22, x 23, x 24, x 25, x 26, x 27, x 28, x 29, x 30, x 31, x 32, x 33, x 34, x 35, x 36, x 37, x 38, x 39, x 40, x 41, x 42, x 43, x 44, x 45, x 46, x 47, x 48, x 49, x 50, x 51, x 52, x 53, x 54, .int .i64 (kk : Int), x 56, x 57, x 58, x 59, x 60, x 61, x 62, x 63, x 64, x 65, x 66, x 67, x 68, x 69, x 70, x 71, x 72, x 73, x 74, x 75, x 76, x 77, x 78, x 79, x 80, x 81], defers := [] } wa := hK _ _ hW trivial rfl
                      rw [E3.out] at hk
                      exact hk
                    · -- operation 1
                      simp only [List.getElem?_toArray, List.getElem?_cons_succ, List.getElem?_cons_zero, Option.some.injEq] at ho
                      subst ho
                      have p0 : (x 55) = .int .i64 (kk : Int) := hdep 0 (List.mem_of_elem_eq_true (by kernel_rfl))
                      clear hdep hgd
                      unfold fr82
                      rw [p0]
                      go_simp
                      have hk : K { tmps := #[x 0, x 1, x 2, x 3, x 4, x 5, x 6, x 7, x 8, x 9, x 10, x 11, x 12, x 13, x 14, x 15, x 16, x 17, x 18, x 19, x 20, x 21, x 22, x 23, x 24, x 25, x 26, x 27, x 28, x 29, x 30, x 31, x 32, x 33, x 34, x 35, x 36, x 37, x 38, x 39, x 40, x 41, x 42, x 43, x 44, x 45, x 46, x 47, x 48, x 49, x 50, x 51, x 52, x 53, x 54, x 55, .bool true, x 57, x 58, x 59, x 60, x 61, x 62, x 63, x 64, x 65, x 66, x 67, x 68, x 69, x 70, x 71, x 72, x 73, x 74, x 75, x 76, x 77, x 78, x 79, x 80, x 81], defers := [] } wa := hK _ _ hW trivial rfl
                      rw [p0] at hk
                      exact hk
                    · -- operation 2
                      simp only [List.getElem?_toArray, List.getElem?_cons_succ, List.getElem?_cons_zero, Option.some.injEq] at ho
                      subst ho
                      have p1 : (x 56) = .bool true := hdep 1 (List.mem_of_elem_eq_true (by kernel_rfl))
                      clear hdep hgd
                      unfold fr82
                      rw [p1]
                      go_simp
                      have hk : K { tmps := #[x 0, x 1, x 2, x 3, x 4, x 5, x 6, x 7, x 8, x 9, x 10, x 11, x 12, x 13, x 14, x 15, x 16, x 17, x 18, x 19, x 20, x 21, x 22, x 23, x 24, x 25, x 26, x 27, x 28, x 29, x 30, x 31, x 32, x 33, x 34, x 35, x 36, x 37, x 38, x 39, x 40, x 41, x 42, x 43, x 44, x 45, x 46, x 47, x 48, x 49, x 50, x 51, x 52, x 53, x 54, x 55, x 56, .bool true, x 58, x 59, x 60, x 61, x 62, x 63, x 64, x 65, x 66, x 67, x 68, x 69, x 70, x 71, x 72, x 73, x 74, x 75, x 76, x 77, x 78, x 79, x 80, x 81], defers := [] } wa := hK _ _ hW trivial rfl
                      rw [p1] at hk
                      exact hk
                    · -- operation 3
                      simp only [List.getElem?_toArray, List.getElem?_cons_succ, List.getElem?_cons_zero, Option.some.injEq] at ho
                      subst ho
                      have hg : x 57 = .bool true := hgd 2 true rfl
                      clear hdep hgd
                      clear hg
                      unfold fr82
                      rw [E0.out]
                      go_simp
                      have hk : K { tmps := #[x 0, x 1, x 2, x 3, x 4, x 5, x 6, x 7, x 8, x 9, x 10, x 11, x 12, x 13, x 14, x 15, x 16, x 17, x 18, x 19, x 20, x 21, x 22, x 23, x 24, x 25, x 26, x 27, x 28, x 29, x 30, x 31, x 32, x 33, x 34, x 35, x 36, x 37, x 38, x 39, x 40, x 41, x 42, x 43, x 44, x 45, x 46, x 47, x 48, x 49, x 50, x 51, x 52, x 53, x 54, x 55, x 56, x 57, .slice (some ⟨bx, ox, none⟩) L.length c0, x 59, x 60, x 61, x 62, x 63, x 64, x 65, x 66, x 67, x 68, x 69, x 70, x 71, x 72, x 73, x 74, x 75, x 76, x 77, x 78, x 79, x 80, x 81], defers := [] } wa := hK _ _ hW trivial rfl
                      rw [E0.out] at hk
                      exact hk
                    · -- operation 4
                      simp only [List.getElem?_toArray, List.getElem?_cons_succ, List.getElem?_cons_zero, Option.some.injEq] at ho
                      subst ho
                      have hg : x 57 = .bool true := hgd 2 true rfl
                      clear hdep hgd
                      clear hg
                      unfold fr82
                      rw [E3.out]
                      go_simp
                      have hk : K { tmps := #[x 0, x 1, x 2, x 3, x 4, x 5, x 6, x 7, x 8, x 9, x 10, x 11, x 12, x 13, x 14, x 15, x 16, x 17, x 18, x 19, x 20, x 21, x 22, x 23, x 24, x 25, x 26, x 27, x 28, x 29, x 30, x 31, x 32, x 33, x 34, x 35, x 36, x 37, x 38, x 39, x 40, x 41, x 42, x 43, x 44, x 45, x 46, x 47, x 48, x 49, x 50, x 51, x 52, x 53, x 54, x 55, x 56, x 57, x 58, .int .i64 (kk : Int), x 60, x 61, x 62, x 63, x 64, x 65, x 66, x 67, x 68, x 69, x 70, x 71, x 72, x 73, x 74, x 75, x 76, x 77, x 78, x 79, x 80, x 81], defers := [] } wa := hK _ _ hW trivial rfl
                      rw [E3.out] at hk
                      exact hk
                    · -- operation 5
                      simp only [List.getElem?_toArray, List.getElem?_cons_succ, List.getElem?_cons_zero, Option.some.injEq] at ho
                      subst ho
                      have hg : x 57 = .bool true := hgd 2 true rfl
                      have p4 : (x 59) = .int .i64 (kk : Int) := hdep 4 (List.mem_of_elem_eq_true (by kernel_rfl))
                      clear hdep hgd
                      clear hg
                      unfold fr82
                      rw [p4]
                      go_simp
                      have hk : K { tmps := #[x 0, x 1, x 2, x 3, x 4, x 5, x 6, x 7, x 8, x 9, x 10, x 11, x 12, x 13, x 14, x 15, x 16, x 17, x 18, x 19, x 20, x 21, x 22, x 23, x 24, x 25, x 26, x 27, x 28, x 29, x 30, x 31, x 32, x 33, x 34, x 35, x 36, x 37, x 38, x 39, x 40, x 41, x 42, x 43, x 44, x 45, x 46, x 47, x 48, x 49, x 50, x 51, x 52, x 53, x 54, x 55, x 56, x 57, x 58, x 59, .int .i64 (jj : Int), x 61, x 62, x 63, x 64, x 65, x 66, x 67, x 68, x 69, x 70, x 71, x 72, x 73, x 74, x 75, x 76, x 77, x 78, x 79, x 80, x 81], defers := [] } wa := hK _ _ hW trivial rfl
                      rw [p4] at hk
                      exact hk
                    · -- operation 6
                      simp only [List.getElem?_toArray, List.getElem?_cons_succ, List.getElem?_cons_zero, Option.some.injEq] at ho
                      subst ho
                      have hg : x 57 = .bool true := hgd 2 true rfl
                      have p3 : (x 58) = .slice (some ⟨bx, ox, none⟩) L.length c0 := hdep 3 (List.mem_of_elem_eq_true (by kernel_rfl))
                      have p5 : (x 60) = .int .i64 (jj : Int) := hdep 5 (List.mem_of_elem_eq_true (by kernel_rfl))
                      clear hdep hgd
                      clear hg
                      unfold fr82
                      rw [p3, p5]
                      go_simp
                      have hk : K { tmps := #[x 0, x 1, x 2, x 3, x 4, x 5, x 6, x 7, x 8, x 9, x 10, x 11, x 12, x 13, x 14, x 15, x 16, x 17, x 18, x 19, x 20, x 21, x 22, x 23, x 24, x 25, x 26, x 27, x 28, x 29, x 30, x 31, x 32, x 33, x 34, x 35, x 36, x 37, x 38, x 39, x 40, x 41, x 42, x 43, x 44, x 45, x 46, x 47, x 48, x 49, x 50, x 51, x 52, x 53, x 54, x 55, x 56, x 57, x 58, x 59, x 60, .pointer (some ⟨bx, ox + jj * 2, none⟩), x 62, x 63, x 64, x 65, x 66, x 67, x 68, x 69, x 70, x 71, x 72, x 73, x 74, x 75, x 76, x 77, x 78, x 79, x 80, x 81], defers := [] } wa := hK _ _ hW trivial rfl
                      rw [p3, p5] at hk
                      exact hk
                    · -- operation 7
                      simp only [List.getElem?_toArray, List.getElem?_cons_succ, List.getElem?_cons_zero, Option.some.injEq] at ho
                      subst ho
                      have hg : x 57 = .bool true := hgd 2 true rfl
                      have p6 : (x 61) = .pointer (some ⟨bx, ox + jj * 2, none⟩) := hdep 6 (List.mem_of_elem_eq_true (by kernel_rfl))
                      clear hdep hgd
                      clear hg
                      obtain ⟨⟨a0, a1⟩, a2, a3⟩ := HCX.out wa hW
                      unfold fr82
                      rw [p6]
                      go_simp
                      have hk : K { tmps := #[x 0, x 1, x 2, x 3, x 4, x 5, x 6, x 7, x 8, x 9, x 10, x 11, x 12, x 13, x 14, x 15, x 16, x 17, x 18, x 19, x 20, x 21, x 22, x 23, x 24, x 25, x 26, x 27, x 28, x 29, x 30, x 31, x 32, x 33, x 34, x 35, x 36, x 37, x 38, x 39, x 40, x 41, x 42, x 43, x 44, x 45, x 46, x 47, x 48, x 49, x 50, x 51, x 52, x 53, x 54, x 55, x 56, x 57, x 58, x 59, x 60, x 61, .agg #[.slice sa0 n0 k0, .int .i64 ct0], x 63, x 64, x 65, x 66, x 67, x 68, x 69, x 70, x 71, x 72, x 73, x 74, x 75, x 76, x 77, x 78, x 79, x 80, x 81], defers := [] } wa := hK _ _ hW trivial rfl
                      rw [p6] at hk
                      exact hk
                    · -- operation 8
                      simp only [List.getElem?_toArray, List.getElem?_cons_succ, List.getElem?_cons_zero, Option.some.injEq] at ho
                      subst ho
                      have hg : x 57 = .bool true := hgd 2 true rfl
                      clear hdep hgd
                      clear hg
                      unfold fr82
                      rw [E0.out]
                      go_simp
                      have hk : K { tmps := #[x 0, x 1, x 2, x 3, x 4, x 5, x 6, x 7, x 8, x 9, x 10, x 11, x 12, x 13, x 14, x 15, x 16, x 17, x 18, x 19, x 20, x 21, x 22, x 23, x 24, x 25, x 26, x 27, x 28, x 29, x 30, x 31, x 32, x 33, x 34, x 35, x 36, x 37, x 38, x 39, x 40, x 41, x 42, x 43, x 44, x 45, x 46, x 47, x 48, x 49, x 50, x 51, x 52, x 53, x 54, x 55, x 56, x 57, x 58, x 59, x 60, x 61, x 62, .slice (some ⟨bx, ox, none⟩) L.length c0, x 64, x 65, x 66, x 67, x 68, x 69, x 70, x 71, x 72, x 73, x 74, x 75, x 76, x 77, x 78, x 79, x 80, x 81], defers := [] } wa := hK _ _ hW trivial rfl
                      rw [E0.out] at hk
                      exact hk
                    · -- operation 9
                      simp only [List.getElem?_toArray, List.getElem?_cons_succ, List.getElem?_cons_zero, Option.some.injEq] at ho
                      subst ho
                      have hg : x 57 = .bool true := hgd 2 true rfl
                      clear hdep hgd
                      clear hg
                      unfold fr82
                      rw [E3.out]
                      go_simp
                      have hk : K { tmps := #[x 0, x 1, x 2, x 3, x 4, x 5, x 6, x 7, x 8, x 9, x 10, x 11, x 12, x 13, x 14, x 15, x 16, x 17, x 18, x 19, x 20, x 21, x 22, x 23, x 24, x 25, x 26, x 27, x 28, x 29, x 30, x 31, x 32, x 33, x 34, x 35, x 36, x 37, x 38, x 39, x 40, x 41, x 42, x 43, x 44, x 45, x 46, x 47, x 48, x 49, x 50, x 51, x 52, x 53, x 54, x 55, x 56, x 57, x 58, x 59, x 60, x 61, x 62, x 63, .int .i64 (kk : Int), x 65, x 66, x 67, x 68, x 69, x 70, x 71, x 72, x 73, x 74, x 75, x 76, x 77, x 78, x 79, x 80, x 81], defers := [] } wa := hK _ _ hW trivial rfl
                      rw [E3.out] at hk
                      exact hk
                    · -- operation 10
                      simp only [List.getElem?_toArray, List.getElem?_cons_succ, List.getElem?_cons_zero, Option.some.injEq] at ho
                      subst ho
                      have hg : x 57 = .bool true := hgd 2 true rfl
                      have p8 : (x 63) = .slice (some ⟨bx, ox, none⟩) L.length c0 := hdep 8 (List.mem_of_elem_eq_true (by kernel_rfl))
                      have p9 : (x 64) = .int .i64 (kk : Int) := hdep 9 (List.mem_of_elem_eq_true (by kernel_rfl))
                      clear hdep hgd
                      clear hg
                      unfold fr82
                      rw [p8, p9]
                      go_simp
                      have hk : K { tmps := #[x 0, x 1, x 2, x 3, x 4, x 5, x 6, x 7, x 8, x 9, x 10, x 11, x 12, x 13, x 14, x 15, x 16, x 17, x 18, x 19, x 20, x 21, x 22, x 23, x 24, x 25, x 26, x 27, x 28, x 29, x 30, x 31, x 32, x 33, x 34, x 35, x 36, x 37, x 38, x 39, x 40, x 41, x 42, x 43, x 44, x 45, x 46, x 47, x 48, x 49, x 50, x 51, x 52, x 53, x 54, x 55, x 56, x 57, x 58, x 59, x 60, x 61, x 62, x 63, x 64, .pointer (some ⟨bx, ox + kk * 2, none⟩), x 66, x 67, x 68, x 69, x 70, x 71, x 72, x 73, x 74, x 75, x 76, x 77, x 78, x 79, x 80, x 81], defers := [] } wa := hK _ _ hW trivial rfl
                      rw [p8, p9] at hk
                      exact hk
                    · -- operation 11
                      simp only [List.getElem?_toArray, List.getElem?_cons_succ, List.getElem?_cons_zero, Option.some.injEq] at ho
                      subst ho
                      have hg : x 57 = .bool true := hgd 2 true rfl
                      have p10 : (x 65) = .pointer (some ⟨bx, ox + kk * 2, none⟩) := hdep 10 (List.mem_of_elem_eq_true (by kernel_rfl))
                      clear hdep hgd
                      clear hg
                      obtain ⟨⟨a0, a1⟩, a2, a3⟩ := HCX.out wa hW
                      unfold fr82
                      rw [p10]
                      go_simp
                      have hk : K { tmps := #[x 0, x 1, x 2, x 3, x 4, x 5, x 6, x 7, x 8, x 9, x 10, x 11, x 12, x 13, x 14, x 15, x 16, x 17, x 18, x 19, x 20, x 21, x 22, x 23, x 24, x 25, x 26, x 27, x 28, x 29, x 30, x 31, x 32, x 33, x 34, x 35, x 36, x 37, x 38, x 39, x 40, x 41, x 42, x 43, x 44, x 45, x 46, x 47, x 48, x 49, x 50, x 51, x 52, x 53, x 54, x 55, x 56, x 57, x 58, x 59, x 60, x 61, x 62, x 63, x 64, x 65, .agg #[.slice sa1 T1.length k1, .int .i64 ct1], x 67, x 68, x 69, x 70, x 71, x 72, x 73, x 74, x 75, x 76, x 77, x 78, x 79, x 80, x 81], defers := [] } wa := hK _ _ hW trivial rfl
                      rw [p10] at hk
                      exact hk
                    · -- operation 12
                      simp only [List.getElem?_toArray, List.getElem?_cons_succ, List.getElem?_cons_zero, Option.some.injEq] at ho
                      subst ho
                      have hg : x 57 = .bool true := hgd 2 true rfl
                      have p7 : (x 62) = .agg #[.slice sa0 n0 k0, .int .i64 ct0] := hdep 7 (List.mem_of_elem_eq_true (by kernel_rfl))
                      have p11 : (x 66) = .agg #[.slice sa1 T1.length k1, .int .i64 ct1] := hdep 11 (List.mem_of_elem_eq_true (by kernel_rfl))
                      clear hdep hgd
                      clear hg
                      unfold fr82
                      rw [p7, p11]
                      go_simp
                      refine (P1.out wa hW).mono ?_
                      rintro e w5 ⟨rfl, hb5⟩
                      have hk : K { tmps := #[x 0, x 1, x 2, x 3, x 4, x 5, x 6, x 7, x 8, x 9, x 10, x 11, x 12, x 13, x 14, x 15, x 16, x 17, x 18, x 19, x 20, x 21, x 22, x 23, x 24, x 25, x 26, x 27, x 28, x 29, x 30, x 31, x 32, x 33, x 34, x 35, x 36, x 37, x 38, x 39, x 40, x 41, x 42, x 43, x 44, x 45, x 46, x 47, x 48, x 49, x 50, x 51, x 52, x 53, x 54, x 55, x 56, x 57, x 58, x 59, x 60, x 61, x 62, x 63, x 64, x 65, x 66, .bool z1, x 68, x 69, x 70, x 71, x 72, x 73, x 74, x 75, x 76, x 77, x 78, x 79, x 80, x 81], defers := [] } w5 := hK _ _ (hW.trans (hb5.mono hW.size)) trivial rfl
                      rw [p7, p11] at hk
                      exact hk
                    · -- operation 13
                      simp only [List.getElem?_toArray, List.getElem?_cons_succ, List.getElem?_cons_zero, Option.some.injEq] at ho
                      subst ho
                      have hg : x 57 = .bool true := hgd 2 true rfl
                      have p12 : (x 67) = .bool z1 := hdep 12 (List.mem_of_elem_eq_true (by kernel_rfl))
                      clear hdep hgd
                      clear hg
                      unfold fr82
                      rw [p12]
                      go_simp
                      have hk : K { tmps := #[x 0, x 1, x 2, x 3, x 4, x 5, x 6, x 7, x 8, x 9, x 10, x 11, x 12, x 13, x 14, x 15, x 16, x 17, x 18, x 19, x 20, x 21, x 22, x 23, x 24, x 25, x 26, x 27, x 28, x 29, x 30, x 31, x 32, x 33, x 34, x 35, x 36, x 37, x 38, x 39, x 40, x 41, x 42, x 43, x 44, x 45, x 46, x 47, x 48, x 49, x 50, x 51, x 52, x 53, x 54, x 55, x 56, x 57, x 58, x 59, x 60, x 61, x 62, x 63, x 64, x 65, x 66, x 67, .bool z1, x 69, x 70, x 71, x 72, x 73, x 74, x 75, x 76, x 77, x 78, x 79, x 80, x 81], defers := [] } wa := hK _ _ hW trivial rfl
                      rw [p12] at hk
                      exact hk
                    · -- operation 14
                      simp only [List.getElem?_toArray, List.getElem?_cons_succ, List.getElem?_cons_zero, Option.some.injEq] at ho
                      subst ho
                      have hg : x 68 = .bool false := hgd 13 false rfl
                      have p13 : (x 68) = .bool z1 := hdep 13 (List.mem_of_elem_eq_true (by kernel_rfl))
                      clear hdep hgd
                      rw [p13] at hg
                      injection hg with hq
                      clear p13
                      unfold fr82
                      rw [E0.out]
                      go_simp
                      have hk : K { tmps := #[x 0, x 1, x 2, x 3, x 4, x 5, x 6, x 7, x 8, x 9, x 10, x 11, x 12, x 13, x 14, x 15, x 16, x 17, x 18, x 19, x 20, x 21, x 22, x 23, x 24, x 25, x 26, x 27, x 28, x 29, x 30, x 31, x 32, x 33, x 34, x 35, x 36, x 37, x 38, x 39, x 40, x 41, x 42, x 43, x 44, x 45, x 46, x 47, x 48, x 49, x 50, x 51, x 52, x 53, x 54, x 55, x 56, x 57, x 58, x 59, x 60, x 61, x 62, x 63, x 64, x 65, x 66, x 67, x 68, .slice (some ⟨bx, ox, none⟩) L.length c0, x 70, x 71, x 72, x 73, x 74, x 75, x 76, x 77, x 78, x 79, x 80, x 81], defers := [] } wa := hK _ _ hW trivial (fun _ => rfl)
                      rw [E0.out] at hk
                      exact hk
                    · -- operation 15
                      simp only [List.getElem?_toArray, List.getElem?_cons_succ, List.getElem?_cons_zero, Option.some.injEq] at ho
                      subst ho
                      have hg : x 68 = .bool false := hgd 13 false rfl
                      have p13 : (x 68) = .bool z1 := hdep 13 (List.mem_of_elem_eq_true (by kernel_rfl))
                      clear hdep hgd
                      rw [p13] at hg
                      injection hg with hq
                      clear p13
                      unfold fr82
                      rw [E3.out]
                      go_simp
                      have hk : K { tmps := #[x 0, x 1, x 2, x 3, x 4, x 5, x 6, x 7, x 8, x 9, x 10, x 11, x 12, x 13, x 14, x 15, x 16, x 17, x 18, x 19, x 20, x 21, x 22, x 23, x 24, x 25, x 26, x 27, x 28, x 29, x 30, x 31, x 32, x 33, x 34, x 35, x 36, x 37, x 38, x 39, x 40, x 41, x 42, x 43, x 44, x 45, x 46, x 47, x 48, x 49, x 50, x 51, x 52, x 53, x 54, x 55, x 56, x 57, x 58, x 59, x 60, x 61, x 62, x 63, x 64, x 65, x 66, x 67, x 68, x 69, .int .i64 (kk : Int), x 71, x 72, x 73, x 74, x 75, x 76, x 77, x 78, x 79, x 80, x 81], defers := [] } wa := hK _ _ hW trivial (fun _ => rfl)
                      rw [E3.out] at hk
                      exact hk
                    · -- operation 16
                      simp only [List.getElem?_toArray, List.getElem?_cons_succ, List.getElem?_cons_zero, Option.some.injEq] at ho
                      subst ho
                      have hg : x 68 = .bool false := hgd 13 false rfl
                      have p13 : (x 68) = .bool z1 := hdep 13 (List.mem_of_elem_eq_true (by kernel_rfl))
                      have p15 : z1 = false → (x 70) = .int .i64 (kk : Int) := hdep 15 (List.mem_of_elem_eq_true (by kernel_rfl))
                      clear hdep hgd
                      rw [p13] at hg
                      injection hg with hq
                      replace p15 := p15 hq
                      clear p13
                      unfold fr82
                      rw [p15]
                      go_simp
                      have hk : K { tmps := #[x 0, x 1, x 2, x 3, x 4, x 5, x 6, x 7, x 8, x 9, x 10, x 11, x 12, x 13, x 14, x 15, x 16, x 17, x 18, x 19, x 20, x 21, x 22, x 23, x 24, x 25, x 26, x 27, x 28, x 29, x 30, x 31, x 32, x 33, x 34, x 35, x 36, x 37, x 38, x 39, x 40, x 41, x 42, x 43, x 44, x 45, x 46, x 47, x 48, x 49, x 50, x 51, x 52, x 53, x 54, x 55, x 56, x 57, x 58, x 59, x 60, x 61, x 62, x 63, x 64, x 65, x 66, x 67, x 68, x 69, x 70, .int .i64 (jj : Int), x 72, x 73, x 74, x 75, x 76, x 77, x 78, x 79, x 80, x 81], defers := [] } wa := hK _ _ hW trivial (fun _ => rfl)
                      rw [p15] at hk
                      exact hk
                    · -- operation 17
                      simp only [List.getElem?_toArray, List.getElem?_cons_succ, List.getElem?_cons_zero, Option.some.injEq] at ho
                      subst ho
                      have hg : x 68 = .bool false := hgd 13 false rfl
                      have p13 : (x 68) = .bool z1 := hdep 13 (List.mem_of_elem_eq_true (by kernel_rfl))
                      have p14 : z1 = false → (x 69) = .slice (some ⟨bx, ox, none⟩) L.length c0 := hdep 14 (List.mem_of_elem_eq_true (by kernel_rfl))
                      have p16 : z1 = false → (x 71) = .int .i64 (jj : Int) := hdep 16 (List.mem_of_elem_eq_true (by kernel_rfl))
                      clear hdep hgd
                      rw [p13] at hg
                      injection hg with hq
                      replace p14 := p14 hq
                      replace p16 := p16 hq
                      clear p13
                      unfold fr82
                      rw [p14, p16]
                      go_simp
                      have hk : K { tmps := #[x 0, x 1, x 2, x 3, x 4, x 5, x 6, x 7, x 8, x 9, x 10, x 11, x 12, x 13, x 14, x 15, x 16, x 17, x 18, x 19, x 20, x 21, x 22, x 23, x 24, x 25, x 26, x 27, x 28, x 29, x 30, x 31, x 32, x 33, x 34, x 35, x 36, x 37, x 38, x 39, x 40, x 41, x 42, x 43, x 44, x 45, x 46, x 47, x 48, x 49, x 50, x 51, x 52, x 53, x 54, x 55, x 56, x 57, x 58, x 59, x 60, x 61, x 62, x 63, x 64, x 65, x 66, x 67, x 68, x 69, x 70, x 71, .pointer (some ⟨bx, ox + jj * 2, none⟩), x 73, x 74, x 75, x 76, x 77, x 78, x 79, x 80, x 81], defers := [] } wa := hK _ _ hW trivial (fun _ => rfl)
                      rw [p14, p16] at hk
                      exact hk
                    · -- operation 18
                      simp only [List.getElem?_toArray, List.getElem?_cons_succ, List.getElem?_cons_zero, Option.some.injEq] at ho
                      subst ho
                      have hg : x 68 = .bool false := hgd 13 false rfl
                      have p13 : (x 68) = .bool z1 := hdep 13 (List.mem_of_elem_eq_true (by kernel_rfl))
                      have p17 : z1 = false → (x 72) = .pointer (some ⟨bx, ox + jj * 2, none⟩) := hdep 17 (List.mem_of_elem_eq_true (by kernel_rfl))
                      clear hdep hgd
                      rw [p13] at hg
                      injection hg with hq
                      replace p17 := p17 hq
                      clear p13
                      obtain ⟨⟨a0, a1⟩, a2, a3⟩ := HCX.out wa hW
                      unfold fr82
                      rw [p17]
                      go_simp
                      have hk : K { tmps := #[x 0, x 1, x 2, x 3, x 4, x 5, x 6, x 7, x 8, x 9, x 10, x 11, x 12, x 13, x 14, x 15, x 16, x 17, x 18, x 19, x 20, x 21, x 22, x 23, x 24, x 25, x 26, x 27, x 28, x 29, x 30, x 31, x 32, x 33, x 34, x 35, x 36, x 37, x 38, x 39, x 40, x 41, x 42, x 43, x 44, x 45, x 46, x 47, x 48, x 49, x 50, x 51, x 52, x 53, x 54, x 55, x 56, x 57, x 58, x 59, x 60, x 61, x 62, x 63, x 64, x 65, x 66, x 67, x 68, x 69, x 70, x 71, x 72, .agg #[.slice sa0 n0 k0, .int .i64 ct0], x 74, x 75, x 76, x 77, x 78, x 79, x 80, x 81], defers := [] } wa := hK _ _ hW trivial (fun _ => rfl)
                      rw [p17] at hk
                      exact hk
                    · -- operation 19
                      simp only [List.getElem?_toArray, List.getElem?_cons_succ, List.getElem?_cons_zero, Option.some.injEq] at ho
                      subst ho
                      have hg : x 68 = .bool false := hgd 13 false rfl
                      have p13 : (x 68) = .bool z1 := hdep 13 (List.mem_of_elem_eq_true (by kernel_rfl))
                      clear hdep hgd
                      rw [p13] at hg
                      injection hg with hq
                      clear p13
                      unfold fr82
                      rw [E0.out]
                      go_simp
                      have hk : K { tmps := #[x 0, x 1, x 2, x 3, x 4, x 5, x 6, x 7, x 8, x 9, x 10, x 11, x 12, x 13, x 14, x 15, x 16, x 17, x 18, x 19, x 20, x 21, x 22, x 23, x 24, x 25, x 26, x 27, x 28, x 29, x 30, x 31, x 32, x 33, x 34, x 35, x 36, x 37, x 38, x 39, x 40, x 41, x 42, x 43, x 44, x 45, x 46, x 47, x 48, x 49, x 50, x 51, x 52, x 53, x 54, x 55, x 56, x 57, x 58, x 59, x 60, x 61, x 62, x 63, x 64, x 65, x 66, x 67, x 68, x 69, x 70, x 71, x 72, x 73, .slice (some ⟨bx, ox, none⟩) L.length c0, x 75, x 76, x 77, x 78, x 79, x 80, x 81], defers := [] } wa := hK _ _ hW trivial (fun _ => rfl)
                      rw [E0.out] at hk
                      exact hk
                    · -- operation 20
                      simp only [List.getElem?_toArray, List.getElem?_cons_succ, List.getElem?_cons_zero, Option.some.injEq] at ho
                      subst ho
                      have hg : x 68 = .bool false := hgd 13 false rfl
                      have p13 : (x 68) = .bool z1 := hdep 13 (List.mem_of_elem_eq_true (by kernel_rfl))
                      clear hdep hgd
                      rw [p13] at hg
                      injection hg with hq
                      clear p13
                      unfold fr82
                      rw [E3.out]
                      go_simp
                      have hk : K { tmps := #[x 0, x 1, x 2, x 3, x 4, x 5, x 6, x 7, x 8, x 9, x 10, x 11, x 12, x 13, x 14, x 15, x 16, x 17, x 18, x 19, x 20, x 21, x 22, x 23, x 24, x 25, x 26, x 27, x 28, x 29, x 30, x 31, x 32, x 33, x 34, x 35, x 36, x 37, x 38, x 39, x 40, x 41, x 42, x 43, x 44, x 45, x 46, x 47, x 48, x 49, x 50, x 51, x 52, x 53, x 54, x 55, x 56, x 57, x 58, x 59, x 60, x 61, x 62, x 63, x 64, x 65, x 66, x 67, x 68, x 69, x 70, x 71, x 72, x 73, x 74, .int .i64 (kk : Int), x 76, x 77, x 78, x 79, x 80, x 81], defers := [] } wa := hK _ _ hW trivial (fun _ => rfl)
                      rw [E3.out] at hk
                      exact hk
                    · -- operation 21
                      simp only [List.getElem?_toArray, List.getElem?_cons_succ, List.getElem?_cons_zero, Option.some.injEq] at ho
                      subst ho
                      have hg : x 68 = .bool false := hgd 13 false rfl
                      have p13 : (x 68) = .bool z1 := hdep 13 (List.mem_of_elem_eq_true (by kernel_rfl))
                      have p19 : z1 = false → (x 74) = .slice (some ⟨bx, ox, none⟩) L.length c0 := hdep 19 (List.mem_of_elem_eq_true (by kernel_rfl))
                      have p20 : z1 = false → (x 75) = .int .i64 (kk : Int) := hdep 20 (List.mem_of_elem_eq_true (by kernel_rfl))
                      clear hdep hgd
                      rw [p13] at hg
                      injection hg with hq
                      replace p19 := p19 hq
                      replace p20 := p20 hq
                      clear p13
                      unfold fr82
                      rw [p19, p20]
                      go_simp
                      have hk : K { tmps := #[x 0, x 1, x 2, x 3, x 4, x 5, x 6, x 7, x 8, x 9, x 10, x 11, x 12, x 13, x 14, x 15, x 16, x 17, x 18, x 19, x 20, x 21, x 22, x 23, x 24, x 25, x 26, x 27, x 28, x 29, x 30, x 31, x 32, x 33, x 34, x 35, x 36, x 37, x 38, x 39, x 40, x 41, x 42, x 43, x 44, x 45, x 46, x 47, x 48, x 49, x 50, x 51, x 52, x 53, x 54, x 55, x 56, x 57, x 58, x 59, x 60, x 61, x 62, x 63, x 64, x 65, x 66, x 67, x 68, x 69, x 70, x 71, x 72, x 73, x 74, x 75, .pointer (some ⟨bx, ox + kk * 2, none⟩), x 77, x 78, x 79, x 80, x 81], defers := [] } wa := hK _ _ hW trivial (fun _ => rfl)
                      rw [p19, p20] at hk
                      exact hk
                    · -- operation 22
                      simp only [List.getElem?_toArray, List.getElem?_cons_succ, List.getElem?_cons_zero, Option.some.injEq] at ho
                      subst ho
                      have hg : x 68 = .bool false := hgd 13 false rfl
                      have p13 : (x 68) = .bool z1 := hdep 13 (List.mem_of_elem_eq_true (by kernel_rfl))
                      have p21 : z1 = false → (x 76) = .pointer (some ⟨bx, ox + kk * 2, none⟩) := hdep 21 (List.mem_of_elem_eq_true (by kernel_rfl))
                      clear hdep hgd
                      rw [p13] at hg
                      injection hg with hq
                      replace p21 := p21 hq
                      clear p13
                      obtain ⟨⟨a0, a1⟩, a2, a3⟩ := HCX.out wa hW
                      unfold fr82
                      rw [p21]
                      go_simp
                      have hk : K { tmps := #[x 0, x 1, x 2, x 3, x 4, x 5, x 6, x 7, x 8, x 9, x 10, x 11, x 12, x 13, x 14, x 15, x 16, x 17, x 18, x 19, x 20, x 21, x 22, x 23, x 24, x 25, x 26, x 27, x 28, x 29, x 30, x 31, x 32, x 33, x 34, x 35, x 36, x 37, x 38, x 39, x 40, x 41, x 42, x 43, x 44, x 45, x 46, x 47, x 48, x 49, x 50, x 51, x 52, x 53, x 54, x 55, x 56, x 57, x 58, x 59, x 60, x 61, x 62, x 63, x 64, x 65, x 66, x 67, x 68, x 69, x 70, x 71, x 72, x 73, x 74, x 75, x 76, .agg #[.slice sa1 T1.length k1, .int .i64 ct1], x 78, x 79, x 80, x 81], defers := [] } wa := hK _ _ hW trivial (fun _ => rfl)
                      rw [p21] at hk
                      exact hk
                    · -- operation 23
                      simp only [List.getElem?_toArray, List.getElem?_cons_succ, List.getElem?_cons_zero, Option.some.injEq] at ho
                      subst ho
                      have hg : x 68 = .bool false := hgd 13 false rfl
                      have p13 : (x 68) = .bool z1 := hdep 13 (List.mem_of_elem_eq_true (by kernel_rfl))
                      have p18 : z1 = false → (x 73) = .agg #[.slice sa0 n0 k0, .int .i64 ct0] := hdep 18 (List.mem_of_elem_eq_true (by kernel_rfl))
                      have p22 : z1 = false → (x 77) = .agg #[.slice sa1 T1.length k1, .int .i64 ct1] := hdep 22 (List.mem_of_elem_eq_true (by kernel_rfl))
                      clear hdep hgd
                      rw [p13] at hg
                      injection hg with hq
                      replace p18 := p18 hq
                      replace p22 := p22 hq
                      clear p13
                      unfold fr82
                      rw [p18, p22]
                      go_simp
                      refine (P2.out hq wa hW).mono ?_
                      rintro e w5 ⟨rfl, hb5⟩
                      have hk : K { tmps := #[x 0, x 1, x 2, x 3, x 4, x 5, x 6, x 7, x 8, x 9, x 10, x 11, x 12, x 13, x 14, x 15, x 16, x 17, x 18, x 19, x 20, x 21, x 22, x 23, x 24, x 25, x 26, x 27, x 28, x 29, x 30, x 31, x 32, x 33, x 34, x 35, x 36, x 37, x 38, x 39, x 40, x 41, x 42, x 43, x 44, x 45, x 46, x 47, x 48, x 49, x 50, x 51, x 52, x 53, x 54, x 55, x 56, x 57, x 58, x 59, x 60, x 61, x 62, x 63, x 64, x 65, x 66, x 67, x 68, x 69, x 70, x 71, x 72, x 73, x 74, x 75, x 76, x 77, .bool z2, x 79, x 80, x 81], defers := [] } w5 := hK _ _ (hW.trans (hb5.mono hW.size)) trivial (fun _ => rfl)
                      rw [p18, p22] at hk
                      exact hk
                    · -- operation 24
                      simp only [List.getElem?_toArray, List.getElem?_cons_succ, List.getElem?_cons_zero, Option.some.injEq] at ho
                      subst ho
                      have hg : x 68 = .bool false := hgd 13 false rfl
                      have p13 : (x 68) = .bool z1 := hdep 13 (List.mem_of_elem_eq_true (by kernel_rfl))
                      have p23 : z1 = false → (x 78) = .bool z2 := hdep 23 (List.mem_of_elem_eq_true (by kernel_rfl))
                      clear hdep hgd
                      rw [p13] at hg
                      injection hg with hq
                      replace p23 := p23 hq
                      clear p13
                      unfold fr82
                      rw [p23]
                      go_simp
                      have hk : K { tmps := #[x 0, x 1, x 2, x 3, x 4, x 5, x 6, x 7, x 8, x 9, x 10, x 11, x 12, x 13, x 14, x 15, x 16, x 17, x 18, x 19, x 20, x 21, x 22, x 23, x 24, x 25, x 26, x 27, x 28, x 29, x 30, x 31, x 32, x 33, x 34, x 35, x 36, x 37, x 38, x 39, x 40, x 41, x 42, x 43, x 44, x 45, x 46, x 47, x 48, x 49, x 50, x 51, x 52, x 53, x 54, x 55, x 56, x 57, x 58, x 59, x 60, x 61, x 62, x 63, x 64, x 65, x 66, x 67, x 68, x 69, x 70, x 71, x 72, x 73, x 74, x 75, x 76, x 77, x 78, .bool (!z2), x 80, x 81], defers := [] } wa := hK _ _ hW trivial (fun _ => rfl)
                      rw [p23] at hk
                      exact hk
                    · -- operation 25
                      simp only [List.getElem?_toArray, List.getElem?_cons_succ, List.getElem?_cons_zero, Option.some.injEq] at ho
                      subst ho
                      have hg : x 57 = .bool true := hgd 2 true rfl
                      have p2 : (x 57) = .bool true := hdep 2 (List.mem_of_elem_eq_true (by kernel_rfl))
                      have p13 : (x 68) = .bool z1 := hdep 13 (List.mem_of_elem_eq_true (by kernel_rfl))
                      have p24 : z1 = false → (x 79) = .bool (!z2) := hdep 24 (List.mem_of_elem_eq_true (by kernel_rfl))
                      clear hdep hgd
                      clear hg p2
                      rcases Bool.eq_false_or_eq_true z1 with hq | hq
                      · rw [hq] at p13
                        clear p24
                        unfold fr82
                        rw [p13]
                        have hk : K { tmps := #[x 0, x 1, x 2, x 3, x 4, x 5, x 6, x 7, x 8, x 9, x 10, x 11, x 12, x 13, x 14, x 15, x 16, x 17, x 18, x 19, x 20, x 21, x 22, x 23, x 24, x 25, x 26, x 27, x 28, x 29, x 30, x 31, x 32, x 33, x 34, x 35, x 36, x 37, x 38, x 39, x 40, x 41, x 42, x 43, x 44, x 45, x 46, x 47, x 48, x 49, x 50, x 51, x 52, x 53, x 54, x 55, x 56, x 57, x 58, x 59, x 60, x 61, x 62, x 63, x 64, x 65, x 66, x 67, x 68, x 69, x 70, x 71, x 72, x 73, x 74, x 75, x 76, x 77, x 78, x 79, .bool true, x 81], defers := [] } wa := hK _ _ hW trivial (by show Value.bool true = .bool (z1 || !z2); rw [hq]; rfl)
                        rw [p13] at hk
                        clear p13 hq
                        go_simp
                        exact hk
                      · replace p24 := p24 hq
                        rw [hq] at p13
                        unfold fr82
                        rw [p13, p24]
                        have hk : K { tmps := #[x 0, x 1, x 2, x 3, x 4, x 5, x 6, x 7, x 8, x 9, x 10, x 11, x 12, x 13, x 14, x 15, x 16, x 17, x 18, x 19, x 20, x 21, x 22, x 23, x 24, x 25, x 26, x 27, x 28, x 29, x 30, x 31, x 32, x 33, x 34, x 35, x 36, x 37, x 38, x 39, x 40, x 41, x 42, x 43, x 44, x 45, x 46, x 47, x 48, x 49, x 50, x 51, x 52, x 53, x 54, x 55, x 56, x 57, x 58, x 59, x 60, x 61, x 62, x 63, x 64, x 65, x 66, x 67, x 68, x 69, x 70, x 71, x 72, x 73, x 74, x 75, x 76, x 77, x 78, x 79, .bool (!z2), x 81], defers := [] } wa := hK _ _ hW trivial (by show Value.bool (!z2) = .bool (z1 || !z2); rw [hq]; rfl)
                        rw [p13, p24] at hk
                        clear p13 p24 hq
                        go_simp
                        exact hk
                    · -- operation 26
                      simp only [List.getElem?_toArray, List.getElem?_cons_succ, List.getElem?_cons_zero, Option.some.injEq] at ho
                      subst ho
                      have p2 : (x 57) = .bool true := hdep 2 (List.mem_of_elem_eq_true (by kernel_rfl))
                      have p25 : (x 80) = .bool (z1 || !z2) := hdep 25 (List.mem_of_elem_eq_true (by kernel_rfl))
                      clear hdep hgd
                      unfold fr82
                      rw [p2, p25]
                      go_simp
                      have hk : K { tmps := #[x 0, x 1, x 2, x 3, x 4, x 5, x 6, x 7, x 8, x 9, x 10, x 11, x 12, x 13, x 14, x 15, x 16, x 17, x 18, x 19, x 20, x 21, x 22, x 23, x 24, x 25, x 26, x 27, x 28, x 29, x 30, x 31, x 32, x 33, x 34, x 35, x 36, x 37, x 38, x 39, x 40, x 41, x 42, x 43, x 44, x 45, x 46, x 47, x 48, x 49, x 50, x 51, x 52, x 53, x 54, x 55, x 56, x 57, x 58, x 59, x 60, x 61, x 62, x 63, x 64, x 65, x 66, x 67, x 68, x 69, x 70, x 71, x 72, x 73, x 74, x 75, x 76, x 77, x 78, x 79, x 80, .bool (z1 || !z2)], defers := [] } wa := hK _ _ hW trivial rfl
                      rw [p2, p25] at hk
                      exact hk
                  case skip =>
                    intro i o j b ho hgd x wa hW hdep hne
                    have hi : i < 27 := (Array.getElem?_eq_some_iff.1 ho).1
                    have hcase : i = 0 ∨ i = 1 ∨ i = 2 ∨ i = 3 ∨ i = 4 ∨ i = 5 ∨ i = 6 ∨ i = 7 ∨ i = 8 ∨ i = 9 ∨ i = 10 ∨ i = 11 ∨ i = 12 ∨ i = 13 ∨ i = 14 ∨ i = 15 ∨ i = 16 ∨ i = 17 ∨ i = 18 ∨ i = 19 ∨ i = 20 ∨ i = 21 ∨ i = 22 ∨ i = 23 ∨ i = 24 ∨ i = 25 ∨ i = 26 := by omega
                    rcases hcase with rfl | rfl | rfl | rfl | rfl | rfl | rfl | rfl | rfl | rfl | rfl | rfl | rfl | rfl | rfl | rfl | rfl | rfl | rfl | rfl | rfl | rfl | rfl | rfl | rfl | rfl | rfl
                    · simp only [List.getElem?_toArray, List.getElem?_cons_zero, Option.some.injEq] at ho
                      subst ho
                      cases hgd
                    · simp only [List.getElem?_toArray, List.getElem?_cons_succ, List.getElem?_cons_zero, Option.some.injEq] at ho
                      subst ho
                      cases hgd
                    · simp only [List.getElem?_toArray, List.getElem?_cons_succ, List.getElem?_cons_zero, Option.some.injEq] at ho
                      subst ho
                      cases hgd
                    · simp only [List.getElem?_toArray, List.getElem?_cons_succ, List.getElem?_cons_zero, Option.some.injEq] at ho
                      subst ho
                      obtain ⟨rfl, rfl⟩ : 2 = j ∧ true = b := by simpa using hgd
                      have p2 : (x 57) = .bool true := hdep 2 (List.mem_of_elem_eq_true (by kernel_rfl))
                      exact absurd p2 hne
                    · simp only [List.getElem?_toArray, List.getElem?_cons_succ, List.getElem?_cons_zero, Option.some.injEq] at ho
                      subst ho
                      obtain ⟨rfl, rfl⟩ : 2 = j ∧ true = b := by simpa using hgd
                      have p2 : (x 57) = .bool true := hdep 2 (List.mem_of_elem_eq_true (by kernel_rfl))
                      exact absurd p2 hne
                    · simp only [List.getElem?_toArray, List.getElem?_cons_succ, List.getElem?_cons_zero, Option.some.injEq] at ho
                      subst ho
                      obtain ⟨rfl, rfl⟩ : 2 = j ∧ true = b := by simpa using hgd
                      have p2 : (x 57) = .bool true := hdep 2 (List.mem_of_elem_eq_true (by kernel_rfl))
                      exact absurd p2 hne
                    · simp only [List.getElem?_toArray, List.getElem?_cons_succ, List.getElem?_cons_zero, Option.some.injEq] at ho
                      subst ho
                      obtain ⟨rfl, rfl⟩ : 2 = j ∧ true = b := by simpa using hgd
                      have p2 : (x 57) = .bool true := hdep 2 (List.mem_of_elem_eq_true (by kernel_rfl))
                      exact absurd p2 hne
                    · simp only [List.getElem?_toArray, List.getElem?_cons_succ, List.getElem?_cons_zero, Option.some.injEq] at ho
                      subst ho
                      obtain ⟨rfl, rfl⟩ : 2 = j ∧ true = b := by simpa using hgd
                      have p2 : (x 57) = .bool true := hdep 2 (List.mem_of_elem_eq_true (by kernel_rfl))
                      exact absurd p2 hne
                    · simp only [List.getElem?_toArray, List.getElem?_cons_succ, List.getElem?_cons_zero, Option.some.injEq] at ho
                      subst ho
                      obtain ⟨rfl, rfl⟩ : 2 = j ∧ true = b := by simpa using hgd
                      have p2 : (x 57) = .bool true := hdep 2 (List.mem_of_elem_eq_true (by kernel_rfl))
                      exact absurd p2 hne
                    · simp only [List.getElem?_toArray, List.getElem?_cons_succ, List.getElem?_cons_zero, Option.some.injEq] at ho
                      subst ho
                      obtain ⟨rfl, rfl⟩ : 2 = j ∧ true = b := by simpa using hgd
                      have p2 : (x 57) = .bool true := hdep 2 (List.mem_of_elem_eq_true (by kernel_rfl))
                      exact absurd p2 hne
                    · simp only [List.getElem?_toArray, List.getElem?_cons_succ, List.getElem?_cons_zero, Option.some.injEq] at ho
                      subst ho
                      obtain ⟨rfl, rfl⟩ : 2 = j ∧ true = b := by simpa using hgd
                      have p2 : (x 57) = .bool true := hdep 2 (List.mem_of_elem_eq_true (by kernel_rfl))
                      exact absurd p2 hne
                    · simp only [List.getElem?_toArray, List.getElem?_cons_succ, List.getElem?_cons_zero, Option.some.injEq] at ho
                      subst ho
                      obtain ⟨rfl, rfl⟩ : 2 = j ∧ true = b := by simpa using hgd
                      have p2 : (x 57) = .bool true := hdep 2 (List.mem_of_elem_eq_true (by kernel_rfl))
                      exact absurd p2 hne
                    · simp only [List.getElem?_toArray, List.getElem?_cons_succ, List.getElem?_cons_zero, Option.some.injEq] at ho
                      subst ho
                      obtain ⟨rfl, rfl⟩ : 2 = j ∧ true = b := by simpa using hgd
                      have p2 : (x 57) = .bool true := hdep 2 (List.mem_of_elem_eq_true (by kernel_rfl))
                      exact absurd p2 hne
                    · simp only [List.getElem?_toArray, List.getElem?_cons_succ, List.getElem?_cons_zero, Option.some.injEq] at ho
                      subst ho
                      obtain ⟨rfl, rfl⟩ : 2 = j ∧ true = b := by simpa using hgd
                      have p2 : (x 57) = .bool true := hdep 2 (List.mem_of_elem_eq_true (by kernel_rfl))
                      exact absurd p2 hne
                    · simp only [List.getElem?_toArray, List.getElem?_cons_succ, List.getElem?_cons_zero, Option.some.injEq] at ho
                      subst ho
                      obtain ⟨rfl, rfl⟩ : 13 = j ∧ false = b := by simpa using hgd
                      have p13 : (x 68) = .bool z1 := hdep 13 (List.mem_of_elem_eq_true (by kernel_rfl))
                      exact fun hq => absurd (show x 68 = .bool false by rw [p13, hq]) hne
                    · simp only [List.getElem?_toArray, List.getElem?_cons_succ, List.getElem?_cons_zero, Option.some.injEq] at ho
                      subst ho
                      obtain ⟨rfl, rfl⟩ : 13 = j ∧ false = b := by simpa using hgd
                      have p13 : (x 68) = .bool z1 := hdep 13 (List.mem_of_elem_eq_true (by kernel_rfl))
                      exact fun hq => absurd (show x 68 = .bool false by rw [p13, hq]) hne
                    · simp only [List.getElem?_toArray, List.getElem?_cons_succ, List.getElem?_cons_zero, Option.some.injEq] at ho
                      subst ho
                      obtain ⟨rfl, rfl⟩ : 13 = j ∧ false = b := by simpa using hgd
                      have p13 : (x 68) = .bool z1 := hdep 13 (List.mem_of_elem_eq_true (by kernel_rfl))
                      exact fun hq => absurd (show x 68 = .bool false by rw [p13, hq]) hne
                    · simp only [List.getElem?_toArray, List.getElem?_cons_succ, List.getElem?_cons_zero, Option.some.injEq] at ho
                      subst ho
                      obtain ⟨rfl, rfl⟩ : 13 = j ∧ false = b := by simpa using hgd
                      have p13 : (x 68) = .bool z1 := hdep 13 (List.mem_of_elem_eq_true (by kernel_rfl))
                      exact fun hq => absurd (show x 68 = .bool false by rw [p13, hq]) hne
                    · simp only [List.getElem?_toArray, List.getElem?_cons_succ, List.getElem?_cons_zero, Option.some.injEq] at ho
                      subst ho
                      obtain ⟨rfl, rfl⟩ : 13 = j ∧ false = b := by simpa using hgd
                      have p13 : (x 68) = .bool z1 := hdep 13 (List.mem_of_elem_eq_true (by kernel_rfl))
                      exact fun hq => absurd (show x 68 = .bool false by rw [p13, hq]) hne
                    · simp only [List.getElem?_toArray, List.getElem?_cons_succ, List.getElem?_cons_zero, Option.some.injEq] at ho
                      subst ho
                      obtain ⟨rfl, rfl⟩ : 13 = j ∧ false = b := by simpa using hgd
                      have p13 : (x 68) = .bool z1 := hdep 13 (List.mem_of_elem_eq_true (by kernel_rfl))
                      exact fun hq => absurd (show x 68 = .bool false by rw [p13, hq]) hne
                    · simp only [List.getElem?_toArray, List.getElem?_cons_succ, List.getElem?_cons_zero, Option.some.injEq] at ho
                      subst ho
                      obtain ⟨rfl, rfl⟩ : 13 = j ∧ false = b := by simpa using hgd
                      have p13 : (x 68) = .bool z1 := hdep 13 (List.mem_of_elem_eq_true (by kernel_rfl))
                      exact fun hq => absurd (show x 68 = .bool false by rw [p13, hq]) hne
                    · simp only [List.getElem?_toArray, List.getElem?_cons_succ, List.getElem?_cons_zero, Option.some.injEq] at ho
                      subst ho
                      obtain ⟨rfl, rfl⟩ : 13 = j ∧ false = b := by simpa using hgd
                      have p13 : (x 68) = .bool z1 := hdep 13 (List.mem_of_elem_eq_true (by kernel_rfl))
                      exact fun hq => absurd (show x 68 = .bool false by rw [p13, hq]) hne
                    · simp only [List.getElem?_toArray, List.getElem?_cons_succ, List.getElem?_cons_zero, Option.some.injEq] at ho
                      subst ho
                      obtain ⟨rfl, rfl⟩ : 13 = j ∧ false = b := by simpa using hgd
                      have p13 : (x 68) = .bool z1 := hdep 13 (List.mem_of_elem_eq_true (by kernel_rfl))
                      exact fun hq => absurd (show x 68 = .bool false by rw [p13, hq]) hne
                    · simp only [List.getElem?_toArray, List.getElem?_cons_succ, List.getElem?_cons_zero, Option.some.injEq] at ho
                      subst ho
                      obtain ⟨rfl, rfl⟩ : 13 = j ∧ false = b := by simpa using hgd
                      have p13 : (x 68) = .bool z1 := hdep 13 (List.mem_of_elem_eq_true (by kernel_rfl))
                      exact fun hq => absurd (show x 68 = .bool false by rw [p13, hq]) hne
                    · simp only [List.getElem?_toArray, List.getElem?_cons_succ, List.getElem?_cons_zero, Option.some.injEq] at ho
                      subst ho
                      obtain ⟨rfl, rfl⟩ : 13 = j ∧ false = b := by simpa using hgd
                      have p13 : (x 68) = .bool z1 := hdep 13 (List.mem_of_elem_eq_true (by kernel_rfl))
                      exact fun hq => absurd (show x 68 = .bool false by rw [p13, hq]) hne
                    · simp only [List.getElem?_toArray, List.getElem?_cons_succ, List.getElem?_cons_zero, Option.some.injEq] at ho
                      subst ho
                      obtain ⟨rfl, rfl⟩ : 2 = j ∧ true = b := by simpa using hgd
                      have p2 : (x 57) = .bool true := hdep 2 (List.mem_of_elem_eq_true (by kernel_rfl))
                      exact absurd p2 hne
                    · simp only [List.getElem?_toArray, List.getElem?_cons_succ, List.getElem?_cons_zero, Option.some.injEq] at ho
                      subst ho
                      cases hgd
                  case done =>
                    intro x wd hout hW hall
                    have p26 : x 81 = .bool (z1 || !z2) := hall 26 (by decide)
                    unfold fr82
                    rw [(hout 0 (by decide)).trans (hx0 0), (hout 1 (by decide)).trans (hx0 1), (hout 2 (by decide)).trans (hx0 2), (hout 3 (by decide)).trans (hx0 3), (hout 4 (by decide)).trans (hx0 4), (hout 5 (by decide)).trans (hx0 5), (hout 6 (by decide)).trans (hx0 6), (hout 7 (by decide)).trans (hx0 7), (hout 8 (by decide)).trans (hx0 8), (hout 9 (by decide)).trans (hx0 9), (hout 10 (by decide)).trans (hx0 10), (hout 11 (by decide)).trans (hx0 11), (hout 12 (by decide)).trans (hx0 12), (hout 13 (by decide)).trans (hx0 13), (hout 14 (by decide)).trans (hx0 14), (hout 15 (by decide)).trans (hx0 15), (hout 16 (by decide)).trans (hx0 16), (hout 17 (by decide)).trans (hx0 17), (hout 18 (by decide)).trans (hx0 18), (hout 19 (by decide)).trans (hx0 19), (hout 20 (by decide)).trans (hx0 20), (hout 21 (by decide)).trans (hx0 21), (hout 22 (by decide)).trans (hx0 22), (hout 23 (by decide)).trans (hx0 23), (hout 24 (by decide)).trans (hx0 24), (hout 25 (by decide)).trans (hx0 25), (hout 26 (by decide)).trans (hx0 26), (hout 27 (by decide)).trans (hx0 27), (hout 28 (by decide)).trans (hx0 28), (hout 29 (by decide)).trans (hx0 29), (hout 30 (by decide)).trans (hx0 30), (hout 31 (by decide)).trans (hx0 31), (hout 32 (by decide)).trans (hx0 32), (hout 33 (by decide)).trans (hx0 33), (hout 34 (by decide)).trans (hx0 34), (hout 35 (by decide)).trans (hx0 35), (hout 36 (by decide)).trans (hx0 36), (hout 37 (by decide)).trans (hx0 37), (hout 38 (by decide)).trans (hx0 38), (hout 39 (by decide)).trans (hx0 39), (hout 40 (by decide)).trans (hx0 40), (hout 41 (by decide)).trans (hx0 41), (hout 42 (by decide)).trans (hx0 42), (hout 43 (by decide)).trans (hx0 43), (hout 44 (by decide)).trans (hx0 44), (hout 45 (by decide)).trans (hx0 45), (hout 46 (by decide)).trans (hx0 46), (hout 47 (by decide)).trans (hx0 47), (hout 48 (by decide)).trans (hx0 48), (hout 49 (by decide)).trans (hx0 49), (hout 50 (by decide)).trans (hx0 50), (hout 51 (by decide)).trans (hx0 51), (hout 52 (by decide)).trans (hx0 52), (hout 53 (by decide)).trans (hx0 53), (hout 54 (by decide)).trans (hx0 54)]
                    simp only [Array.getD_eq_getD_getElem?, List.getElem?_toArray, List.getElem?_cons_succ, List.getElem?_cons_zero, Option.getD_some]
                    rw [p26]
                    clear hall hout
                    have HBd := keep (hB.out.trans (hW.mono hB.out.size))
                    cases hzz : (z1 || !z2) with
                    | true =>
                      have HNO := keep (HNC.out hzz)
                      clear hzz
                      go_wp2_with fail
                      go_ret
                      exact ⟨false, rfl, by simp only [Bool.false_eq_true, false_iff]; exact HNO.out, HBd.out⟩
                    | false =>
                      have HP1 := keep (HYC.out hzz)
                      clear hzz
                      go_wp2_with fail
                      go_roundw
                      case rel => exact ⟨kk + 1, by omega, by go_num, HP1, HBd⟩
                      case measure => simp [intOf]; omega
    · obtain rfl : kk = L.length := by omega
      have HL : Hid (ChkL L) := keep ⟨fun i h => hP.out.1 i h h, fun i h => hP.out.2 i h h⟩
      go_wp2_with fail
      go_ret
      exact ⟨true, rfl, by simp only [true_iff]; exact HL.out, hB0.out⟩
end Go.Proofs.YtigogjlbemkhdaaGreat
namespace Go.Proofs.YtigogjlbemkhdaaGreat
open Go.RowKit

def TkY (B : Nat) (w : World) (row : Option Nat) (t : Tm) : Prop := TkR 0 w t ∧ Sl w (fun b => B ≤ b ∧ b < w.heap.size ∧ some b ≠ row) 1 t.tv t.tk.length (t.tk.map .string)
theorem TkY.both {B : Nat} {w : World} {row : Option Nat} {t : Tm} (h : TkY B w row t) : Sl w (fun b => strB 0 w b ∧ B ≤ b ∧ b < w.heap.size ∧ some b ≠ row) 1 t.tv t.tk.length (t.tk.map .string) := h.1.1.and h.2
theorem TkY.mk {B : Nat} {w : World} {row : Option Nat} {t : Tm} (h : Sl w (fun b => strB 0 w b ∧ B ≤ b ∧ b < w.heap.size ∧ some b ≠ row) 1 t.tv t.tk.length (t.tk.map .string)) (hl : t.tk.length ≤ 1048576) : TkY B w row t :=
  ⟨⟨h.mono fun _ hb => hb.1, hl⟩, h.mono fun _ hb => hb.2⟩
theorem TkY.grown {B : Nat} {w w' : World} {row row2 row' : Option Nat} {t : Tm} (h : TkY B w row t) (hg : w.grownBy w' row2) (hr : ∀ b, strB 0 w b → some b ≠ row → some b ≠ row2) (hn : ∀ b, b < w.heap.size → some b ≠ row → some b ≠ row') : TkY B w' row' t :=
  TkY.mk ((sl_strKeep h.both hg (fun b h1 h2 => hr b h1 h2.2.2)).mono fun _ hb => ⟨hb.1, hb.2.1, Nat.lt_of_lt_of_le hb.2.2.1 hg.size, hn _ hb.2.2.1 hb.2.2.2⟩) h.1.2
def StateY (w : World) (gc most : Nat) (x : Ending) (w' : World) : Prop :=
  ∃ (v vl : Value) (L : List Tm) (S : List ByteArray), x = .returned (.tuple #[v, vl]) ∧ S.length ≤ most ∧ (∀ s ∈ S, s.size ≤ 1000) ∧ Good (st L) S.length ∧ (∀ U, cnt (st L) U = cntS S U) ∧
    w'.ownsRow w.heap.size 32 2 v L.length (tms L) ∧ (∀ t ∈ L, TkY w.heap.size w' vl.ownBlock t) ∧ w'.ownsRow w.heap.size 9 1 vl S.length (S.map .string) ∧ Codes w' gc ∧ w.grownBy w' (some gc)
set_option maxHeartbeats 8000000 in
theorem stateY_any (gc most : Nat) (w : World) (h : Codes w gc) (hmo : most ≤ 100) : Calls Tryz.prog 6 #[.pointer (some ⟨gc, 0, none⟩), .int .i64 most] w (StateY w gc most) := by
  have hl := h.lt_
  go_enter Tryz.func6, Tryz.ntmps6
  go_wp2_with fail
  refine (drawNext gc _ _ h (by omega) (by omega)).mono ?_
  rintro x w1 ⟨r, rfl, r0, r1, _, hC1, hg1⟩
  have r2 := r1 (by omega)
  clear r1
  go_wp2_with fail
  go_loopw [6, 7, 8, 9] (fun v vl n _ wr => ∃ (m : Int) (L : List Tm) (S : List ByteArray), n = .int .i64 m ∧ 0 ≤ m ∧ m + S.length = r ∧ Hid (wr.ownsRow w.heap.size 32 2 v L.length (tms L)) ∧ Hid (∀ t ∈ L, TkY w.heap.size wr vl.ownBlock t) ∧
      Hid (wr.ownsRow w.heap.size 9 1 vl S.length (S.map .string)) ∧ Hid (Good (st L) S.length) ∧ Hid (∀ U, cnt (st L) U = cntS S U) ∧ Hid (∀ s ∈ S, s.size ≤ 1000) ∧ Codes wr gc ∧ Hid (w.grownBy wr (some gc)))
    (fun _ _ n _ _ => (intOf n).toNat)
  case atStart => exact ⟨r, [], [], rfl, r0, by simp, keep (World.ownsRow_nil _ _ _ _), keep (by simp), keep (World.ownsRow_nil _ _ _ _), keep ⟨List.Pairwise.nil, fun t ht => (by cases ht), by simp [st, sumP]⟩, keep (fun U => rfl), keep (by simp), hC1, keep hg1⟩
  case round =>
    clear hC1 hg1
    obtain ⟨m, L, S, rfl, hm0, hml, hO, hX, hV, hG, hK, hZ, hC, hW⟩ := hrel
    have hm5 : m ≤ 101 := by omega
    have hl5 : (S.length : Int) ≤ 101 := by omega
    have HML := keep hml
    clear hml
    obtain ⟨A, c, hv1, _⟩ := own_sl hO.out
    subst hv1
    obtain ⟨Av, cv, hv2, _⟩ := own_sl hV.out
    subst hv2
    by_cases hp : 0 < m
    · have hd : decide (0 < m) = true := by simpa using hp
      go_wp2_with fail
      refine (makeLine gc _ hC).mono ?_
      rintro x w2 ⟨s, rfl, hs, hC2, hg2⟩
      have hz1 := hW.out.size
      have ho2 := own_grown hO.out hg2 hl
      have hv2 := own_grown hV.out hg2 hl
      have hx2 : ∀ t ∈ L, TkY w.heap.size w2 (Value.slice Av S.length cv).ownBlock t := fun t ht => (hX.out t ht).grown hg2 (fun b hb _ => codes_noStr hC b hb) (fun _ _ hb => hb)
      have hw2 := grownBy_trans hW.out hg2
      have hms : MS 0 w2 (.slice A L.length c) L := ⟨Sl.of_own ho2, fun t ht => (hx2 t ht).1⟩
      have hadd := refAdd_any (.slice A L.length c) L s w2 hms ⟨hG.out.s, hG.out.p, by have := hG.out.b; omega⟩ (by omega)
      obtain ⟨o, ho⟩ : ∃ o, tokW (lb s) = o := ⟨_, rfl⟩
      rw [ho] at hadd
      have HADD := keep hadd
      have HOO := keep ho
      have HO2 := keep ho2
      have HV2 := keep hv2
      have HX2 := keep hx2
      have HW2 := keep hw2
      clear hadd ho ho2 hv2 hx2 hw2 hms hC hg2 hO hX hV hW
      go_wp2_with fail
      refine HADD.out.mono ?_
      rintro x w3 ⟨v3, L3, rfl, hms3, hb3, hcase⟩
      have hz2 := HW2.out.size
      have hv3 := own_bel HV2.out hb3
      have hgl := hC2.lt_
      have hC3 := hC2.under hb3 hgl
      have hw3 := grownBy_below HW2.out (hb3.mono hz2)
      have hz3 := hw3.size
      have key : w3.ownsRow w.heap.size 32 2 v3 L3.length (tms L3) ∧ (∀ t ∈ L3, TkY w.heap.size w3 (Value.slice Av S.length cv).ownBlock t) ∧ Good (st L3) ((S ++ [s]).length : Int) ∧ ∀ U, cnt (st L3) U = cntS (S ++ [s]) U := by
        have hold : ∀ t ∈ L, TkY w.heap.size w3 (Value.slice Av S.length cv).ownBlock t := fun t ht => (HX2.out t ht).grown (grownBy_of_below hb3 none) (fun _ _ _ => by simp) (fun _ _ hb => hb)
        have hlen : ((S ++ [s]).length : Int) = S.length + 1 := by simp
        rw [hlen]
        cases o with
        | none =>
          obtain ⟨rfl, rfl⟩ := hcase
          refine ⟨own_bel HO2.out hb3, hold, ⟨hG.out.s, hG.out.p, by have := hG.out.b; omega⟩, fun U => ?_⟩
          rw [hK.out, cntS_append, cntS, cntS, HOO.out]
          simp
        | some T =>
          obtain ⟨had, hown, hkin⟩ := hcase
          refine ⟨own_base hown hz2, fun t ht => ?_, ⟨had.s, had.p, by have := had.t; have := hG.out.b; omega⟩, fun U => ?_⟩
          · rcases hkin t ht with ⟨x, hx, h1, h2⟩ | hnew
            · have h3 := hold x hx
              refine ⟨hms3.2 t ht, ?_⟩
              rw [← h1, ← h2]
              exact h3.2
            · refine ⟨hms3.2 t ht, hnew.mono fun b hb => ⟨Nat.le_trans hz2 hb.1, hb.2, fun e => ?_⟩⟩
              have := (HV2.out.lt b e.symm).2
              have h9 := hb.1
              omega
          · rw [had.c, hK.out, cntS_append, cntS, cntS, HOO.out]
            simp
      obtain ⟨ho3, hx3, hg3, hk3⟩ := key
      obtain ⟨A3, c3, hv33, _⟩ := own_sl ho3
      subst hv33
      have HO3 := keep ho3
      have HX3 := keep hx3
      have HG3 := keep hg3
      have HK3 := keep hk3
      have HV3 := keep hv3
      have HW3 := keep hw3
      clear ho3 hx3 hg3 hk3 hv3 hcase hms3 HADD hw3 HX2 HO2 HV2 hK hG
      go_wp2_with (refine wpList_push1 elSg rfl rfl _ _ _ rfl rfl rfl w.heap.size (.slice Av S.length cv) (.string s) S.length _ rfl (fun _ => rfl) (fun _ => rfl) HV3.out rfl (by unfold maxLen; omega) (by omega) hz3 ?_; intro g8 cap8 w8 hown8 hb8 hg8 hor8 _)
      have ho8 := HO3.out.kept hg8 (own_apart HO3.out HV3.out (by decide))
      have hx8 : ∀ t ∈ L3, TkY w.heap.size w8 (Value.slice (some ⟨g8, 0, none⟩) (S.length + 1) cap8).ownBlock t := fun t ht => (HX3.out t ht).grown hg8 (fun _ _ hb => hb) (fun b hb hne e => by
        injection e with e
        rcases hor8 with h1 | h1
        · exact hne (by rw [h1]; exact congrArg some e)
        · have e' : b = g8 := e
          omega)
      have HO8 := keep ho8
      have HX8 := keep hx8
      have hC8 := hC3.under hb8 hl
      have HW8 := keep (grownBy_below HW3.out hb8)
      clear ho8 hx8 hg8 hor8 HO3 HX3 HV3 hC2 hC3 HW3 hb8
      go_roundw
      case rel =>
        refine ⟨m - 1, L3, S ++ [s], by go_num, by omega, by have := HML.out; simp; omega, HO8, HX8, keep ?_, HG3, HK3, keep ?_, hC8, HW8⟩
        · rw [List.length_append, List.map_append]; exact hown8
        · intro t ht
          rcases List.mem_append.1 ht with ht | ht
          · exact hZ.out t ht
          · rw [List.mem_singleton.1 ht]; omega
      case measure => simp [intOf]; omega
    · have hd : decide (0 < m) = false := by simpa using hp
      go_wp2_with fail
      go_ret2
      exact ⟨_, _, L, S, rfl, by have := HML.out; omega, hZ.out, hG.out, hK.out, hO.out, hX.out, hV.out, hC, hW.out⟩
end Go.Proofs.YtigogjlbemkhdaaGreat
namespace Go.Proofs.YtigogjlbemkhdaaGreat
open Go.RowKit

/-- A state that reads as L; neither its row nor its tokens lie in the blocks of A. -/
def XAv (A : Nat → Prop) (w : World) (v : Value) (L : List Tm) : Prop :=
  Sl w (fun b => b < w.heap.size ∧ ¬ A b) 2 v L.length (tms L) ∧ ∀ t ∈ L, Sl w (fun b => strB 0 w b ∧ ¬ A b) 1 t.tv t.tk.length (t.tk.map .string) ∧ t.tk.length ≤ 1048576
theorem XAv.grown {A : Nat → Prop} {w w' : World} {row : Option Nat} {v : Value} {L : List Tm} (h : XAv A w v L) (hg : w.grownBy w' row) (hr : ∀ b, some b = row → A b) : XAv A w' v L :=
  ⟨(h.1.grown hg fun b hb => ⟨hb.1, fun e => hb.2 (hr b e)⟩).mono fun _ hb => ⟨Nat.lt_of_lt_of_le hb.1 hg.size, hb.2⟩,
   fun t ht => ⟨((h.2 t ht).1.grown hg fun b hb => ⟨hb.1.lt_, fun e => hb.2 (hr b e)⟩).mono fun b hb => ⟨hb.1.grown hg (fun e => hb.2 (hr b e)), hb.2⟩, (h.2 t ht).2⟩⟩
theorem XAv.up {A : Nat → Prop} {w w' : World} {v : Value} {L : List Tm} (h : XAv A w v L) (hb : Below w.heap.size w w') : XAv A w' v L := h.grown (grownBy_of_below hb none) (fun _ e => by cases e)
theorem XAv.ms {A : Nat → Prop} {w : World} {v : Value} {L : List Tm} (h : XAv A w v L) : MS 0 w v L :=
  ⟨h.1.mono fun _ hb => hb.1, fun t ht => ⟨(h.2 t ht).1.mono fun _ hb => hb.1, (h.2 t ht).2⟩⟩
theorem XAv.of_own {A : Nat → Prop} {B : Nat} {w : World} {row : Option Nat} {v : Value} {L : List Tm} (h : w.ownsRow B 32 2 v L.length (tms L)) (hT : ∀ t ∈ L, TkY B w row t) (hA : ∀ b, B ≤ b → A b → some b = row) (hA2 : ∀ b, v.ownBlock = some b → ¬ A b) : XAv A w v L := by
  refine ⟨?_, fun t ht => ⟨(hT t ht).both.mono fun b hb => ⟨hb.1, fun ha => hb.2.2.2 (hA b hb.2.1 ha)⟩, (hT t ht).1.2⟩⟩
  refine ⟨h.1, ?_⟩
  rcases h.2 with ⟨hv, hn⟩ | ⟨g, cap, cur, hv, hb, hg, hnc, _⟩
  · rw [hn]; exact ⟨none, 0, hv, Nat.le_refl _, fun h => absurd h (by omega)⟩
  · refine ⟨_, cap, hv, hnc, fun _ => ⟨g, 0, rfl, ⟨(Array.getElem?_eq_some_iff.1 hg).1, hA2 g (by rw [hv]; rfl)⟩, fun j u hu => ?_⟩⟩
    have hc := h.cells (g := g) (by rw [hv]; rfl) j u hu
    rw [Addr.add_lit] at hc
    exact hc
theorem templ_any (v : Value) (L : List Tm) (w : World) (h : MS 0 w v L) (hc : ∀ t ∈ L, t.ct ≤ 9223372036854775807) (hm : L.length ≤ 100000) : Calls Tryz.prog 16 #[v] w (OfOut L w) := by
  obtain ⟨A, c, rfl, _, _⟩ := h.1.form
  have HO := keep (of_any (oB := 0) (.slice A L.length c) L w h.1 h.2 hc hm (Nat.zero_le _))
  clear h
  go_enter Tryz.func16, Tryz.ntmps16
  go_wp2_with fail
  refine HO.out.mono ?_
  rintro e w2 ⟨v2, R, rfl, h1, h2, h3, h4, h5, h6⟩
  have HOUT : Hid (OfOut L w (.returned v2) w2) := keep ⟨v2, R, rfl, h1, h2, h3, h4, h5, h6⟩
  obtain ⟨A2, c2, rfl, _⟩ := own_sl h1
  clear h1 h2 h3 h4 h5 h6
  go_wp2_with fail
  go_ret
  exact HOUT.out
theorem rtempl_any (v : Value) (L : List Tm) (w : World) (h : MS 0 w v L) (hc : ∀ t ∈ L, t.ct ≤ 9223372036854775807) (hm : L.length ≤ 100000) : Calls Tryz.prog 17 #[v] w (ROfOut 0 L w) := by
  obtain ⟨A, c, rfl, _, _⟩ := h.1.form
  have HO := keep (refOf_any (oB := 0) (.slice A L.length c) L w h.1 h.2 hc hm)
  clear h
  go_enter Tryz.func17, Tryz.ntmps17
  go_wp2_with fail
  refine HO.out.mono ?_
  rintro e w2 ⟨v2, R, rfl, h1, h2, h3, h4, h5⟩
  have HOUT : Hid (ROfOut 0 L w (.returned v2) w2) := keep ⟨v2, R, rfl, h1, h2, h3, h4, h5⟩
  obtain ⟨A2, c2, rfl, _, _⟩ := h1.1.form
  clear h1 h2 h3 h4 h5
  go_wp2_with fail
  go_ret
  exact HOUT.out
theorem oks_good {L : List Tm} {S : List ByteArray} (h : Good (st L) S.length) (hS : S.length ≤ 12) : OkS (st L) 12 :=
  ⟨h.s, h.p, fun t ht => by have := sumP_le h.p ht; have := h.b; unfold MAXI; omega, by have := sumP_len h.p; have := h.b; omega⟩
theorem chk_max {L : List Tm} {k : Nat} (h : ChkL L) (hk : k < L.length) : ChkL (L.set k ⟨L[k].tv, L[k].tk, 9223372036854775807⟩) := by
  have key : ∀ i, (hi : i < L.length) → ((L.set k ⟨L[k].tv, L[k].tk, 9223372036854775807⟩)[i]'(by rw [List.length_set]; exact hi)).tk = L[i].tk := fun i hi => by
    rw [List.getElem_set]
    split
    · rename_i e; subst e; rfl
    · rfl
  refine ⟨fun i hi => ?_, fun i hi => ?_⟩
  · rw [List.length_set] at hi
    have h1 := h.1 i hi
    rw [List.getElem_set]
    split
    · rename_i e
      subst e
      unfold chkT at h1 ⊢
      simp only [Bool.and_eq_true, decide_eq_true_eq] at h1 ⊢
      exact ⟨⟨⟨by omega, h1.1.1.2⟩, h1.1.2⟩, h1.2⟩
    · exact h1
  · rw [List.length_set] at hi
    rw [key i (by omega), key (i + 1) hi]
    exact h.2 i hi
theorem oks_max {L : List Tm} {k N : Nat} (g : OkS (st L) N) (hk : k < L.length) : OkS (st (L.set k ⟨L[k].tv, L[k].tk, 9223372036854775807⟩)) N := by
  obtain ⟨e1, e2⟩ := st_set hk ⟨L[k].tv, L[k].tk, 9223372036854775807⟩
  have hmem : ∀ t ∈ st (L.set k ⟨L[k].tv, L[k].tk, 9223372036854775807⟩), t ∈ st L ∨ t.2 = 9223372036854775807 := fun t ht => by
    obtain ⟨u, hu, rfl⟩ := List.mem_map.1 ht
    rcases List.mem_or_eq_of_mem_set hu with hu | rfl
    · exact .inl (List.mem_map.2 ⟨u, hu, rfl⟩)
    · exact .inr rfl
  refine ⟨?_, fun t ht => ?_, fun t ht => ?_, by rw [st_len, List.length_set, ← st_len]; exact g.l⟩
  · have hs := g.s
    rw [e1] at hs
    rw [e2]
    obtain ⟨h1, h2, h3⟩ := List.pairwise_append.1 hs
    obtain ⟨h4, h5⟩ := List.pairwise_cons.1 h2
    refine List.pairwise_append.2 ⟨h1, List.pairwise_cons.2 ⟨h4, h5⟩, fun a ha b hb => ?_⟩
    rcases List.mem_cons.1 hb with rfl | hb
    · exact h3 a ha (strs L[k].tk, L[k].ct) (by simp)
    · exact h3 a ha b (by simp [hb])
  · rcases hmem t ht with h | h
    · exact g.p t h
    · rw [h]; decide
  · rcases hmem t ht with h | h
    · exact g.m t h
    · rw [h]; exact Int.le_refl _
end Go.Proofs.YtigogjlbemkhdaaGreat
