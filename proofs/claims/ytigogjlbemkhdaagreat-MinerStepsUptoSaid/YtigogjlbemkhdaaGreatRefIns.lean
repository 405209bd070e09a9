/- The reference's Insert. -/
import Derived.Test.YtigogjlbemkhdaaGreatRefFind
import Derived.Deep.RegionLaw
namespace Go.Proofs.YtigogjlbemkhdaaGreat
open Go.RowKit
variable {oB : Nat}
/-- Places from the right at which t comes before what stands there. -/
def insPre (L : List Tm) (t : Tm) (k : Nat) : Prop := ∀ j, k ≤ j → (h : j < L.length) → cmpT (strs t.tk) (strs L[j].tk) < 0
/-- The row while the place is being looked for: a hole (that holds whatever) at k. -/
def insRow (L : List Tm) (k : Nat) (x : Tm) : List Tm := L.take k ++ [x] ++ L.drop k
theorem insRow_len (L : List Tm) (k : Nat) (hk : k ≤ L.length) (x : Tm) : (insRow L k x).length = L.length + 1 := by
  unfold insRow
  rw [List.length_append, List.length_append, List.length_take, List.length_drop]; simp; omega
theorem insRow_end (L : List Tm) (x : Tm) : insRow L L.length x = L ++ [x] := by simp [insRow]
theorem insRow_get (L : List Tm) {k j : Nat} (hk : k ≤ L.length) (hj : j < k) (x : Tm) : (insRow L k x)[j]? = L[j]? := by
  unfold insRow
  rw [List.append_assoc, List.getElem?_append_left (by rw [List.length_take]; omega), List.getElem?_take, if_pos hj]
theorem insRow_set (L : List Tm) {k : Nat} (hk : k ≤ L.length) (x y : Tm) : (insRow L k x).set k y = insRow L k y := by
  unfold insRow
  have hl : (L.take k).length = k := by rw [List.length_take]; omega
  rw [List.append_assoc, List.append_assoc, List.set_append_right _ _ (by omega), hl, Nat.sub_self]
  rfl
theorem insRow_move (L : List Tm) {k : Nat} (hk : k + 1 ≤ L.length) : insRow L (k + 1) L[k] = insRow L k L[k] := by
  unfold insRow
  rw [List.take_succ_eq_append_getElem (by omega), List.drop_eq_getElem_cons (show k < L.length by omega)]
  simp
theorem tms_set2 {L : List Tm} {i : Nat} (h : i < L.length) (y : Tm) : ((tms L).set (i * 2) y.tv).set (i * 2 + 1) (.int .i64 y.ct) = tms (L.set i y) := by
  have e1 : L = L.take i ++ [L[i]] ++ L.drop (i + 1) := by rw [List.append_assoc, List.singleton_append, ← List.drop_eq_getElem_cons h, List.take_append_drop]
  have hl : (tms (L.take i)).length = i * 2 := by rw [tms_len, List.length_take, Nat.min_eq_left (by omega)]
  have e2 : L.set i y = L.take i ++ [y] ++ L.drop (i + 1) := by rw [List.set_eq_take_append_cons_drop, if_pos h]; simp
  rw [e2]
  have e3 : tms L = tms (L.take i) ++ (tmV L[i] ++ tms (L.drop (i + 1))) := by
    have := congrArg tms e1
    rw [tms_append, tms_append, List.append_assoc] at this
    rw [this]; simp [tms]
  rw [e3, tms_append, tms_append, List.append_assoc, List.set_append_right _ _ (by omega), hl, Nat.sub_self, List.set_append_right _ _ (by omega), hl, show i * 2 + 1 - i * 2 = 1 by omega]
  simp [tmV, tms]
def InsRes (L : List Tm) (t : Tm) (w : World) (x : Ending) (w' : World) : Prop :=
  ∃ v' k, x = .returned v' ∧ k ≤ L.length ∧ insPre L t k ∧ (∀ (j : Nat) (h : j < L.length), j + 1 = k → ¬ cmpT (strs t.tk) (strs L[j].tk) < 0) ∧ w'.ownsRow w.heap.size 32 2 v' (L.length + 1) (tms (insRow L k t)) ∧ Below w.heap.size w w'
set_option maxHeartbeats 8000000 in
set_option maxRecDepth 100000 in
theorem insert_any (v : Value) (L : List Tm) (t : Tm) (w : World) (h : MS oB w v L) (ht : TkR oB w t) (hne : ∀ u ∈ L, t.tk ≠ u.tk) (hm : L.length ≤ 1048576) : Calls Tryz.prog 55 #[v, .agg (tmV t).toArray] w (InsRes L t w) := by
  obtain ⟨A, c, rfl, _, _⟩ := h.1.form
  obtain ⟨A2, n2, c2, hv2⟩ := ht.form
  have hb1 : Below w.heap.size w (w.alloc (.cells #[t.tv, .int .i64 t.ct] 32)) := (Below.refl _ w).alloc (Nat.le_refl _) _
  have hB1 : Blk (w.alloc (.cells #[t.tv, .int .i64 t.ct] 32)) w.heap.size 32 #[t.tv, .int .i64 t.ct] := Blk.new w _ _
  have hT1 := ht.up hb1
  have hM1 := h.up hb1
  have hone := tms_one L fun t ht => (h.2 t ht).form
  obtain ⟨w1, hw1⟩ : ∃ w1, w1 = w.alloc (.cells #[t.tv, .int .i64 t.ct] 32) := ⟨_, rfl⟩
  rw [← hw1] at hb1 hB1 hT1 hM1
  have HM := keep hM1
  have HT := keep hT1
  have HO := keep hone
  have HNE := keep hne
  obtain ⟨tv, tk, ct⟩ := t
  simp only at hv2 hB1 hw1
  subst hv2
  simp only [tmV]
  have HW := keep hw1
  have HB := keep hb1
  have l1 := hB1.lt
  clear h ht hw1 hM1 hT1 hb1 hone hne
  go_enter Tryz.func55, Tryz.ntmps55
  go_upto_region 2 with fail
  rw [← HW.out]
  go_cut [6] (fun s6 wd => ∃ g cap, s6 = .slice (some ⟨g, 0, none⟩) (L.length + 1) cap ∧ wd.ownsRow w1.heap.size 32 2 (.slice (some ⟨g, 0, none⟩) (L.length + 1) cap) (L.length + 1) (tms L ++ [.slice A2 n2 c2, .int .i64 ct]) ∧ Below w1.heap.size w1 wd)
  case first =>
    have e0 : w1.drew.cell? ⟨w.heap.size, 0, none⟩ = some (.slice A2 n2 c2) := (hB1.cell 0).trans rfl
    have e1 : w1.drew.cell? ⟨w.heap.size, 1, none⟩ = some (.int .i64 ct) := (hB1.cell 1).trans rfl
    have hs0 : Sl w1.drew (lt w1.heap.size) 2 (.slice A L.length c) L.length (tms L) := HM.out.1
    have hbC : Below w1.heap.size w1.drew (w1.alloc (.cells #[.slice A2 n2 c2, .int .i64 ct] 32)).drew := (Below.refl _ w1.drew).alloc (Nat.le_refl _) _
    have hsC : Sl (w1.alloc (.cells #[.slice A2 n2 c2, .int .i64 ct] 32)).drew (lt w1.heap.size) 2 (.slice A L.length c) L.length (tms L) := hs0.below hbC (Nat.le_refl _)
    have hn0 : World.ownsRow w1.drew w1.heap.size 32 2 (.slice none 0 0) 0 [] := World.ownsRow_nil _ _ _ _
    have hnC : World.ownsRow (w1.alloc (.cells #[.slice A2 n2 c2, .int .i64 ct] 32)).drew (w1.heap.size + 1) 32 2 (.slice none 0 0) 0 [] := World.ownsRow_nil _ _ _ _
    have hq1 : ∀ u ∈ ([.slice A2 n2 c2, .int .i64 ct] : List Value), u.oneCell' = true := by intro u hu; simp at hu; rcases hu with rfl | rfl <;> rfl
    have hz0 : w1.heap.size ≤ w1.drew.heap.size := Nat.le_refl _
    have hzC : w1.heap.size + 1 ≤ (w1.alloc (.cells #[.slice A2 n2 c2, .int .i64 ct] 32)).drew.heap.size := by simp
    have hk1 : 0 + L.length ≤ maxLen := by unfold maxLen; omega
    have hk2 : L.length + 1 ≤ maxLen := by unfold maxLen; omega
    have HQ := keep (And.intro hs0 (And.intro hsC (And.intro hn0 (And.intro hnC (And.intro hq1 (And.intro hz0 (And.intro hzC (And.intro hk1 hk2))))))))
    clear hs0 hsC hn0 hnC hq1 hz0 hzC hk1 hk2
    go_region_law (first
      | ((with_reducible refine step_appendS elTm rfl _ _ rfl w1.heap.size vA L.length (tms L) rfl (hownA.alloc _) (fun b => b = WA.heap.size) (.slice (some ⟨WA.heap.size, 0, none⟩) 1 1) 1 [.slice A2 n2 c2, .int .i64 ct] rfl slA HQ.out.2.2.2.2.1 HQ.out.2.2.2.2.2.2.2.2 (by omega) hzA ?_); intro v2 W2 hown2 hbel2 _)
      | ((with_reducible refine step_appendS elTm rfl _ _ rfl (w1.heap.size + 1) vC L.length (tms L) rfl hownC (fun b => b = w1.heap.size) (.slice (some ⟨w1.heap.size, 0, none⟩) 1 1) 1 [.slice A2 n2 c2, .int .i64 ct] rfl slC HQ.out.2.2.2.2.1 HQ.out.2.2.2.2.2.2.2.2 (by omega) hzC2 ?_); intro v2 W2 hown2 hbel2 _)
      | ((with_reducible refine step_appendS elTm rfl _ _ rfl w1.heap.size (.slice none 0 0) 0 [] rfl HQ.out.2.2.1 _ (.slice A L.length c) L.length (tms L) rfl HQ.out.1 HO.out HQ.out.2.2.2.2.2.2.2.1 (by omega) HQ.out.2.2.2.2.2.1 ?_); intro vA WA hownA hbelA _; simp only [Nat.zero_add, List.nil_append] at hownA; have slA : Sl (WA.alloc (.cells #[.slice A2 n2 c2, .int .i64 ct] 32)) (fun b => b = WA.heap.size) 2 (.slice (some ⟨WA.heap.size, 0, none⟩) 1 1) 1 [.slice A2 n2 c2, .int .i64 ct] := ⟨rfl, _, _, rfl, Nat.le_refl _, fun _ => ⟨_, 0, rfl, rfl, fun j u hu => (by rw [Nat.zero_add]; exact (Blk.cell (Blk.new WA 32 #[.slice A2 n2 c2, .int .i64 ct]) j).trans (by simpa using hu))⟩⟩; have hzA : w1.heap.size ≤ (WA.alloc (.cells #[.slice A2 n2 c2, .int .i64 ct] 32)).heap.size := Nat.le_trans hbelA.size (by simp); have e0A : WA.cell? ⟨w.heap.size, 0, none⟩ = some (.slice A2 n2 c2) := (hbelA.cell (p := ⟨w.heap.size, 0, none⟩) l1).trans ((hB1.cell 0).trans rfl); have e1A : WA.cell? ⟨w.heap.size, 1, none⟩ = some (.int .i64 ct) := (hbelA.cell (p := ⟨w.heap.size, 1, none⟩) l1).trans ((hB1.cell 1).trans rfl))
      | ((with_reducible refine step_appendS elTm rfl _ _ rfl (w1.heap.size + 1) (.slice none 0 0) 0 [] rfl HQ.out.2.2.2.1 _ (.slice A L.length c) L.length (tms L) rfl HQ.out.2.1 HO.out HQ.out.2.2.2.2.2.2.2.1 (by omega) HQ.out.2.2.2.2.2.2.1 ?_); intro vC WC hownC hbelC _; simp only [Nat.zero_add, List.nil_append] at hownC; have slC : Sl WC (fun b => b = w1.heap.size) 2 (.slice (some ⟨w1.heap.size, 0, none⟩) 1 1) 1 [.slice A2 n2 c2, .int .i64 ct] := ⟨rfl, _, _, rfl, Nat.le_refl _, fun _ => ⟨_, 0, rfl, rfl, fun j u hu => (by rw [Nat.zero_add]; exact (hbelC.cell (p := ⟨w1.heap.size, j, none⟩) (Nat.lt_succ_self _)).trans ((Blk.cell (Blk.new w1.drew 32 #[.slice A2 n2 c2, .int .i64 ct]) j).trans (by simpa using hu)))⟩⟩; have hzC2 : w1.heap.size + 1 ≤ WC.heap.size := Nat.le_trans (by simp) hbelC.size)
      | fail)
    all_goals
      obtain ⟨g, cap, hv⟩ : ∃ g cap, v2 = .slice (some ⟨g, 0, none⟩) (L.length + 1) cap := by
        rcases hown2.2 with ⟨_, hz⟩ | ⟨g, cap, cur, hv, _⟩
        · omega
        · exact ⟨g, cap, hv⟩
      subst hv
      go_wp2_with fail
      go_meet
      first
        | exact ⟨g, cap, rfl, hown2, ((Below.refl _ w1).drew).trans ((hbelA.alloc hbelA.size _).trans hbel2)⟩
        | exact ⟨g, cap, rfl, own_base hown2 (Nat.le_succ _), ((Below.refl _ w1).drew).trans ((hbC.trans (hbelC.mono (Nat.le_succ _))).trans (hbel2.mono (Nat.le_succ _)))⟩
  case rest =>
    obtain ⟨g, cap, rfl, hown, hbl⟩ := hcut
    obtain ⟨w2, rfl⟩ : ∃ w2 : World, w2 = wc := ⟨_, rfl⟩
    have hrow : tms L ++ [.slice A2 n2 c2, .int .i64 ct] = tms (insRow L L.length ⟨.slice A2 n2 c2, tk, ct⟩) := by rw [insRow_end, tms_append]; rfl
    rw [hrow] at hown
    have HO2 := keep hown
    have HB2 := keep hbl
    clear hrow hown hbl
    go_wp2_with fail
    go_loopw [5] (fun s5 wr => ∃ (k : Nat) (x : Tm), k ≤ L.length ∧ s5 = .int .i64 k ∧ Hid (wr.ownsRow w1.heap.size 32 2 (.slice (some ⟨g, 0, none⟩) (L.length + 1) cap) (L.length + 1) (tms (insRow L k x))) ∧ Hid (insPre L ⟨.slice A2 n2 c2, tk, ct⟩ k) ∧ Hid (Below w1.heap.size w1 wr)) (fun s5 _ => (intOf s5).toNat)
    case atStart => exact ⟨L.length, _, Nat.le_refl _, rfl, HO2, keep (fun j h1 h2 => absurd h2 (by omega)), HB2⟩
    case round =>
      obtain ⟨k, x, hk, rfl, hO, hP, hR⟩ := hrel
      obtain ⟨wo, rfl⟩ : ∃ wo : World, wo = wr := ⟨_, rfl⟩
      have hgl := (hO.out.lt g rfl).2
      have hgb := (hO.out.lt g rfl).1
      have hlen := insRow_len L k hk x
      have e0 : wo.cell? ⟨w.heap.size, 0, none⟩ = some (.slice A2 n2 c2) := ((hB1.below hR.out l1).cell 0).trans rfl
      have e1 : wo.cell? ⟨w.heap.size, 1, none⟩ = some (.int .i64 ct) := ((hB1.below hR.out l1).cell 1).trans rfl
      have hkin : k < (insRow L k x).length := by omega
      have cells : ∀ j, (hj : j < (insRow L k x).length) → wo.cell? ⟨g, j * 2, none⟩ = some (insRow L k x)[j].tv ∧ wo.cell? ⟨g, j * 2 + 1, none⟩ = some (.int .i64 (insRow L k x)[j].ct) := by
        intro j hj
        have q0 := own_cell hO.out rfl (j * 2) (by omega)
        have q1 := own_cell hO.out rfl (j * 2 + 1) (by omega)
        have r0 := tms_at (insRow L k x) j hj 0 (by omega)
        have r1 := tms_at (insRow L k x) j hj 1 (by omega)
        exact ⟨q0.trans (r0.trans rfl), q1.trans (r1.trans rfl)⟩
      obtain ⟨k0, k1⟩ := cells k hkin
      have f0 : ∀ (u : World), u = wo → u.frozen? ⟨g, k * 2, none⟩ = false := fun u hu => hu ▸ own_frozen hO.out rfl _
      have ff0 : wo.frozen? ⟨g, k * 2, none⟩ = false := own_frozen hO.out rfl _
      have ff1 : wo.frozen? ⟨g, k * 2 + 1, none⟩ = false := own_frozen hO.out rfl _
      have hk1 : (k : Int) ≤ (L.length : Int) := by omega
      have hk2 : (L.length : Int) ≤ 1048576 := by omega
      have hend := insRow_set L hk x ⟨.slice A2 n2 c2, tk, ct⟩
      have hset := tms_set2 hkin ⟨.slice A2 n2 c2, tk, ct⟩
      rw [hend] at hset
      have hstore : ∀ (u : World), u.ownsRow w1.heap.size 32 2 (.slice (some ⟨g, 0, none⟩) (L.length + 1) cap) (L.length + 1) (tms (insRow L k x)) → ((u.setCell ⟨g, k * 2, none⟩ (.slice A2 n2 c2)).setCell ⟨g, k * 2 + 1, none⟩ (.int .i64 ct)).ownsRow w1.heap.size 32 2 (.slice (some ⟨g, 0, none⟩) (L.length + 1) cap) (L.length + 1) (tms (insRow L k ⟨.slice A2 n2 c2, tk, ct⟩)) := fun u hu => by
        have := own_store (own_store hu rfl (k * 2) (.slice A2 n2 c2)) rfl (k * 2 + 1) (.int .i64 ct)
        rw [hset] at this
        exact this
      have HSTO := keep hstore
      clear hstore
      generalize (insRow L k x)[k] = y at k0 k1
      by_cases hk0 : k = 0
      · subst hk0
        clear hset hend cells f0 hkin hlen
        go_wp2_with fail
        go_still_tail 9, (by kernel_rfl)
        change wpList _ _ _ _ _ wo.drew
        go_wp2_with fail
        go_ret
        exact ⟨_, 0, rfl, Nat.zero_le _, hP.out, fun j h e => by omega, own_base (HSTO.out wo hO.out) HB.out.size, HB.out.trans ((((hR.out.setCell (p := ⟨g, 0, none⟩) hgb _).setCell (p := ⟨g, 1, none⟩) hgb _).drew).mono HB.out.size)⟩
      · obtain ⟨j, rfl⟩ : ∃ j, k = j + 1 := ⟨k - 1, by omega⟩
        have hjl : j < L.length := by omega
        have hjin : j < (insRow L (j + 1) x).length := by omega
        obtain ⟨j0, j1⟩ := cells j hjin
        have hget : (insRow L (j + 1) x)[j] = L[j] := by
          have h1 := insRow_get L hk (show j < j + 1 by omega) x
          rw [List.getElem?_eq_getElem hjin, List.getElem?_eq_getElem hjl] at h1
          exact Option.some.inj h1
        rw [hget] at j0 j1
        have htk := (HM.out.2 _ (List.getElem_mem hjl)).up hR.out.drew
        have hcall := less_any ⟨.slice A2 n2 c2, tk, ct⟩ L[j] wo.drew (HT.out.up hR.out.drew) htk (HNE.out _ (List.getElem_mem hjl))
        have hmv := insRow_move L (show j + 1 ≤ L.length by omega)
        have hend2 := insRow_set L hk x L[j]
        have hset2 := tms_set2 hkin L[j]
        rw [hend2, hmv] at hset2
        have hpre : cmpT (strs tk) (strs L[j].tk) < 0 → insPre L ⟨.slice A2 n2 c2, tk, ct⟩ j := fun hc i h1 h2 => by
          rcases Nat.lt_or_ge j i with h3 | h3
          · exact hP.out i h3 h2
          · obtain rfl : i = j := by omega
            exact hc
        have hfm := htk.form
        have hst2 : ∀ (u : World), u.ownsRow w1.heap.size 32 2 (.slice (some ⟨g, 0, none⟩) (L.length + 1) cap) (L.length + 1) (tms (insRow L (j + 1) x)) → ((u.setCell ⟨g, (j + 1) * 2, none⟩ L[j].tv).setCell ⟨g, (j + 1) * 2 + 1, none⟩ (.int .i64 L[j].ct)).ownsRow w1.heap.size 32 2 (.slice (some ⟨g, 0, none⟩) (L.length + 1) cap) (L.length + 1) (tms (insRow L j L[j])) := fun u hu => by
          have := own_store (own_store hu rfl ((j + 1) * 2) L[j].tv) rfl ((j + 1) * 2 + 1) (.int .i64 L[j].ct)
          rw [hset2] at this
          exact this
        have hstop : ¬ cmpT (strs tk) (strs L[j].tk) < 0 → ∀ (i : Nat) (h : i < L.length), i + 1 = j + 1 → ¬ cmpT (strs tk) (strs L[i].tk) < 0 := fun hc i h e => by
          obtain rfl : i = j := by omega
          exact hc
        have hgz : ∃ z : Tm, z = L[j] := ⟨_, rfl⟩
        generalize L[j] = u at j0 j1 hcall hpre hfm hst2 hstop
        obtain ⟨A3, n3, c3, hv3⟩ := hfm
        obtain ⟨uv, uk, uc⟩ := u
        simp only at hv3 j0 j1 hpre hstop hst2
        subst hv3
        simp only [tmV] at hcall
        have HC := keep hcall
        have HPRE := keep hpre
        have HST2 := keep hst2
        have HSTOP := keep hstop
        clear hcall hpre hst2 hstop hset hend hset2 hend2 hmv hget cells f0 hgz hkin hjin hlen htk
        have p1 : (0 : Int) < (j : Int) + 1 := by omega
        have p2 : (j : Int) < (L.length : Int) + 1 := by omega
        have p3 : (j : Int) + 1 < (L.length : Int) + 1 := by omega
        have p4 : (j : Int) ≤ 1048576 := by omega
        have p5 : IntKind.i64.wrap ((j : Int) + 1 - 1) = (j : Int) := (IntWalk.i64_in _ (by omega)).trans (by omega)
        have p6 : IntKind.i64.wrap (j : Int) = (j : Int) := IntWalk.i64_in _ (by omega)
        go_wp2_with fail
        go_still_tail 9, (by kernel_rfl)
        change wpList _ _ _ _ _ wo.drew
        go_wp2_with fail
        refine HC.out.mono ?_
        rintro e w3 ⟨rfl, hb3⟩
        clear p5 p6
        have hbn := hR.out.drew.trans (hb3.mono hR.out.size)
        have hO3 : w3.ownsRow w1.heap.size 32 2 (.slice (some ⟨g, 0, none⟩) (L.length + 1) cap) (L.length + 1) (tms (insRow L (j + 1) x)) := own_bel (show wo.drew.ownsRow _ _ _ _ _ _ from hO.out) hb3
        have kk0 : w3.cell? ⟨g, (j + 1) * 2, none⟩ = some y.tv := (hb3.cell (p := ⟨g, (j + 1) * 2, none⟩) hgl).trans k0
        have kk1 : w3.cell? ⟨g, (j + 1) * 2 + 1, none⟩ = some (.int .i64 y.ct) := (hb3.cell (p := ⟨g, (j + 1) * 2 + 1, none⟩) hgl).trans k1
        have jj0 : w3.cell? ⟨g, j * 2, none⟩ = some (.slice A3 n3 c3) := (hb3.cell (p := ⟨g, j * 2, none⟩) hgl).trans j0
        have jj1 : w3.cell? ⟨g, j * 2 + 1, none⟩ = some (.int .i64 uc) := (hb3.cell (p := ⟨g, j * 2 + 1, none⟩) hgl).trans j1
        have ee0 : w3.cell? ⟨w.heap.size, 0, none⟩ = some (.slice A2 n2 c2) := ((hB1.below hbn l1).cell 0).trans rfl
        have ee1 : w3.cell? ⟨w.heap.size, 1, none⟩ = some (.int .i64 ct) := ((hB1.below hbn l1).cell 1).trans rfl
        have gg0 : w3.frozen? ⟨g, (j + 1) * 2, none⟩ = false := own_frozen hO3 rfl _
        have gg1 : w3.frozen? ⟨g, (j + 1) * 2 + 1, none⟩ = false := own_frozen hO3 rfl _
        have HO3 := keep hO3
        have HBN := keep hbn
        clear hO3 hbn hb3 HC k0 k1 j0 j1 e0 e1 ff0 ff1
        by_cases hc : cmpT (strs tk) (strs uk) < 0
        · rw [show decide (cmpT (strs tk) (strs uk) < 0) = true from decide_eq_true hc]
          have HP2 := keep (HPRE.out hc)
          clear hc HPRE HSTOP
          go_wp2_with fail
          go_roundw
          case rel => exact ⟨j, _, by omega, by go_num, keep (HST2.out w3 HO3.out), HP2, keep ((HBN.out.setCell (p := ⟨g, (j + 1) * 2, none⟩) hgb _).setCell (p := ⟨g, (j + 1) * 2 + 1, none⟩) hgb _)⟩
          case measure => simp [intOf]
        · rw [show decide (cmpT (strs tk) (strs uk) < 0) = false from decide_eq_false hc]
          have HS2 := keep (HSTOP.out (by omega))
          clear hc HPRE HSTOP
          go_wp2_with fail
          go_ret
          exact ⟨_, j + 1, rfl, hk, hP.out, fun i h e => (by have := HS2.out i h e; simp only; omega), own_base (HSTO.out w3 HO3.out) HB.out.size, HB.out.trans (((HBN.out.setCell (p := ⟨g, (j + 1) * 2, none⟩) hgb _).setCell (p := ⟨g, (j + 1) * 2 + 1, none⟩) hgb _).mono HB.out.size)⟩
end Go.Proofs.YtigogjlbemkhdaaGreat
