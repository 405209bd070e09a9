/- The reference of chapter 14: Sum, words. The reference of chapter 14: position. The reference of chapter 14: split, what is plain. The reference of chapter 14: split at a group that is not split further. The reference of chapter 14: split at a group that is split further. The reference of chapter 14: Of, Mine. -/
import Derived.Test.YtigogjlbemkhdaaGreatTmOfP
import Derived.Test.YtigogjlbemkhdaaGreatRefState
import Derived.Test.YtigogjlbemkhdaaGreatTokEq
import Derived.StillTailTactics
import Derived.Test.YtigogjlbemkhdaaGreatRefIns
import Derived.Test.YtigogjlbemkhdaaGreatTmOf
import Derived.Test.YtigogjlbemkhdaaGreatTokens
namespace Go.Proofs.YtigogjlbemkhdaaGreat
open Go.RowKit
variable {oB : Nat}
theorem rSum_any (a b : Int) (w : World) (ha : 0 ≤ a) (hb : 0 ≤ b) (ha1 : a ≤ 9223372036854775807) (hb1 : b ≤ 9223372036854775807) : Calls Tryz.prog 37 #[.int .i64 a, .int .i64 b] w fun e w' => e = .returned (.int .i64 (sat (a + b))) ∧ w' = w := by
  have h1 : IntKind.i64.wrap (9223372036854775807 - b) = 9223372036854775807 - b := IntWalk.i64_in _ (by omega)
  by_cases h2 : 9223372036854775807 - b < a
  · have hs : sat (a + b) = 9223372036854775807 := by unfold sat MAXI; omega
    rw [hs]
    clear hs
    go_enter Tryz.func37, Tryz.ntmps37
    go_wp2_with fail
    go_ret
    exact ⟨rfl, rfl⟩
  · have hs : sat (a + b) = a + b := by unfold sat MAXI; omega
    rw [hs]
    clear hs
    go_enter Tryz.func37, Tryz.ntmps37
    go_wp2_with fail
    go_ret
    exact ⟨rfl, rfl⟩
/-- The different tokens at a place, in some order. -/
def DtW (p : Nat) (l : List TP) (ws : List (List UInt8)) : Prop := ws.Nodup ∧ ∀ w, w ∈ ws ↔ w ∈ l.map (tkA p)
theorem DtW.nil (p : Nat) : DtW p [] [] := ⟨List.nodup_nil, by simp⟩
theorem DtW.perm {p : Nat} {l : List TP} {ws : List (List UInt8)} (h : DtW p l ws) : ws.Perm (tksA p l) :=
  (List.perm_ext_iff_of_nodup h.1 (nodup_dd _)).2 fun w => by rw [h.2, mem_dd]
theorem dtw_found {p : Nat} {l : List TP} {ws : List (List UInt8)} {t : TP} {i : Nat} (h : DtW p l ws) (hi : i < ws.length) (hw : ws[i] = tkA p t) (ht : 0 ≤ t.2) :
    DtW p (l ++ [t]) ws ∧ aOf p (l ++ [t]) ws = (aOf p l ws).set i ([tkA p t], sat (sat (sumC (partA p (tkA p t) l)) + t.2)) := by
  have hm : tkA p t ∈ ws := hw ▸ List.getElem_mem hi
  refine ⟨⟨h.1, fun w => ?_⟩, ?_⟩
  · rw [h.2, List.map_append, List.mem_append, List.map_cons, List.map_nil, List.mem_singleton]
    exact ⟨.inl, fun h' => h'.elim id (fun e => by rw [e]; exact (h.2 _).1 hm)⟩
  · apply List.ext_getElem
    · simp [aOf]
    · intro j h1 h2
      have hj : j < ws.length := by simpa [aOf] using h1
      rw [List.getElem_set]
      simp only [aOf, List.getElem_map]
      by_cases e : i = j
      · subst e
        rw [if_pos rfl, hw, sum_snoc, if_pos rfl, sat_add ht]
      · rw [if_neg e, sum_snoc, if_neg, Int.add_zero]
        intro e2
        have h3 : ws[i] = ws[j] := hw.trans e2
        exact e ((List.getElem_inj h.1).1 h3)
theorem dtw_new {p : Nat} {l : List TP} {ws : List (List UInt8)} {t : TP} (h : DtW p l ws) (hn : tkA p t ∉ ws) :
    DtW p (l ++ [t]) (ws ++ [tkA p t]) ∧ aOf p (l ++ [t]) (ws ++ [tkA p t]) = aOf p l ws ++ [([tkA p t], sat (0 + t.2))] := by
  refine ⟨⟨?_, fun w => ?_⟩, ?_⟩
  · rw [List.nodup_append]
    refine ⟨h.1, by simp, fun a ha b hb => ?_⟩
    rw [List.mem_singleton] at hb
    subst hb
    intro e
    exact hn (e ▸ ha)
  · rw [List.mem_append, h.2, List.map_append, List.mem_append]
    simp
  · unfold aOf
    rw [List.map_append]
    congr 1
    · apply List.map_congr_left
      intro w hw
      rw [sum_snoc, if_neg (by intro e; rw [e] at hn; exact hn hw), Int.add_zero]
    · simp only [List.map_cons, List.map_nil]
      rw [sum_snoc, if_pos rfl, part_none (fun hm => hn ((h.2 _).2 hm))]
      rfl
theorem tk_hd {A : List Tm} {p : Nat} {l : List TP} {ws : List (List UInt8)} (h : tpL A = aOf p l ws) : A.length = ws.length := by
  have := congrArg List.length h
  simpa [tpL, aOf] using this
theorem tk_at {A : List Tm} {p : Nat} {l : List TP} {ws : List (List UInt8)} (h : tpL A = aOf p l ws) {w : World} {B : Nat} (hO : ∀ t ∈ A, TkO w B t) {k : Nat} (hk : k < A.length) (hk2 : k < ws.length) : strs A[k].tk = [ws[k]] ∧ hd1 A[k] = ws[k] ∧ A[k].ct = sat (sumC (partA p ws[k] l)) := by
  obtain ⟨h1, h2⟩ := (tpL_hd h hO).2 k hk hk2
  refine ⟨?_, h1, h2⟩
  obtain ⟨b, hb, _⟩ := hO _ (List.getElem_mem hk)
  rw [← h1]
  unfold hd1
  rw [hb]
  rfl
/-- The count of a token that is there grows. -/
theorem words_set {A : List Tm} {p : Nat} {l : List TP} {ws : List (List UInt8)} {t : TP} {k : Nat} (h : tpL A = aOf p l ws) (hD : DtW p l ws) {w : World} {B : Nat} (hO : ∀ t ∈ A, TkO w B t) (hk : k < A.length) (he : hd1 A[k] = tkA p t) (ht : 0 ≤ t.2) :
    DtW p (l ++ [t]) ws ∧ tpL (A.set k ⟨A[k].tv, A[k].tk, sat (A[k].ct + t.2)⟩) = aOf p (l ++ [t]) ws := by
  have hk2 : k < ws.length := by rw [← tk_hd h]; exact hk
  obtain ⟨h1, h2, h3⟩ := tk_at h hO hk hk2
  have hw : ws[k] = tkA p t := h2.symm.trans he
  obtain ⟨q1, q2⟩ := dtw_found hD hk2 hw ht
  refine ⟨q1, ?_⟩
  rw [q2, ← h]
  unfold tpL
  rw [List.map_set]
  congr 1
  simp only [Prod.mk.injEq]
  exact ⟨by rw [h1, hw], by rw [h3, hw]⟩
theorem words_new {A : List Tm} {p : Nat} {l : List TP} {ws : List (List UInt8)} {t : TP} (h : tpL A = aOf p l ws) (hD : DtW p l ws) {w : World} {B : Nat} (hO : ∀ t ∈ A, TkO w B t) (hn : ∀ j, (hj : j < A.length) → hd1 A[j] ≠ tkA p t) {v : Value} {s : ByteArray} (hs : lb s = tkA p t) {c : Int} (hc : c = sat (0 + t.2)) :
    DtW p (l ++ [t]) (ws ++ [tkA p t]) ∧ tpL (A ++ [⟨v, [s], c⟩]) = aOf p (l ++ [t]) (ws ++ [tkA p t]) := by
  have hnm : tkA p t ∉ ws := fun hm => by
    obtain ⟨j, hj, e⟩ := List.getElem_of_mem hm
    have hjA : j < A.length := by rw [tk_hd h]; exact hj
    exact hn j hjA ((tk_at h hO hjA hj).2.1.trans e)
  obtain ⟨q1, q2⟩ := dtw_new (t := t) hD hnm
  refine ⟨q1, ?_⟩
  rw [q2, ← h]
  unfold tpL
  rw [List.map_append]
  congr 1
  simp only [List.map_cons, List.map_nil]
  rw [hc]
  show [([lb s], _)] = _
  rw [hs]
def WordsOut (p : Nat) (l : List TP) (w : World) (x : Ending) (w' : World) : Prop :=
  ∃ (v' : Value) (ok : Bool), x = .returned (.tuple #[v', .bool ok]) ∧ Below w.heap.size w w' ∧ (ok = false → v' = .slice none 0 0 ∧ splA p l = false) ∧
    (ok = true → ∃ (A : List Tm) (ws : List (List UInt8)), w'.ownsRow w.heap.size 32 2 v' A.length (tms A) ∧ (∀ t ∈ A, TkO w' w.heap.size t) ∧ DtW p l ws ∧ tpL A = aOf p l ws ∧ [] ∉ ws ∧ ws.length ≤ 4)
theorem spl_empty {p : Nat} {l : List TP} (h : [] ∈ l.map (tkA p)) : splA p l = false := by
  cases hs : splA p l with
  | false => rfl
  | true =>
    obtain ⟨_, h2⟩ := spl_two hs
    exact absurd rfl (h2 [] (mem_dd.2 h)).1
theorem nodup_le {α : Type} [DecidableEq α] : ∀ (a b : List α), a.Nodup → (∀ x ∈ a, x ∈ b) → a.length ≤ b.length
  | [], _, _, _ => Nat.zero_le _
  | x :: a, b, hn, h => by
    have hx := List.nodup_cons.1 hn
    have hb := h x (by simp)
    have ih := nodup_le a (b.erase x) hx.2 fun y hy => (List.mem_erase_of_ne (fun e => hx.1 (by rw [← e]; exact hy))).2 (h y (by simp [hy]))
    rw [List.length_erase_of_mem hb] at ih
    have := List.length_pos_of_mem hb
    rw [List.length_cons]
    omega
theorem spl_many {p : Nat} {l m : List TP} {ws : List (List UInt8)} (h : DtW p l ws) (h4 : 4 < ws.length) : splA p (l ++ m) = false := by
  cases hs : splA p (l ++ m) with
  | false => rfl
  | true =>
    exfalso
    unfold splA at hs
    simp only [Bool.and_eq_true, decide_eq_true_eq] at hs
    have hsub : ws.length ≤ (tksA p (l ++ m)).length := by
      refine nodup_le _ _ h.1 fun w hw => ?_
      refine mem_dd.2 ?_
      rw [List.map_append]
      exact List.mem_append_left _ ((h.2 w).1 hw)
    omega
set_option maxHeartbeats 8000000 in
set_option maxRecDepth 100000 in
theorem words_any (v : Value) (L : List Tm) (p : Nat) (w : World) (hs : Sl w (lt w.heap.size) 2 v L.length (tms L)) (hT : ∀ t ∈ L, TkR oB w t) (hp : ∀ t ∈ L, p < t.tk.length) (hc : CtOk L) (hm : L.length ≤ 100000) :
    Calls Tryz.prog 98 #[v, .int .i64 p] w (WordsOut p (tpL L) w) := by
  obtain ⟨A0, c0, rfl, _, hs⟩ := hs.form
  have HS := keep hs
  have HT := keep hT
  have HP := keep hp
  have HC := keep hc
  clear hs hT hp hc
  go_enter Tryz.func98, Tryz.ntmps98
  go_wp2_with fail
  go_loopw [6, 7, 9] (fun u6 u7 _ wr => ∃ (i : Nat) (A : List Tm) (ws : List (List UInt8)) (Aa : Option Addr) (ca : Nat), i ≤ L.length ∧ u7 = .int .i64 i ∧ u6 = .slice Aa A.length ca ∧ A.length ≤ 4 ∧ Hid (wr.ownsRow w.heap.size 32 2 (.slice Aa A.length ca) A.length (tms A)) ∧ Hid (∀ t ∈ A, TkO wr w.heap.size t) ∧ Hid (DtW p (tpL (L.take i)) ws) ∧ Hid (tpL A = aOf p (tpL (L.take i)) ws) ∧ Hid ([] ∉ ws) ∧ Hid (Below w.heap.size w wr)) (fun _ u7 _ _ => L.length - (intOf u7).toNat)
  case atStart => exact ⟨0, [], [], none, 0, Nat.zero_le _, rfl, rfl, by simp, keep (World.ownsRow_nil _ _ _ _), keep (by intro t ht; cases ht), keep (DtW.nil p), keep rfl, keep (by simp), keep (Below.refl _ _)⟩
  case round =>
    obtain ⟨i, A, ws, Aa, ca, hi, rfl, rfl, hA4, hO, hTk, hD, hAE, hNE, hB⟩ := hrel
    obtain ⟨wo, rfl⟩ : ∃ wo : World, wo = wr := ⟨_, rfl⟩
    by_cases hlt : i < L.length
    · obtain ⟨b1, o1, rfl, _, d0, d1⟩ := tm_cells (HS.out.below hB.out (Nat.le_refl _)) hlt
      have htr := (HT.out _ (List.getElem_mem hlt)).up hB.out
      obtain ⟨t, ht⟩ : ∃ t, L[i] = t := ⟨_, rfl⟩
      have hpl : p < t.tk.length := ht ▸ HP.out _ (List.getElem_mem hlt)
      have hct := HC.out _ (List.getElem_mem hlt)
      have htake : tpL (L.take (i + 1)) = tpL (L.take i) ++ [(strs t.tk, t.ct)] := by rw [tpL_take hlt, ht]
      rw [ht] at d0 d1 htr hct
      obtain ⟨ya, yn, yc, hyv⟩ := htr.form
      have hyn : yn = t.tk.length := by
        have h := htr.1
        rw [hyv] at h
        obtain ⟨_, _, _, hv, _⟩ := h
        injection hv
      subst hyn
      rw [hyv] at d0
      have htr1 := htr.1.str
      rw [hyv] at htr1
      obtain ⟨b2, o2, rfl, _, s0⟩ := str_at htr1 hpl
      obtain ⟨s, hs⟩ : ∃ s, t.tk[p] = s := ⟨_, rfl⟩
      rw [hs] at s0
      have hkA : tkA p (strs t.tk, t.ct) = lb s := by rw [tk_get hpl, hs]
      obtain ⟨ct, hcte⟩ : ∃ x, x = t.ct := ⟨_, rfl⟩
      rw [← hcte] at d1 hct htake hkA
      have hptl : (t.tk.length : Int) ≤ 1048576 := by have := htr.2; omega
      have HTAKE := keep htake
      have HKA := keep hkA
      have j1 : (i : Int) < (L.length : Int) := by omega
      have j2 : (i : Int) ≤ 100000 := by omega
      have j3 : (p : Int) < (t.tk.length : Int) := by omega
      have HCT := keep hct
      have HLC : Hid (L[i].ct = ct) := keep (by rw [ht, hcte])
      clear htake hkA hs htr htr1 hyv hct hcte ht
      cases hq : (s.toList == ([] : List UInt8)) with
      | true =>
        have HE : Hid (splA p (tpL L) = false) := keep (by
          refine spl_empty ?_
          have h1 : lb s = [] := by
            have h := eq_of_beq hq
            rwa [Lib.toList_data] at h
          have h2 : (strs t.tk, ct) ∈ tpL (L.take (i + 1)) := by rw [HTAKE.out]; simp
          have h3 : (strs t.tk, ct) ∈ tpL L := by
            unfold tpL at h2 ⊢
            obtain ⟨u, hu, e⟩ := List.mem_map.1 h2
            exact List.mem_map.2 ⟨u, List.mem_of_mem_take hu, e⟩
          exact List.mem_map.2 ⟨_, h3, by rw [HKA.out, h1]⟩)
        go_wp2_with fail
        go_ret2
        exact ⟨_, false, rfl, hB.out, fun _ => ⟨rfl, HE.out⟩, fun h => by cases h⟩
      | false =>
        have HNN : Hid (lb s ≠ []) := keep (fun e => by
          have : (s.toList == ([] : List UInt8)) = true := by rw [Lib.toList_data, show s.data.toList = [] from e]; rfl
          rw [hq] at this
          cases this)
        go_wp2_with fail
        go_loopw [9] (fun u9 wr => ∃ k : Nat, k ≤ A.length ∧ u9 = .int .i64 k ∧ Hid (∀ j, (h : j < A.length) → j < k → hd1 A[j] ≠ lb s) ∧ wr = wo) (fun u9 _ => A.length - (intOf u9).toNat)
        case atStart => exact ⟨0, Nat.zero_le _, rfl, keep (fun j _ h => absurd h (by omega)), rfl⟩
        case round =>
          obtain ⟨k, hk, rfl, hno, rfl⟩ := hrel
          by_cases hkl : k < A.length
          · obtain ⟨b4, o4, hAe, _, e0, e1⟩ := tm_cells (Sl.of_own hO.out) hkl
            subst hAe
            obtain ⟨zt, hzt, hzo⟩ := hTk.out _ (List.getElem_mem hkl)
            obtain ⟨gz, cz, hgz⟩ : ∃ g cap, A[k].tv = .slice (some ⟨g, 0, none⟩) 1 cap := by
              rcases hzo.2 with ⟨_, hz⟩ | ⟨g, cap, cur, hv, _⟩
              · omega
              · exact ⟨g, cap, hv⟩
            rw [hgz] at e0 hzo
            have z0 : wr.cell? ⟨gz, 0, none⟩ = some (.string zt) := (own_cell hzo rfl 0 (by omega)).trans rfl
            have hhd : hd1 A[k] = lb zt := by unfold hd1; rw [hzt]; rfl
            have HHD := keep hhd
            have k1 : (k : Int) < (A.length : Int) := by omega
            have k2 : (k : Int) ≤ 4 := by omega
            clear hzo hgz hhd hzt
            cases hz : (zt.toList == s.toList) with
            | false =>
              have hz2 : (zt.toList != s.toList) = true := by rw [bne, hz]; rfl
              have HN1 : Hid (∀ j, (h : j < A.length) → j < k + 1 → hd1 A[j] ≠ lb s) := keep (fun j h hj => by
                by_cases e : j = k
                · subst e
                  rw [HHD.out]
                  intro e2
                  have : (zt.toList == s.toList) = true := by rw [beq_lb]; exact decide_eq_true e2
                  rw [this] at hz
                  cases hz
                · exact hno.out j h (by omega))
              go_wp2_with fail
              go_roundw
              case rel => exact ⟨k + 1, by omega, by go_num, HN1, trivial⟩
              case measure => simp [intOf]; omega
            | true =>
              have hz2 : (zt.toList != s.toList) = false := by rw [bne, hz]; rfl
              have HEQ : Hid (hd1 A[k] = lb s) := keep (by
                rw [HHD.out]
                rw [beq_lb] at hz
                exact of_decide_eq_true hz)
              have hne : ((k : Int) == (A.length : Int)) = false := by
                have : ¬ (k : Int) = (A.length : Int) := by omega
                simpa using this
              have hctp := (HCT.out).1
              have hctm := (HCT.out).2
              obtain ⟨hD2, hE2⟩ := words_set (t := (strs t.tk, ct)) hAE.out hD.out hTk.out hkl (by rw [HEQ.out, HKA.out]) (by simp only; omega)
              rw [← HTAKE.out] at hD2 hE2
              have hb1 : 0 ≤ A[k].ct ∧ A[k].ct ≤ 9223372036854775807 := by
                have hk3 : k < ws.length := by rw [← tk_hd hAE.out]; exact hkl
                have hcc := (tk_at hAE.out hTk.out hkl hk3).2.2
                have h := sat_bd (show 0 ≤ sumC (partA p ws[k] (tpL (L.take i))) from sumC_pos (fun u hu => (HC.out.take i).pos u ((List.mem_filter.1 hu).1)))
                rw [← hcc] at h
                exact ⟨h.1, h.2.1⟩
              obtain ⟨g, hgA⟩ : ∃ g cap, Value.slice (some ⟨b4, o4, none⟩) A.length ca = .slice (some ⟨g, 0, none⟩) A.length cap := by
                rcases hO.out.2 with ⟨_, hz⟩ | ⟨g, cap, cur, hv, _⟩
                · omega
                · exact ⟨g, cap, hv⟩
              obtain ⟨cap, hgA⟩ := hgA
              injection hgA with hgA _ hcap
              injection hgA with hgA
              injection hgA with hb4 ho4 _
              subst hb4
              subst ho4
              subst hcap
              have f1 : wr.frozen? ⟨b4, k * 2 + 1, none⟩ = false := own_frozen hO.out rfl _
              simp only [Nat.zero_add] at e0 e1
              have hst := own_store hO.out rfl (k * 2 + 1) (.int .i64 (sat (A[k].ct + ct)))
              rw [tms_set hkl] at hst
              have hgr : wr.grownBy (wr.setCell ⟨b4, k * 2 + 1, none⟩ (.int .i64 (sat (A[k].ct + ct)))) (some b4) := grownBy_set (World.grownBy.refl wr (some b4)) _ _
              have hTs : ∀ u ∈ A, TkO (wr.setCell ⟨b4, k * 2 + 1, none⟩ (.int .i64 (sat (A[k].ct + ct)))) w.heap.size u := fun u hu => (hTk.out u hu).row hO.out hgr
              have hbw : Below w.heap.size w (wr.setCell ⟨b4, k * 2 + 1, none⟩ (.int .i64 (sat (A[k].ct + ct)))) := below_grown hB.out hgr hB.out.size (hO.out.lt b4 rfl).1
              have hall : ∀ u ∈ A.set k ⟨A[k].tv, A[k].tk, sat (A[k].ct + ct)⟩, TkO (wr.setCell ⟨b4, k * 2 + 1, none⟩ (.int .i64 (sat (A[k].ct + ct)))) w.heap.size u := fun u hu => by
                rcases List.mem_or_eq_of_mem_set hu with hu | rfl
                · exact hTs u hu
                · exact hTs A[k] (List.getElem_mem hkl)
              have hlen : (A.set k ⟨A[k].tv, A[k].tk, sat (A[k].ct + ct)⟩).length = A.length := List.length_set
              obtain ⟨A2, hA2⟩ : ∃ A2, A2 = A.set k ⟨A[k].tv, A[k].tk, sat (A[k].ct + ct)⟩ := ⟨_, rfl⟩
              rw [← hA2] at hst hE2 hall hlen
              obtain ⟨x, hx⟩ : ∃ x, x = A[k].ct := ⟨_, rfl⟩
              rw [← hx] at e1 hst hbw hall hb1
              have HST := keep hst
              have HE2 := keep hE2
              have HD2 := keep hD2
              have HALL := keep hall
              have HBW := keep hbw
              have HL2 := keep hlen
              have HSUM := keep (rSum_any x ct wr.drew (by omega) (by omega) (by omega) (by omega))
              have hl4 : ¬ (4 : Int) < (A.length : Int) := by omega
              clear hst hE2 hD2 hall hbw hlen hA2 hx hgr hTs hO hTk hD hAE
              go_wp2_with fail
              refine wp_region_still_tail 15 (by kernel_rfl) (by kernel_rfl) ?_
              simp only [List.take_succ_cons, List.take_zero, List.drop_succ_cons, List.drop_zero]
              iterate 12 still_step
              still_call HSUM.out
              iterate 2 still_step
              refine wpStill_nil ?_
              change wpList _ _ _ _ _ wr.drew
              go_wp2_with fail
              refine ⟨⟨i + 1, A2, ws, some ⟨b4, 0, none⟩, ca, by omega, rfl, by rw [HL2.out], by rw [HL2.out]; omega, keep (by rw [HL2.out]; exact HST.out), HALL, HD2, HE2, hNE, keep HBW.out.drew⟩, ?_⟩
              simp [intOf]
              omega
          · obtain rfl : k = A.length := by omega
            have hne : ((A.length : Int) == (A.length : Int)) = true := by simp
            have hctp := (HCT.out).1
            have hctm := (HCT.out).2
            have hbA : Below wr.heap.size wr (wr.alloc (.cells #[.string s] 9)) := (Below.refl _ wr).alloc (Nat.le_refl _) _
            have ho6 : (wr.alloc (.cells #[.string s] 9)).ownsRow w.heap.size 9 1 (.slice (some ⟨wr.heap.size, 0, none⟩) 1 1) 1 [.string s] := own_mk (cur := #[.string s]) hB.out.size (Blk.new wr _ _) (Nat.le_refl 1) (by unfold maxLen; omega) rfl
            have HOa := keep (own_bel hO.out hbA)
            have HTa : Hid (∀ u ∈ A, TkO (wr.alloc (.cells #[.string s] 9)) w.heap.size u) := keep (fun u hu => (hTk.out u hu).up hbA)
            have HNa := keep ho6
            have HBa := keep (hB.out.trans (hbA.mono hB.out.size))
            have hbz : w.heap.size ≤ (wr.alloc (.cells #[.string s] 9)).heap.size := HBa.out.size
            have hx1 : ∀ c ∈ (Value.agg #[.slice (some ⟨wr.heap.size, 0, none⟩) 1 1, .int .i64 0]).cells.toList, c.oneCell' = true := by
              intro c hc
              simp [Value.cells] at hc
              rcases hc with rfl | rfl <;> rfl
            have HX1 := keep hx1
            clear hbA ho6 hx1
            go_wp2_with (refine wpList_push elTm rfl rfl (.tmp 50) (.tmp 47) 51 rfl rfl rfl w.heap.size (.slice Aa A.length ca) (.agg #[.slice (some ⟨wr.heap.size, 0, none⟩) 1 1, .int .i64 0]) A.length (tms A) ?_ ?_ ?_ ?_ ?_ ?_ ?_ ?_ ?_ ?_ ?_)
            case refine_1 => rfl
            case refine_2 => intro q; rfl
            case refine_3 => intro q; rfl
            case refine_4 => exact HOa.out
            case refine_5 => rfl
            case refine_6 => exact HX1.out
            case refine_7 => decide
            case refine_8 => unfold maxLen; omega
            case refine_9 => omega
            case refine_10 => exact hbz
            case refine_11 =>
              intro g cap w9 hown9 hb9 hg9 hn9 hgl9
              have ho9 : w9.ownsRow w.heap.size 32 2 (.slice (some ⟨g, 0, none⟩) (A ++ [(⟨.slice (some ⟨wr.heap.size, 0, none⟩) 1 1, [s], 0⟩ : Tm)]).length cap) (A ++ [(⟨.slice (some ⟨wr.heap.size, 0, none⟩) 1 1, [s], 0⟩ : Tm)]).length (tms (A ++ [(⟨.slice (some ⟨wr.heap.size, 0, none⟩) 1 1, [s], 0⟩ : Tm)])) := by
                rw [List.length_append, tms_append]
                exact hown9
              have hB9 := HBa.out.trans hb9
              have hT9 : ∀ u ∈ A ++ [(⟨.slice (some ⟨wr.heap.size, 0, none⟩) 1 1, [s], 0⟩ : Tm)], TkO w9 w.heap.size u := fun u hu => by
                rcases List.mem_append.1 hu with h | h
                · exact (HTa.out u h).row HOa.out hg9
                · rw [List.mem_singleton.1 h]
                  exact TkO.row (t := ⟨.slice (some ⟨wr.heap.size, 0, none⟩) 1 1, [s], 0⟩) ⟨s, rfl, HNa.out⟩ HOa.out hg9
              have hlen1 : (A ++ [(⟨.slice (some ⟨wr.heap.size, 0, none⟩) 1 1, [s], 0⟩ : Tm)]).length = A.length + 1 := by simp
              obtain ⟨b9, o9, hAe9, _, _, q9⟩ := tm_cells (HS.out.below hB9 (Nat.le_refl _)) hlt
              injection hAe9 with hAe9
              injection hAe9 with e1 e2 _
              rw [← e1, ← e2, HLC.out] at q9
              have hkl : A.length < (A ++ [(⟨.slice (some ⟨wr.heap.size, 0, none⟩) 1 1, [s], 0⟩ : Tm)]).length := by omega
              have c9 : w9.cell? ⟨g, A.length * 2 + 1, none⟩ = some (.int .i64 0) := by
                rw [own_cell ho9 rfl (A.length * 2 + 1) (by omega), tms_at _ _ hkl 1 (by omega)]
                simp [tmV]
              have f9 : w9.frozen? ⟨g, A.length * 2 + 1, none⟩ = false := own_frozen ho9 rfl _
              have hst := own_store ho9 rfl (A.length * 2 + 1) (.int .i64 (sat ct))
              rw [tms_set hkl] at hst
              have hset : (A ++ [(⟨.slice (some ⟨wr.heap.size, 0, none⟩) 1 1, [s], 0⟩ : Tm)]).set A.length ⟨((A ++ [(⟨.slice (some ⟨wr.heap.size, 0, none⟩) 1 1, [s], 0⟩ : Tm)])[A.length]).tv, ((A ++ [(⟨.slice (some ⟨wr.heap.size, 0, none⟩) 1 1, [s], 0⟩ : Tm)])[A.length]).tk, sat ct⟩ = A ++ [⟨.slice (some ⟨wr.heap.size, 0, none⟩) 1 1, [s], sat ct⟩] := by simp
              rw [hset] at hst
              have hgr : w9.grownBy (w9.setCell ⟨g, A.length * 2 + 1, none⟩ (.int .i64 (sat ct))) (some g) := grownBy_set (World.grownBy.refl w9 (some g)) _ _
              have hall : ∀ u ∈ A ++ [(⟨.slice (some ⟨wr.heap.size, 0, none⟩) 1 1, [s], sat ct⟩ : Tm)], TkO (w9.setCell ⟨g, A.length * 2 + 1, none⟩ (.int .i64 (sat ct))) w.heap.size u := fun u hu => by
                rcases List.mem_append.1 hu with h | h
                · exact (hT9 u (List.mem_append_left _ h)).row ho9 hgr
                · rw [List.mem_singleton.1 h]
                  have h2 := hT9 ⟨.slice (some ⟨wr.heap.size, 0, none⟩) 1 1, [s], 0⟩ (by simp)
                  exact TkO.row (t := ⟨.slice (some ⟨wr.heap.size, 0, none⟩) 1 1, [s], sat ct⟩) h2 ho9 hgr
              have hbw : Below w.heap.size w (w9.setCell ⟨g, A.length * 2 + 1, none⟩ (.int .i64 (sat ct))) := below_grown hB9 hgr hB9.size (ho9.lt g rfl).1
              obtain ⟨hD2, hE2⟩ := words_new (t := (strs t.tk, ct)) (v := .slice (some ⟨wr.heap.size, 0, none⟩) 1 1) (s := s) (c := sat ct) hAE.out hD.out hTk.out (fun j hj => by rw [HKA.out]; exact hno.out j hj hj) HKA.out.symm (by rw [Int.zero_add])
              rw [← HTAKE.out] at hD2 hE2
              have hlen2 : (A ++ [(⟨.slice (some ⟨wr.heap.size, 0, none⟩) 1 1, [s], sat ct⟩ : Tm)]).length = A.length + 1 := by simp
              rw [hlen1] at hst
              obtain ⟨A2, hA2⟩ : ∃ A2, A2 = A ++ [(⟨.slice (some ⟨wr.heap.size, 0, none⟩) 1 1, [s], sat ct⟩ : Tm)] := ⟨_, rfl⟩
              rw [← hA2] at hst hE2 hall hlen2
              have HST := keep hst
              have HE2 := keep hE2
              have HD2 := keep hD2
              have HALL := keep hall
              have HBW := keep hbw
              have HL2 := keep hlen2
              have hNE2 : [] ∉ ws ++ [tkA p (strs t.tk, ct)] := by
                rw [List.mem_append, List.mem_singleton]
                rintro (h | h)
                · exact hNE.out h
                · exact HNN.out (by rw [← HKA.out]; exact h.symm)
              have HNE2 := keep hNE2
              have HWL := keep (tk_hd hAE.out)
              have hsum := rSum_any 0 ct w9.drew (by omega) (by omega) (by omega) (by omega)
              rw [Int.zero_add] at hsum
              have HSUM := keep hsum
              clear hsum
              have h41 : (A.length : Int) + 1 ≤ 5 := by omega
              have hA1I : (A.length : Int) < (A.length : Int) + 1 := by omega
              clear hst hE2 hD2 hall hbw hlen2 hlen1 hA2 hgr hset hT9 hB9 ho9 hown9 hb9 hg9 hn9 hgl9 hkl e1 e2 hNE2 hO hTk hD hAE hno HOa HTa HNa HBa HX1
              go_wp2_with fail
              refine wp_region_still_tail 15 (by kernel_rfl) (by kernel_rfl) ?_
              simp only [List.take_succ_cons, List.take_zero, List.drop_succ_cons, List.drop_zero]
              iterate 12 still_step
              still_call HSUM.out
              iterate 2 still_step
              refine wpStill_nil ?_
              change wpList _ _ _ _ _ w9.drew
              by_cases h5 : A.length = 4
              · have h4g : (4 : Int) < (A.length : Int) + 1 := by omega
                have H5 := keep h5
                clear h5
                have HSF : Hid (splA p (tpL L) = false) := keep (by
                  have e : tpL L = tpL (L.take (i + 1)) ++ tpL (L.drop (i + 1)) := by
                    unfold tpL
                    rw [← List.map_append, List.take_append_drop]
                  rw [e]
                  refine spl_many HD2.out ?_
                  rw [List.length_append, ← HWL.out]
                  have := H5.out
                  simp
                  omega)
                go_wp2_with fail
                go_ret2
                exact ⟨_, false, rfl, HBW.out.drew, fun _ => ⟨rfl, HSF.out⟩, fun h => by cases h⟩
              · have h4g : ¬ (4 : Int) < (A.length : Int) + 1 := by omega
                go_wp2_with fail
                refine ⟨⟨i + 1, A2, _, some ⟨g, 0, none⟩, cap, by omega, rfl, by rw [HL2.out], by rw [HL2.out]; omega, keep (by rw [HL2.out]; exact HST.out), HALL, HD2, HE2, HNE2, keep HBW.out.drew⟩, ?_⟩
                simp [intOf]
                omega
    · obtain rfl : i = L.length := by omega
      have HD2 : Hid (DtW p (tpL L) ws) := keep (by have h := hD.out; rwa [List.take_length] at h)
      have HA2 : Hid (tpL A = aOf p (tpL L) ws) := keep (by have h := hAE.out; rwa [List.take_length] at h)
      go_wp2_with fail
      go_ret2
      exact ⟨_, true, rfl, hB.out, (fun h => by cases h), fun _ => ⟨A, ws, hO.out, hTk.out, HD2.out, HA2.out, hNE.out, by rw [← tk_hd HA2.out]; exact hA4⟩⟩
end Go.Proofs.YtigogjlbemkhdaaGreat
namespace Go.Proofs.YtigogjlbemkhdaaGreat
open Go.RowKit
variable {oB : Nat}
/-- What position gives: the first place at which a group is split, and the tokens there. -/
def PosOut (n : Nat) (l : List TP) (w : World) (x : Ending) (w' : World) : Prop :=
  ∃ (q : Nat) (v' : Value) (ok : Bool), x = .returned (.tuple #[.int .i64 q, v', .bool ok]) ∧ Below w.heap.size w w' ∧ (ok = false → posA n l = none) ∧
    (ok = true → posA n l = some q ∧ ∃ (A : List Tm) (ws : List (List UInt8)), w'.ownsRow w.heap.size 32 2 v' A.length (tms A) ∧ (∀ t ∈ A, TkO w' w.heap.size t) ∧ DtW q l ws ∧ tpL A = aOf q l ws)
theorem spl_dtw {p : Nat} {l : List TP} {ws : List (List UInt8)} (h : DtW p l ws) (hne : [] ∉ ws) (h4 : ws.length ≤ 4) : splA p l = true ↔ 2 ≤ ws.length ∧ ∀ w ∈ ws, 2 ≤ sumC (partA p w l) := by
  unfold splA
  rw [Bool.and_eq_true, Bool.and_eq_true, decide_eq_true_eq, decide_eq_true_eq, List.all_eq_true, ← h.perm.length_eq]
  simp only [Bool.and_eq_true, decide_eq_true_eq]
  constructor
  · rintro ⟨⟨h1, _⟩, h3⟩
    exact ⟨h1, fun w hw => (h3 w (h.perm.mem_iff.1 hw)).2⟩
  · rintro ⟨h1, h2⟩
    refine ⟨⟨h1, h4⟩, fun w hw => ?_⟩
    have hw2 := h.perm.mem_iff.2 hw
    exact ⟨fun e => hne (e ▸ hw2), h2 w hw2⟩
set_option maxHeartbeats 8000000 in
theorem position_any (v : Value) (L : List Tm) (n : Nat) (w : World) (hs : Sl w (lt w.heap.size) 2 v L.length (tms L)) (hT : ∀ t ∈ L, TkR oB w t ∧ t.tk.length = n) (hne : L ≠ []) (hn6 : n ≤ 60) (hc : CtOk L) (hm : L.length ≤ 100000) :
    Calls Tryz.prog 78 #[v] w (PosOut n (tpL L) w) := by
  obtain ⟨A0, c0, rfl, _, hs⟩ := hs.form
  have hl0 : 0 < L.length := List.length_pos_iff.2 hne
  have HS := keep hs
  have HT := keep hT
  have HC := keep hc
  have HWD := keep fun (p : Nat) (hp : p < n) (W : World) (h : Below w.heap.size w W) => words_any (.slice A0 L.length c0) L p W ((hs.below h (Nat.le_refl _)).more h.size) (fun t ht => (hT t ht).1.up h) (fun t ht => by rw [(hT t ht).2]; exact hp) hc hm
  clear hs hT hc
  go_enter Tryz.func78, Tryz.ntmps78
  go_wp2_with fail
  go_loopw [5, 6, 7, 8] (fun u5 _ _ _ wr => ∃ p : Nat, p ≤ n ∧ u5 = .int .i64 p ∧ Hid (∀ j, j < p → splA j (tpL L) = false) ∧ Hid (Below w.heap.size w wr)) (fun u5 _ _ _ _ => n - (intOf u5).toNat)
  case atStart => exact ⟨0, Nat.zero_le _, rfl, keep (fun j h => absurd h (by omega)), keep (Below.refl _ _)⟩
  case round =>
    obtain ⟨p, hp, rfl, hno, hB⟩ := hrel
    obtain ⟨wo, rfl⟩ : ∃ wo : World, wo = wr := ⟨_, rfl⟩
    obtain ⟨b1, o1, rfl, _, d0, _⟩ := tm_cells (HS.out.below hB.out (Nat.le_refl _)) hl0
    have htr := (HT.out _ (List.getElem_mem hl0)).1
    have htn := (HT.out _ (List.getElem_mem hl0)).2
    obtain ⟨ya, yn, yc, hyv⟩ := htr.form
    have hyn : yn = n := by
      have h := htr.1
      rw [hyv, htn] at h
      obtain ⟨_, _, _, hv, _⟩ := h
      injection hv
    subst hyn
    rw [hyv] at d0
    simp only [Nat.zero_mul, Nat.add_zero] at d0
    have hl0I : (0 : Int) < (L.length : Int) := by omega
    clear htr htn hyv
    by_cases hlt : p < yn
    · have HW1 := keep (HWD.out p hlt wo hB.out)
      have j1 : (p : Int) < (yn : Int) := by omega
      have j2 : (p : Int) ≤ 60 := by omega
      go_wp2_with fail
      refine HW1.out.mono ?_
      rintro e w2 ⟨v2, ok, rfl, hb2, hf2, ht2⟩
      have HB2 := keep (hB.out.trans (hb2.mono hB.out.size))
      cases ok with
      | false =>
        obtain ⟨rfl, hsf⟩ := hf2 rfl
        have HN : Hid (∀ j, j < p + 1 → splA j (tpL L) = false) := keep (fun j hj => by
          by_cases e : j = p
          · rw [e]; exact hsf
          · exact hno.out j (by omega))
        clear hf2 ht2 hb2 HW1 hsf
        go_wp2_with fail
        go_roundw
        case rel => exact ⟨p + 1, by omega, by go_num, HN, HB2⟩
        case measure => simp [intOf]; omega
      | true =>
        obtain ⟨A, ws, hO, hTk, hD, hE, hNE, h4⟩ := ht2 rfl
        obtain ⟨Aa, ca, rfl, _⟩ := own_sl hO
        have hAl := tk_hd hE
        have HSP := keep (spl_dtw hD hNE h4)
        have HO := keep (own_base hO hB.out.size)
        have HTk : Hid (∀ t ∈ A, TkO w2 w.heap.size t) := keep (fun t ht => by
          obtain ⟨b, q1, q2⟩ := hTk t ht
          exact ⟨b, q1, own_base q2 hB.out.size⟩)
        have HD := keep hD
        have HE := keep hE
        have HAT := keep (fun (k : Nat) (hk : k < A.length) (hk2 : k < ws.length) => (tk_at hE hTk hk hk2).2.2)
        have HAL := keep hAl
        have hA4 : A.length ≤ 4 := by omega
        clear hf2 ht2 hb2 HW1 hO hTk hD hE hNE h4 hAl
        by_cases h2 : A.length < 2
        · have HN : Hid (∀ j, j < p + 1 → splA j (tpL L) = false) := keep (fun j hj => by
            by_cases e : j = p
            · rw [e]
              cases hq : splA p (tpL L) with
              | false => rfl
              | true =>
                have h := (HSP.out.1 hq).1
                rw [← HAL.out] at h
                omega
            · exact hno.out j (by omega))
          have h2I : (A.length : Int) < 2 := by omega
          go_wp2_with fail
          go_roundw
          case rel => exact ⟨p + 1, by omega, by go_num, HN, HB2⟩
          case measure => simp [intOf]; omega
        · have h2I : ¬ (A.length : Int) < 2 := by omega
          go_wp2_with fail
          go_loopw [7, 8] (fun u7 u8 wr => ∃ (k : Nat) (b : Bool), k ≤ A.length ∧ u8 = .int .i64 k ∧ u7 = .bool b ∧ Hid (b = true ↔ ∀ j, (h : j < A.length) → j < k → 2 ≤ A[j].ct) ∧ wr = w2) (fun _ u8 _ => A.length - (intOf u8).toNat)
          case atStart => exact ⟨0, true, Nat.zero_le _, rfl, rfl, keep (by simp), rfl⟩
          case round =>
            obtain ⟨k, b, hk, rfl, rfl, hb, rfl⟩ := hrel
            by_cases hkl : k < A.length
            · obtain ⟨b4, o4, rfl, _, _, e1⟩ := tm_cells (Sl.of_own HO.out) hkl
              obtain ⟨x, hx⟩ : ∃ x, x = A[k].ct := ⟨_, rfl⟩
              rw [← hx] at e1
              have k1 : (k : Int) < (A.length : Int) := by omega
              have k2 : (k : Int) ≤ 4 := by omega
              have HX := keep hx
              clear hx
              cases b with
              | false =>
                have HB1 : Hid (false = true ↔ ∀ j, (h : j < A.length) → j < k + 1 → 2 ≤ A[j].ct) := keep (by
                  refine ⟨(fun h => by cases h), fun h => hb.out.2 fun j hj hjk => h j hj (by omega)⟩)
                go_wp2_with fail
                go_roundw
                case rel => exact ⟨k + 1, false, by omega, by go_num, rfl, HB1, trivial⟩
                case measure => simp [intOf]; omega
              | true =>
                by_cases hx2 : 2 ≤ x
                · have HB1 : Hid (true = true ↔ ∀ j, (h : j < A.length) → j < k + 1 → 2 ≤ A[j].ct) := keep (by
                    refine ⟨fun _ j hj hjk => ?_, fun _ => rfl⟩
                    by_cases e : j = k
                    · subst e; rw [← HX.out]; exact hx2
                    · exact hb.out.1 rfl j hj (by omega))
                  go_wp2_with fail
                  go_roundw
                  case rel => exact ⟨k + 1, true, by omega, by go_num, rfl, HB1, trivial⟩
                  case measure => simp [intOf]; omega
                · have HB1 : Hid (false = true ↔ ∀ j, (h : j < A.length) → j < k + 1 → 2 ≤ A[j].ct) := keep (by
                    refine ⟨(fun h => by cases h), fun h => absurd (h k hkl (by omega)) (by rw [← HX.out]; exact hx2)⟩)
                  go_wp2_with fail
                  go_roundw
                  case rel => exact ⟨k + 1, false, by omega, by go_num, rfl, HB1, trivial⟩
                  case measure => simp [intOf]; omega
            · obtain rfl : k = A.length := by omega
              have hall : (∀ j, (h : j < A.length) → 2 ≤ A[j].ct) ↔ splA p (tpL L) = true := by
                rw [HSP.out, ← HAL.out]
                constructor
                · refine fun h => ⟨by omega, fun u hu => ?_⟩
                  obtain ⟨j, hj, rfl⟩ := List.getElem_of_mem hu
                  have hjA : j < A.length := by rw [HAL.out]; exact hj
                  have h3 := h j hjA
                  rw [HAT.out j hjA hj] at h3
                  unfold sat MAXI at h3
                  omega
                · rintro ⟨_, h⟩ j hj
                  have hj2 : j < ws.length := by rw [← HAL.out]; exact hj
                  rw [HAT.out j hj hj2]
                  have h3 := h _ (List.getElem_mem hj2)
                  unfold sat MAXI
                  omega
              have HALL := keep hall
              clear hall
              cases b with
              | true =>
                have HY : Hid (posA yn (tpL L) = some p) := keep (posA_some hno.out hlt (HALL.out.1 fun j hj => hb.out.1 rfl j hj hj))
                go_wp2_with fail
                go_ret3
                exact ⟨p, _, true, rfl, HB2.out, (fun h => by cases h), fun _ => ⟨HY.out, A, ws, HO.out, HTk.out, HD.out, HE.out⟩⟩
              | false =>
                have HN : Hid (∀ j, j < p + 1 → splA j (tpL L) = false) := keep (fun j hj => by
                  by_cases e : j = p
                  · rw [e]
                    cases hq : splA p (tpL L) with
                    | false => rfl
                    | true =>
                      have h := hb.out.2 fun j hj _ => HALL.out.2 hq j hj
                      cases h
                  · exact hno.out j (by omega))
                go_wp2_with fail
                go_roundw
                case rel => exact ⟨p + 1, by omega, by go_num, HN, HB2⟩
                case measure => simp [intOf]; omega
    · obtain rfl : p = yn := by omega
      have HN : Hid (posA p (tpL L) = none) := keep (posA_none hno.out)
      go_wp2_with fail
      go_ret3
      exact ⟨0, _, false, rfl, hB.out, (fun _ => HN.out), fun h => by cases h⟩
end Go.Proofs.YtigogjlbemkhdaaGreat
namespace Go.Proofs.YtigogjlbemkhdaaGreat
open Go.RowKit
theorem filter_len {α : Type} (q : α → Bool) : ∀ l : List α, l.length = (l.filter q).length + (l.filter fun x => !q x).length
  | [] => rfl
  | x :: l => by
    have ih := filter_len q l
    cases h : q x <;> simp [h] <;> omega
theorem srt_ltT {L : List Tm} (h : Srt (tpL L)) {a b : Nat} (hab : a < b) (hb : b < L.length) : cmpT (strs L[a].tk) (strs L[b].tk) < 0 := by
  have := List.pairwise_iff_getElem.1 h a b (by simp [tpL]; omega) (by simp [tpL]; omega) hab
  simpa [tpL] using this
/-- Srt of a list with one more element put in its place. -/
theorem srt_ins {L : List Tm} {t : Tm} {k : Nat} (hs : Srt (tpL L)) (hk : k ≤ L.length) (h1 : insPre L t k) (h2 : ∀ (j : Nat) (h : j < L.length), j + 1 = k → ¬ cmpT (strs t.tk) (strs L[j].tk) < 0) (hne : ∀ u ∈ L, t.tk ≠ u.tk) : Srt (tpL (insRow L k t)) := by
  have hlow : ∀ j, (h : j < L.length) → j < k → cmpT (strs L[j].tk) (strs t.tk) < 0 := fun j h hj => by
    have hk1 : k - 1 < L.length := by omega
    have h3 := h2 (k - 1) hk1 (by omega)
    have h4 : cmpT (strs L[k - 1].tk) (strs t.tk) < 0 := by
      have h5 : cmpT (strs t.tk) (strs L[k - 1].tk) ≠ 0 := fun e => hne _ (List.getElem_mem hk1) (strs_inj (cmpT_eq.1 e))
      exact cmpT_flip.2 (by omega)
    by_cases e : j = k - 1
    · subst e; exact h4
    · exact cmpT_trans (srt_ltT hs (show j < k - 1 by omega) hk1) h4
  have e : tpL (insRow L k t) = tpL (L.take k) ++ ((strs t.tk, t.ct) :: tpL (L.drop k)) := by
    unfold insRow tpL
    rw [List.append_assoc, List.map_append, List.map_append]
    rfl
  rw [e]
  have e2 : tpL L = tpL (L.take k) ++ tpL (L.drop k) := by
    unfold tpL
    rw [← List.map_append, List.take_append_drop]
  rw [e2] at hs
  obtain ⟨q1, q2, q3⟩ := List.pairwise_append.1 hs
  refine List.pairwise_append.2 ⟨q1, List.pairwise_cons.2 ⟨fun b hb => ?_, q2⟩, fun a ha b hb => ?_⟩
  · obtain ⟨u, hu, rfl⟩ := List.mem_map.1 hb
    obtain ⟨j, hj, rfl⟩ := List.getElem_of_mem hu
    rw [List.length_drop] at hj
    rw [List.getElem_drop]
    exact h1 (k + j) (by omega) (by omega)
  · obtain ⟨u, hu, rfl⟩ := List.mem_map.1 ha
    obtain ⟨j, hj, rfl⟩ := List.getElem_of_mem hu
    rw [List.length_take] at hj
    rcases List.mem_cons.1 hb with rfl | hb
    · rw [List.getElem_take]
      exact hlow j (by omega) (by omega)
    · exact q3 _ ha b hb
theorem rest_len {p : Nat} {l : List TP} {ws : List (List UInt8)} {i : Nat} (hn : ws.Nodup) (hi : i < ws.length) : (restA p (ws.take i) l).length = (partA p ws[i] l).length + (restA p (ws.take (i + 1)) l).length := by
  have hnot : ws[i] ∉ ws.take i := by
    intro hin
    obtain ⟨j, hj, e⟩ := List.getElem_of_mem hin
    rw [List.length_take] at hj
    rw [List.getElem_take] at e
    exact List.pairwise_iff_getElem.1 hn j i (by omega) hi (by omega) e
  have h1 := (rest_part (l := l) (p := p) (List.Perm.refl (restA p (ws.take i) l)) hnot).length_eq
  have h2 := (rest_rest (l := l) (p := p) (S := ws.take i) (w := ws[i]) (List.Perm.refl _)).length_eq
  rw [List.take_succ_eq_append_getElem hi, ← h2, ← h1]
  exact filter_len _ _
def NotIn (O : List Tm) (P : List TP) : Prop := ∀ r ∈ P, ∀ t ∈ O, strs t.tk ≠ r.1
theorem notin_step {F : List UInt8 → List TP} {ws : List (List UInt8)} {i : Nat} (hi : i < ws.length) {Oi O : List Tm} {Q : List TP} (hP : (tpL Oi).Perm (tpL O ++ (ws.take i).flatMap F)) (hQ : (ws.flatMap F).Perm Q) (hN : ((ws.flatMap F).map (·.1)).Nodup) (hO : NotIn O Q) : NotIn Oi (F ws[i]) := by
  intro r hr t ht e
  have hin : r ∈ ws.flatMap F := List.mem_flatMap.2 ⟨_, List.getElem_mem hi, hr⟩
  have h1 : (strs t.tk, t.ct) ∈ tpL Oi := List.mem_map.2 ⟨t, ht, rfl⟩
  rcases List.mem_append.1 (hP.mem_iff.1 h1) with h | h
  · obtain ⟨u, hu, e2⟩ := List.mem_map.1 h
    injection e2 with e2 _
    exact hO r (hQ.mem_iff.1 hin) u hu (e2.trans e)
  · have hsp : ws = ws.take i ++ ws[i] :: ws.drop (i + 1) := by rw [← List.drop_eq_getElem_cons hi, List.take_append_drop]
    rw [hsp, List.flatMap_append, List.map_append, List.nodup_append] at hN
    refine hN.2.2 (strs t.tk) (List.mem_map.2 ⟨_, h, rfl⟩) r.1 (List.mem_map.2 ⟨r, ?_, rfl⟩) e
    rw [List.flatMap_cons]
    exact List.mem_append_left _ hr
theorem perm_step {F : List UInt8 → List TP} {ws : List (List UInt8)} {i : Nat} (hi : i < ws.length) {a b O : List TP} (ha : a.Perm (O ++ (ws.take i).flatMap F)) (hb : b.Perm (a ++ F ws[i])) : b.Perm (O ++ (ws.take (i + 1)).flatMap F) := by
  rw [List.take_succ_eq_append_getElem hi, List.flatMap_append, List.flatMap_cons, List.flatMap_nil, List.append_nil, ← List.append_assoc]
  exact hb.trans (ha.append_right _)
theorem ins_perm (L : List Tm) (k : Nat) (t : Tm) : (tpL (insRow L k t)).Perm (tpL L ++ [(strs t.tk, t.ct)]) := by
  have e2 : tpL L = tpL (L.take k) ++ tpL (L.drop k) := by
    unfold tpL
    rw [← List.map_append, List.take_append_drop]
  rw [e2]
  unfold insRow tpL
  rw [List.map_append, List.map_append, List.append_assoc, List.append_assoc]
  exact List.Perm.append_left _ List.perm_append_comm
/-- The token at a place of the template of the first elements. -/
def mgP (k : Nat) (l : List TP) (hd : List UInt8) : List UInt8 := if l.all (fun t => decide (tkA k t = hd)) then hd else []
theorem mgP_nil (k : Nat) (hd : List UInt8) : mgP k [] hd = hd := by simp [mgP]
theorem mgP_step {k : Nat} {l : List TP} {t : TP} {hd : List UInt8} : mgP k (l ++ [t]) hd = if tkA k t = mgP k l hd then mgP k l hd else [] := by
  unfold mgP
  rw [List.all_append]
  by_cases h : (l.all fun t => decide (tkA k t = hd)) = true
  · simp [h]
  · rw [if_neg h, if_neg (by rw [Bool.and_eq_true]; exact fun x => h x.1)]
    simp
theorem mgP_mrg {k : Nat} {l : List TP} {x : TP} (hx : x ∈ l) : mrgT k l = mgP k l (tkA k x) := by
  unfold mgP mrgT
  by_cases h : (l.all fun t => decide (tkA k t = tkA k x)) = true
  · rw [if_pos h]
    have hall : ∀ t ∈ l, tkA k t = tkA k x := by simpa using h
    have hD : DtW k l [tkA k x] := ⟨by simp, fun w => by
      rw [List.mem_singleton, List.mem_map]
      exact ⟨fun e => ⟨x, hx, e.symm⟩, fun ⟨t, ht, e⟩ => by rw [← e]; exact hall t ht⟩⟩
    rw [List.perm_singleton.1 hD.perm.symm]
    rfl
  · rw [if_neg h]
    have hex : ∃ t ∈ l, tkA k t ≠ tkA k x := by simpa using h
    obtain ⟨t, ht, hne⟩ := hex
    refine oneW_many ?_
    have h2 := nodup_le [tkA k t, tkA k x] (tksA k l) (by simp [hne]) (fun w hw => by
      simp only [List.mem_cons, List.not_mem_nil, or_false] at hw
      rcases hw with rfl | rfl
      · exact mem_tks.2 ⟨t, ht, rfl⟩
      · exact mem_tks.2 ⟨x, hx, rfl⟩)
    exact h2
theorem mrg_done {n : Nat} {l : List TP} {x : TP} (hx : x ∈ l) {R : List ByteArray} (hR : R.length = n) (h : ∀ k, (hk : k < R.length) → lb R[k] = mgP k l (tkA k x)) : (strs R, sat (sumC l)) = mrgA n l := by
  unfold mrgA
  refine Prod.ext ?_ rfl
  apply List.ext_getElem
  · simp [strs, hR]
  · intro k h1 h2
    have hk : k < R.length := by simpa [strs] using h1
    simp only [strs, List.getElem_map, List.getElem_range]
    rw [h k hk, mgP_mrg hx]
theorem tpl_none {n f : Nat} {l : List TP} (h : posA n l = none) : tplF n (f + 1) l = [mrgA n l] := by rw [tplF, h]
end Go.Proofs.YtigogjlbemkhdaaGreat
namespace Go.Proofs.YtigogjlbemkhdaaGreat
open Go.RowKit
variable {oB : Nat}
theorem own_some {w : World} {B e size n : Nat} {v : Value} {xs : List Value} (hn : 1 ≤ n) (h : w.ownsRow B e size v n xs) : ∃ g cap, v = .slice (some ⟨g, 0, none⟩) n cap := by
  rcases h.2 with ⟨_, hz⟩ | ⟨g, cap, cur, hv, _⟩
  · omega
  · exact ⟨g, cap, hv⟩
theorem tm_cellAt {w : World} {S : Nat → Prop} {b o c k : Nat} {L : List Tm} (h : Sl w S 2 (.slice (some ⟨b, o, none⟩) L.length c) L.length (tms L)) (hk : k < L.length) :
    w.cell? ⟨b, o + k * 2, none⟩ = some L[k].tv ∧ w.cell? ⟨b, o + k * 2 + 1, none⟩ = some (.int .i64 L[k].ct) := by
  obtain ⟨b', o', hA, _, d0, d1⟩ := tm_cells h hk
  injection hA with hA
  injection hA with e1 e2 _
  subst e1
  subst e2
  exact ⟨d0, d1⟩
/-- What split gives: the list with the group's templates. -/
def SplitOut (oB n f : Nat) (O L : List Tm) (w : World) (x : Ending) (w' : World) : Prop :=
  ∃ v' O', x = .returned v' ∧ MS oB w' v' O' ∧ (tpL O').Perm (tpL O ++ tplF n f (tpL L)) ∧ Srt (tpL O') ∧ O'.length ≤ O.length + L.length ∧ Below w.heap.size w w'
set_option maxHeartbeats 16000000 in
set_option maxRecDepth 100000 in
theorem split_leaf (n : Nat) (hn1 : 1 ≤ n) (hn6 : n ≤ 60) (f : Nat) (v1 v2 : Value) (O L : List Tm) (w : World) (hO : MS oB w v1 O) (hOs : Srt (tpL O)) (hL : Sl w (lt w.heap.size) 2 v2 L.length (tms L)) (hT : ∀ t ∈ L, TkR oB w t ∧ t.tk.length = n) (hc : CtOk L) (hne : L ≠ []) (hni : NotIn O (tplF n (f + 1) (tpL L))) (hb : O.length + L.length ≤ 200000) (hm : L.length ≤ 100000) (hno : posA n (tpL L) = none) :
    Calls Tryz.prog 59 #[v1, v2] w (SplitOut oB n (f + 1) O L w) := by
  obtain ⟨A1, c1, rfl, _, _⟩ := hO.1.form
  obtain ⟨A2, c2, rfl, _, hL⟩ := hL.form
  have hl0 : 0 < L.length := List.length_pos_iff.2 hne
  have HPOS := keep (position_any (.slice A2 L.length c2) L n w hL hT hne hn6 hc hm)
  have HO := keep hO
  have HOS := keep hOs
  have HL := keep hL
  have HT := keep hT
  have HC := keep hc
  have HNI := keep hni
  clear hO hOs hL hT hc hni
  go_enter Tryz.func59, Tryz.ntmps59
  go_wp2_with fail
  refine HPOS.out.mono ?_
  rintro e w2 ⟨p, vw, ok, rfl, hb2, hnone, hsome⟩
  have HB2 := keep hb2
  clear HPOS
  cases ok with
  | true => exact absurd hno (by rw [(hsome rfl).1]; simp)
  | false =>
    have HNONE := keep (hnone rfl)
    clear hsome hnone hb2
    obtain ⟨bl, ol, rfl, _, d0, d1⟩ := tm_cells (HL.out.below HB2.out (Nat.le_refl _)) hl0
    have htr := (HT.out _ (List.getElem_mem hl0)).1.up HB2.out
    have htn := (HT.out _ (List.getElem_mem hl0)).2
    obtain ⟨t0, ht0⟩ : ∃ t, L[0] = t := ⟨_, rfl⟩
    rw [ht0] at d0 htr htn
    have HM0 : Hid (t0 ∈ L) := keep (by rw [← ht0]; exact List.getElem_mem hl0)
    clear d1 ht0
    obtain ⟨tv, T, ct0⟩ := t0
    simp only at d0 htn
    obtain ⟨ya, yn, yc, hyv⟩ := htr.form
    simp only at hyv
    subst hyv
    have hyn : yn = T.length := by obtain ⟨_, _, _, hv, _⟩ := htr.1; injection hv
    subst hyn
    subst htn
    simp only [Nat.zero_mul, Nat.add_zero] at d0
    have HST := keep htr.1
    have hone := oneCells Value.string (fun _ => rfl) T
    have HON := keep hone
    have hl0I : (0 : Int) < (L.length : Int) := by omega
    have htl := htr.2
    simp only at htl
    clear htr hone
    go_wp2_with (refine wpList_appendS elSg rfl (.const (.slice none 0 0)) _ rfl w2.heap.size _ 0 [] rfl (World.ownsRow_nil _ _ _ _) _ _ T.length (T.map .string) rfl HST.out HON.out (by unfold maxLen; omega) (by omega) (Nat.le_refl _) ?_; intro v3 w3 hown3 hb3 hg3; rw [Nat.zero_add, List.nil_append] at hown3; obtain ⟨g, cg, hv⟩ := own_some hn1 hown3; subst hv)
    have hbA : Below w2.heap.size w2 (w3.alloc (.cells #[.slice (some ⟨g, 0, none⟩) T.length cg, .int .i64 0] 32)) := hb3.alloc hb3.size _
    have HOA := keep (own_bel hown3 ((Below.refl _ w3).alloc (Nat.le_refl _) (.cells #[.slice (some ⟨g, 0, none⟩) T.length cg, .int .i64 0] 32)))
    have HBK := keep (Blk.new w3 32 #[.slice (some ⟨g, 0, none⟩) T.length cg, .int .i64 0])
    have HBA := keep hbA
    obtain ⟨gd, hgd⟩ : ∃ gd, gd = w3.heap.size := ⟨_, rfl⟩
    have hgd2 : w2.heap.size ≤ gd := by rw [hgd]; exact hb3.size
    rw [← hgd] at HBK
    clear hown3 hb3 hg3 hbA d0
    go_wp2_with fail
    rw [← hgd]
    clear hgd
    go_loopw [12, 13] (fun u12 _ wr => ∃ (i : Nat) (R : List ByteArray) (ct : Int), i ≤ L.length ∧ u12 = .int .i64 i ∧ Hid (R.length = T.length) ∧ Hid (∀ k, (hk : k < R.length) → lb R[k] = mgP k (tpL (L.take i)) (tkA k (strs T, ct0))) ∧ Hid (ct = sat (sumC (tpL (L.take i)))) ∧ Hid (wr.ownsRow w2.heap.size 9 1 (.slice (some ⟨g, 0, none⟩) T.length cg) T.length (R.map .string)) ∧ Hid (Blk wr gd 32 #[.slice (some ⟨g, 0, none⟩) T.length cg, .int .i64 ct]) ∧ Hid (Below w2.heap.size w2 wr)) (fun u12 _ _ => L.length - (intOf u12).toNat)
    case atStart => exact ⟨0, T, 0, Nat.zero_le _, rfl, keep rfl, keep (fun k hk => by rw [List.take_zero, show tpL [] = [] from rfl, mgP_nil, ← tk_get (t := ⟨.slice ya T.length yc, T, ct0⟩) hk]), keep rfl, HOA, HBK, HBA⟩
    case round =>
      obtain ⟨i, R, ct, hi, rfl, hRl, hR, hct, hOw, hBx, hB⟩ := hrel
      obtain ⟨wo, rfl⟩ : ∃ wo : World, wo = wr := ⟨_, rfl⟩
      by_cases hlt : i < L.length
      · have hbw := HB2.out.trans (hB.out.mono HB2.out.size)
        obtain ⟨b1, o1, hAe, _, d0, d1⟩ := tm_cells (HL.out.below hbw (Nat.le_refl _)) hlt
        injection hAe with hAe
        injection hAe with e1 e2 _
        subst e1
        subst e2
        have hxr := (HT.out _ (List.getElem_mem hlt)).1.up hbw
        have hxn := (HT.out _ (List.getElem_mem hlt)).2
        have hxc := HC.out _ (List.getElem_mem hlt)
        have htake := tpL_take hlt
        obtain ⟨x, hx⟩ : ∃ x, L[i] = x := ⟨_, rfl⟩
        rw [hx] at d0 d1 hxr hxn hxc htake
        obtain ⟨xv, X, xc⟩ := x
        simp only at d0 d1 hxn hxc htake
        obtain ⟨za, zn, zc, hzv⟩ := hxr.form
        simp only at hzv
        subst hzv
        have hzn : zn = X.length := by obtain ⟨_, _, _, hv, _⟩ := hxr.1; injection hv
        subst hzn
        obtain ⟨bx, ox, rfl, _, _⟩ := str_at hxr.1.str (show 0 < X.length by omega)
        obtain ⟨c0, c1⟩ := hBx.out.cell2
        have hct0 : 0 ≤ ct ∧ ct ≤ 9223372036854775807 := by
          have h := sat_bd (sumC_pos (HC.out.take i).pos)
          rw [← hct.out] at h
          exact ⟨h.1, h.2.1⟩
        have f1 := hBx.out.frozen 1
        have hBs : Blk (wo.setCell ⟨gd, 1, none⟩ (.int .i64 (sat (ct + xc)))).drew gd 32 _ := hBx.out.set_ 1 (.int .i64 (sat (ct + xc)))
        have hgr : wo.grownBy (wo.setCell ⟨gd, 1, none⟩ (.int .i64 (sat (ct + xc)))).drew (some gd) := grownBy_drew (grownBy_set (World.grownBy.refl wo (some gd)) _ _)
        have hOs : (wo.setCell ⟨gd, 1, none⟩ (.int .i64 (sat (ct + xc)))).drew.ownsRow w2.heap.size 9 1 (.slice (some ⟨g, 0, none⟩) T.length cg) T.length (R.map .string) := hOw.out.kept hgr (own_ne_blk hOw.out hBx.out (by decide))
        have hBes : Below w2.heap.size w2 (wo.setCell ⟨gd, 1, none⟩ (.int .i64 (sat (ct + xc)))).drew := below_grown hB.out hgr hB.out.size hgd2
        have HCT1 : Hid (sat (ct + xc) = sat (sumC (tpL (L.take (i + 1))))) := keep (by
          rw [htake, sumC_append, hct.out, sat_add (by omega)]
          simp [sumC])
        have HBS := keep hBs
        have HOS2 := keep hOs
        have HBES := keep hBes
        have HTAKE := keep htake
        have HELT : Hid (∀ W : World, Below w.heap.size w W → W.cell? ⟨bl, ol + i * 2, none⟩ = some (.slice (some ⟨bx, ox, none⟩) X.length zc) ∧ TkR oB W ⟨.slice (some ⟨bx, ox, none⟩) X.length zc, X, xc⟩) := keep (fun W hW => by
          have h1 := (tm_cellAt (HL.out.below hW (Nat.le_refl _)) hlt).1
          have h2 := (HT.out _ (List.getElem_mem hlt)).1.up hW
          rw [hx] at h1 h2
          exact ⟨h1, h2⟩)
        have HSUM := keep (rSum_any ct xc wo.drew hct0.1 (by omega) hct0.2 hxc.2)
        have j1 : (i : Int) < (L.length : Int) := by omega
        have j2 : (i : Int) ≤ 100000 := by omega
        clear hBs hgr hOs hBes hxr htake hx hct hOw hbw hBx
        go_wp2_with fail
        refine wp_region_still_tail 9 (by kernel_rfl) (by kernel_rfl) ?_
        simp only [List.take_succ_cons, List.take_zero, List.drop_succ_cons, List.drop_zero]
        iterate 7 still_step
        still_call HSUM.out
        iterate 1 still_step
        refine wpStill_nil ?_
        change wpList _ _ _ _ _ wo.drew
        clear c0 d0 d1
        obtain ⟨ws1, hws1⟩ : ∃ ws1, ws1 = (wo.setCell ⟨gd, 1, none⟩ (.int .i64 (sat (ct + xc)))).drew := ⟨_, rfl⟩
        rw [← hws1] at HBS HOS2 HBES
        go_wp2_with fail
        rw [← hws1]
        clear hws1 f1 c1
        go_loopw [13] (fun u13 wr => ∃ (k : Nat) (R2 : List ByteArray), k ≤ T.length ∧ u13 = .int .i64 k ∧ Hid (R2.length = T.length) ∧ Hid (∀ j, (hj : j < R2.length) → lb R2[j] = if j < k then mgP j (tpL (L.take (i + 1))) (tkA j (strs T, ct0)) else mgP j (tpL (L.take i)) (tkA j (strs T, ct0))) ∧ Hid (wr.ownsRow w2.heap.size 9 1 (.slice (some ⟨g, 0, none⟩) T.length cg) T.length (R2.map .string)) ∧ Hid (Blk wr gd 32 #[.slice (some ⟨g, 0, none⟩) T.length cg, .int .i64 (sat (ct + xc))]) ∧ Hid (Below w2.heap.size w2 wr)) (fun u13 _ => T.length - (intOf u13).toNat)
        case atStart => exact ⟨0, R, Nat.zero_le _, rfl, hRl, keep (fun j hj => by rw [if_neg (Nat.not_lt_zero j)]; exact hR.out j hj), HOS2, HBS, HBES⟩
        case round =>
          obtain ⟨k, R2, hk, rfl, hRl2, hR2, hOw2, hBx2, hB2⟩ := hrel
          obtain ⟨wp, rfl⟩ : ∃ wp : World, wp = wr := ⟨_, rfl⟩
          obtain ⟨c0, _⟩ := hBx2.out.cell2
          have hbw := HB2.out.trans (hB2.out.mono HB2.out.size)
          obtain ⟨d0, hxr⟩ := HELT.out wp hbw
          by_cases hkl : k < T.length
          · have hkx : k < X.length := by omega
            have hkR : k < R2.length := by rw [hRl2.out]; exact hkl
            obtain ⟨_, _, hxa, _, s0⟩ := str_at hxr.1.str hkx
            injection hxa with hxa
            injection hxa with e1 e2 _
            subst e1
            subst e2
            have z0 : wp.cell? ⟨g, k, none⟩ = some (.string R2[k]) := by
              rw [own_cell hOw2.out rfl k (by omega), List.getElem?_map, List.getElem?_eq_getElem hkR]; rfl
            have hkA : tkA k (strs X, xc) = lb X[k] := tk_get (t := ⟨.slice (some ⟨bx, ox, none⟩) X.length zc, X, xc⟩) hkx
            obtain ⟨x1, hx1⟩ : ∃ x, X[k] = x := ⟨_, rfl⟩
            obtain ⟨r1, hr1⟩ : ∃ x, R2[k] = x := ⟨_, rfl⟩
            rw [hx1] at s0 hkA
            rw [hr1] at z0
            have hrk := hR2.out k hkR
            rw [if_neg (Nat.lt_irrefl k), hr1] at hrk
            have hstep : mgP k (tpL (L.take (i + 1))) (tkA k (strs T, ct0)) = if lb x1 = lb r1 then lb r1 else [] := by
              rw [HTAKE.out, mgP_step, hkA, ← hrk]
            have HSTEP := keep hstep
            have hge : w2.heap.size ≤ g := (hOw2.out.lt g rfl).1
            have hne : gd ≠ g := by
              intro e
              rcases own_ne_blk hOw2.out hBx2.out (by decide) with h | h
              · cases h
              · exact h (by rw [e]; rfl)
            have HST : Hid (∀ nq, ((wp.drewN nq).setCell ⟨g, k, none⟩ (.string ⟨#[]⟩)).ownsRow w2.heap.size 9 1 (.slice (some ⟨g, 0, none⟩) T.length cg) T.length ((R2.set k ⟨#[]⟩).map .string)) := keep (fun nq => by
              have hst := own_store (show (wp.drewN nq).ownsRow _ _ _ _ _ _ from hOw2.out) rfl k (.string ⟨#[]⟩)
              rwa [← List.map_set] at hst)
            have HBX3 : Hid (∀ nq, Blk ((wp.drewN nq).setCell ⟨g, k, none⟩ (.string ⟨#[]⟩)) gd 32 #[.slice (some ⟨g, 0, none⟩) T.length cg, .int .i64 (sat (ct + xc))]) := keep (fun nq => (show Blk (wp.drewN nq) _ _ _ from hBx2.out).far (p := ⟨g, k, none⟩) hne (.string ⟨#[]⟩))
            have HB3 : Hid (∀ nq, Below w2.heap.size w2 ((wp.drewN nq).setCell ⟨g, k, none⟩ (.string ⟨#[]⟩))) := keep (fun nq => below_grown (below_drewN hB2.out nq) (grownBy_set (World.grownBy.refl (wp.drewN nq) (some g)) _ _) hB2.out.size hge)
            have HF : Hid (∀ nq, (wp.drewN nq).frozen? ⟨g, k, none⟩ = false) := keep (fun nq => own_frozen (show (wp.drewN nq).ownsRow _ _ _ _ _ _ from hOw2.out) rfl _)
            have j3 : (k : Int) < (T.length : Int) := by omega
            have j4 : (k : Int) < (X.length : Int) := by omega
            have j5 : (k : Int) ≤ 1048576 := by omega
            have HR1 := keep hr1
            clear hne hge hr1 hx1 hrk hstep hkA hxr hbw
            cases hq : (x1.toList == r1.toList) with
            | true =>
              have hq2 : (x1.toList != r1.toList) = false := by rw [bne, hq]; rfl
              have HRN : Hid (∀ j, (hj : j < R2.length) → lb R2[j] = if j < k + 1 then mgP j (tpL (L.take (i + 1))) (tkA j (strs T, ct0)) else mgP j (tpL (L.take i)) (tkA j (strs T, ct0))) := keep (fun j hj => by
                by_cases e : j = k
                · subst e
                  rw [if_pos (by omega), HSTEP.out, if_pos (by rw [beq_lb] at hq; exact of_decide_eq_true hq), HR1.out]
                · rw [hR2.out j hj]
                  by_cases e2 : j < k
                  · rw [if_pos e2, if_pos (by omega)]
                  · rw [if_neg e2, if_neg (by omega)])
              go_wp2_with fail
              go_quiet (fail)
              go_wp2_with fail
              go_roundw
              case rel => exact ⟨k + 1, R2, by omega, by go_num, hRl2, HRN, hOw2, hBx2, keep (below_drewN hB2.out nq)⟩
              case measure => simp [intOf]; omega
            | false =>
              have hq2 : (x1.toList != r1.toList) = true := by rw [bne, hq]; rfl
              have HRN : Hid (∀ j, (hj : j < (R2.set k ⟨#[]⟩).length) → lb (R2.set k ⟨#[]⟩)[j] = if j < k + 1 then mgP j (tpL (L.take (i + 1))) (tkA j (strs T, ct0)) else mgP j (tpL (L.take i)) (tkA j (strs T, ct0))) := keep (fun j hj => by
                rw [List.getElem_set]
                by_cases e : k = j
                · subst e
                  rw [if_pos rfl, if_pos (by omega), HSTEP.out, if_neg (by rw [beq_lb] at hq; exact of_decide_eq_false hq)]
                · rw [if_neg e, hR2.out j (by simpa using hj)]
                  by_cases e2 : j < k
                  · rw [if_pos e2, if_pos (by omega)]
                  · rw [if_neg e2, if_neg (by omega)])
              have HRL : Hid ((R2.set k ⟨#[]⟩).length = T.length) := keep (by rw [List.length_set]; exact hRl2.out)
              go_wp2_with fail
              go_quiet (fail)
              obtain ⟨wn, hwn⟩ : ∃ wn : World, wn = wp.drewN nq := ⟨_, rfl⟩
              have n0 : wn.cell? ⟨gd, 0, none⟩ = some (.slice (some ⟨g, 0, none⟩) T.length cg) := by rw [hwn]; exact c0
              have n1 : wn.cell? ⟨g, k, none⟩ = some (.string r1) := by rw [hwn]; exact z0
              have nf : wn.frozen? ⟨g, k, none⟩ = false := by rw [hwn]; exact HF.out nq
              have h1 := keep (HST.out nq)
              have h2 := keep (HBX3.out nq)
              have h3 := keep (HB3.out nq)
              rw [← hwn] at h1 h2 h3 ⊢
              clear hwn HF HST HBX3 HB3 c0 z0 s0 d0
              go_wp2_with fail
              go_roundw
              case rel => exact ⟨k + 1, R2.set k ⟨#[]⟩, by omega, by go_num, HRL, HRN, h1, h2, h3⟩
              case measure => simp [intOf]; omega
          · obtain rfl : k = T.length := by omega
            have HRN : Hid (∀ j, (hj : j < R2.length) → lb R2[j] = mgP j (tpL (L.take (i + 1))) (tkA j (strs T, ct0))) := keep (fun j hj => by
              rw [hR2.out j hj, if_pos (by rw [← hRl2.out]; exact hj)])
            clear hxr hbw d0
            go_wp2_with fail
            go_roundw
            case rel => exact ⟨i + 1, R2, _, by omega, by go_num, hRl2, HRN, HCT1, hOw2, hBx2, hB2⟩
            case measure => simp [intOf]; omega
      · obtain rfl : i = L.length := by omega
        obtain ⟨q0, q1⟩ := hBx.out.cell2
        have hct2 : ct = sat (sumC (tpL L)) := by have h := hct.out; rwa [List.take_length] at h
        have hR2 : ∀ k, (hk : k < R.length) → lb R[k] = mgP k (tpL L) (tkA k (strs T, ct0)) := fun k hk => by have h := hR.out k hk; rwa [List.take_length] at h
        have hmem : (strs T, ct0) ∈ tpL L := List.mem_map.2 ⟨_, HM0.out, rfl⟩
        have hmrg := mrg_done hmem hRl.out hR2
        rw [← hct2] at hmrg
        have htpl := tpl_none (f := f) HNONE.out
        rw [htpl, ← hmrg] at HNI
        have hbw := HB2.out.trans (hB.out.mono HB2.out.size)
        have hTN : TkR oB wo ⟨.slice (some ⟨g, 0, none⟩) T.length cg, R, ct⟩ := by
          refine ⟨?_, by simp only; rw [hRl.out]; omega⟩
          have h := own_str (oB := oB) hOw.out
          simp only
          rw [hRl.out]
          exact h
        have hMO := HO.out.up hbw
        have hne : ∀ u ∈ O, R ≠ u.tk := fun u hu e => HNI.out _ (List.mem_singleton.2 rfl) u hu (by rw [← e])
        have hins := insert_any (.slice A1 O.length c1) O ⟨.slice (some ⟨g, 0, none⟩) T.length cg, R, ct⟩ wo hMO hTN hne (by omega)
        have hins2 : Calls Tryz.prog 55 #[.slice A1 O.length c1, .agg #[.slice (some ⟨g, 0, none⟩) T.length cg, .int .i64 ct]] wo (InsRes O ⟨.slice (some ⟨g, 0, none⟩) T.length cg, R, ct⟩ wo) := hins
        have HINS := keep hins2
        have HMO := keep hMO
        have HTN := keep hTN
        have HNEQ := keep hne
        have HTPL := keep (htpl.trans (by rw [← hmrg]))
        have HBW := keep hbw
        clear hins hins2 hMO hTN hne htpl hmrg hbw hct2 hR2 hmem hRl hR hct hOw HNI
        go_wp2_with fail
        refine HINS.out.mono ?_
        rintro e w4 ⟨v4, k, rfl, hk, hp1, hp2, ho4, hb4⟩
        have HOUT : Hid (SplitOut oB T.length (f + 1) O L w (.returned v4) w4) := keep (by
          refine ⟨v4, insRow O k ⟨.slice (some ⟨g, 0, none⟩) T.length cg, R, ct⟩, rfl, ⟨?_, fun u hu => ?_⟩, ?_, ?_, ?_, ?_⟩
          · rw [insRow_len _ _ hk]; exact Sl.of_own ho4
          · unfold insRow at hu
            rcases List.mem_append.1 hu with hu | hu
            · rcases List.mem_append.1 hu with hu | hu
              · exact (HMO.out.2 u (List.mem_of_mem_take hu)).up hb4
              · rw [List.mem_singleton.1 hu]
                exact HTN.out.up hb4
            · exact (HMO.out.2 u (List.mem_of_mem_drop hu)).up hb4
          · rw [HTPL.out]
            exact ins_perm O k _
          · exact srt_ins HOS.out hk hp1 hp2 HNEQ.out
          · rw [insRow_len _ _ hk]; omega
          · exact HBW.out.trans (hb4.mono HBW.out.size))
        obtain ⟨A4, c4, rfl, _⟩ := own_sl ho4
        clear HINS hp1 hp2 ho4 hb4
        go_wp2_with fail
        go_ret
        exact HOUT.out
end Go.Proofs.YtigogjlbemkhdaaGreat
namespace Go.Proofs.YtigogjlbemkhdaaGreat
open Go.RowKit
variable {oB : Nat}
set_option maxHeartbeats 16000000 in
set_option maxRecDepth 100000 in
theorem split_node (n : Nat) (hn1 : 1 ≤ n) (hn6 : n ≤ 60) (f : Nat) (v1 v2 : Value) (O L : List Tm) (w : World) (hO : MS oB w v1 O) (hOs : Srt (tpL O)) (hL : Sl w (lt w.heap.size) 2 v2 L.length (tms L)) (hT : ∀ t ∈ L, TkR oB w t ∧ t.tk.length = n) (hc : CtOk L) (hne : L ≠ []) (hf : L.length ≤ f + 1) (hni : NotIn O (tplF n (f + 1) (tpL L))) (hb : O.length + L.length ≤ 200000) (hm : L.length ≤ 100000) (hso : posA n (tpL L) ≠ none) (ih : ∀ (v1 v2 : Value) (O L : List Tm) (w : World), MS oB w v1 O → Srt (tpL O) → Sl w (lt w.heap.size) 2 v2 L.length (tms L) → (∀ t ∈ L, TkR oB w t ∧ t.tk.length = n) → CtOk L → L ≠ [] → L.length ≤ f → NotIn O (tplF n f (tpL L)) → O.length + L.length ≤ 200000 → L.length ≤ 100000 → Calls Tryz.prog 59 #[v1, v2] w (SplitOut oB n f O L w)) :
    Calls Tryz.prog 59 #[v1, v2] w (SplitOut oB n (f + 1) O L w) := by
  obtain ⟨A1, c1, rfl, _, _⟩ := hO.1.form
  obtain ⟨A2, c2, rfl, _, hL⟩ := hL.form
  have hl0 : 0 < L.length := List.length_pos_iff.2 hne
  have HPOS := keep (position_any (.slice A2 L.length c2) L n w hL hT hne hn6 hc hm)
  have HIH := keep ih
  have HO := keep hO
  have HOS := keep hOs
  have HL := keep hL
  have HT := keep hT
  have HC := keep hc
  have HNI := keep hni
  clear ih hO hOs hL hT hc hni
  go_enter Tryz.func59, Tryz.ntmps59
  go_wp2_with fail
  refine HPOS.out.mono ?_
  rintro e w2 ⟨p, vw, ok, rfl, hb2, hnone, hsome⟩
  have HB2 := keep hb2
  clear HPOS
  cases ok with
  | false => exact absurd (hnone rfl) hso
  | true =>
    obtain ⟨hpos, A, ws, hA, hTk, hD, hE⟩ := hsome rfl
    obtain ⟨AA, cA, rfl, _⟩ := own_sl hA
    have hpf : (List.range n).find? (fun p => splA p (tpL L)) = some p := hpos
    have hspl : splA p (tpL L) = true := List.find?_some (p := fun p => splA p (tpL L)) hpf
    have hpn : p < n := List.mem_range.1 (List.mem_of_find?_eq_some hpf)
    have hfull : ((ws.flatMap fun u => tplF n f (partA p u (tpL L))).Perm (tplF n (f + 1) (tpL L))) := by
      rw [tplF, hpos]
      exact perm_flatMap hD.perm fun _ _ => List.Perm.refl _
    have hLne : tpL L ≠ [] := fun e => hne (List.map_eq_nil_iff.1 e)
    have hnd := tplF_nodup n (f + 1) (tpL L) hLne
    have HFULL := keep hfull
    have HND : Hid (((ws.flatMap fun u => tplF n f (partA p u (tpL L))).map (·.1)).Nodup) := keep ((hfull.map _).nodup_iff.2 hnd)
    have HSPL := keep hspl
    have HA := keep hA
    have HTk := keep hTk
    have HD := keep hD
    have HE := keep hE
    have HAL := keep (tk_hd hE)
    have hA100 : A.length ≤ 100000 := by
      have h1 := hD.perm.length_eq
      have h2 : (tksA p (tpL L)).length ≤ (tpL L).length := by
        unfold tksA
        exact Nat.le_trans (dd_len _) (by rw [List.length_map]; exact Nat.le_refl _)
      have h3 : (tpL L).length = L.length := by simp [tpL]
      have h4 := tk_hd hE
      omega
    clear hsome hnone hA hTk hD hE hfull hnd hspl hpf hpos hb2
    go_wp2_with fail
    go_loopw [0, 8] (fun u0 u8 wr => ∃ (i : Nat) (Oi : List Tm) (Ai : Option Addr) (ci : Nat), i ≤ A.length ∧ u8 = .int .i64 i ∧ u0 = .slice Ai Oi.length ci ∧ Hid (MS oB wr (.slice Ai Oi.length ci) Oi) ∧ Hid ((tpL Oi).Perm (tpL O ++ (ws.take i).flatMap fun u => tplF n f (partA p u (tpL L)))) ∧ Hid (Srt (tpL Oi)) ∧ Hid (Oi.length + (restA p (ws.take i) (tpL L)).length ≤ O.length + L.length) ∧ Hid (Below w2.heap.size w2 wr)) (fun _ u8 _ => A.length - (intOf u8).toNat)
    case atStart => exact ⟨0, O, A1, c1, Nat.zero_le _, rfl, rfl, keep (HO.out.up HB2.out), keep (by simp), HOS, keep (by rw [List.take_zero, rest_nil]; simp [tpL]), keep (Below.refl _ _)⟩
    case round =>
      obtain ⟨i, Oi, Ai, ci, hi, rfl, rfl, hOi, hPi, hSi, hLi, hBi⟩ := hrel
      obtain ⟨wo, rfl⟩ : ∃ wo : World, wo = wr := ⟨_, rfl⟩
      by_cases hlt : i < A.length
      · have i1 : (i : Int) < (A.length : Int) := by omega
        have i2 : (i : Int) ≤ 100000 := by omega
        have hiw : i < ws.length := by rw [← HAL.out]; exact hlt
        go_wp2_with fail
        go_loopw [9, 10] (fun u9 u10 wr => ∃ (k : Nat) (P : List Tm) (Ap : Option Addr) (cp : Nat), k ≤ L.length ∧ u10 = .int .i64 k ∧ u9 = .slice Ap P.length cp ∧ P.length ≤ k ∧ Hid (P = (L.take k).filter fun t => decide (tkA p (strs t.tk, t.ct) = ws[i])) ∧ Hid (wr.ownsRow wo.heap.size 32 2 (.slice Ap P.length cp) P.length (tms P)) ∧ Hid (Below wo.heap.size wo wr)) (fun _ u10 _ => L.length - (intOf u10).toNat)
        case atStart => exact ⟨0, [], none, 0, Nat.zero_le _, rfl, rfl, Nat.le_refl _, keep (by simp), keep (World.ownsRow_nil _ _ _ _), keep (Below.refl _ _)⟩
        case round =>
          obtain ⟨k, P, Ap, cp, hk, rfl, rfl, hPk, hPe, hPo, hBk⟩ := hrel
          obtain ⟨wp, rfl⟩ : ∃ wp : World, wp = wr := ⟨_, rfl⟩
          have hb2p := hBi.out.trans (hBk.out.mono hBi.out.size)
          have HB2P := keep hb2p
          have HBWP := keep (HB2.out.trans (hb2p.mono HB2.out.size))
          clear hb2p
          by_cases hkl : k < L.length
          · obtain ⟨b1, o1, rfl, _, d0, d1⟩ := tm_cells (HL.out.below HBWP.out (Nat.le_refl _)) hkl
            have htr := (HT.out _ (List.getElem_mem hkl)).1.up HBWP.out
            have htn := (HT.out _ (List.getElem_mem hkl)).2
            have htake : L.take (k + 1) = L.take k ++ [L[k]] := List.take_succ_eq_append_getElem hkl
            obtain ⟨t, ht⟩ : ∃ t, L[k] = t := ⟨_, rfl⟩
            rw [ht] at d0 d1 htr htn htake
            obtain ⟨tv, T, ct⟩ := t
            simp only at d0 d1 htn
            obtain ⟨ya, yn, yc, hyv⟩ := htr.form
            simp only at hyv
            subst hyv
            have hyn : yn = T.length := by obtain ⟨_, _, _, hv, _⟩ := htr.1; injection hv
            subst hyn
            have hpT : p < T.length := by omega
            obtain ⟨b2, o2, rfl, _, s0⟩ := str_at htr.1.str hpT
            obtain ⟨x, hx⟩ : ∃ x, T[p] = x := ⟨_, rfl⟩
            rw [hx] at s0
            have hkx : tkA p (strs T, ct) = lb x := by rw [show tkA p (strs T, ct) = lb T[p] from tk_get (t := ⟨.slice (some ⟨b2, o2, none⟩) T.length yc, T, ct⟩) hpT, hx]
            obtain ⟨b3, o3, hAe, _, e0, _⟩ := tm_cells (Sl.of_own (own_bel HA.out HB2P.out)) hlt
            subst hAe
            obtain ⟨zt, hzt, hzo⟩ := HTk.out _ (List.getElem_mem hlt)
            have hzo := own_bel hzo HB2P.out
            obtain ⟨gz, cz, hgz⟩ : ∃ g cap, A[i].tv = .slice (some ⟨g, 0, none⟩) 1 cap := by
              rcases hzo.2 with ⟨_, hz⟩ | ⟨g, cap, cur, hv, _⟩
              · omega
              · exact ⟨g, cap, hv⟩
            rw [hgz] at e0 hzo
            have z0 : wp.cell? ⟨gz, 0, none⟩ = some (.string zt) := (own_cell hzo rfl 0 (by omega)).trans rfl
            have hwz : ws[i] = lb zt := by
              rw [← (tk_at HE.out HTk.out hlt hiw).2.1]
              unfold hd1
              rw [hzt]
              rfl
            have HKX := keep hkx
            have HWZ := keep hwz
            have HTAKE := keep htake
            have k1 : (k : Int) < (L.length : Int) := by omega
            have k2 : (k : Int) ≤ 100000 := by omega
            have p1 : (p : Int) < (T.length : Int) := by omega
            have p2 : (p : Int) ≤ 60 := by omega
            clear hkx hwz htake hzo hgz hzt ht htr hx htn
            cases hq : (x.toList == zt.toList) with
            | false =>
              have HP1 : Hid (P = (L.take (k + 1)).filter fun t => decide (tkA p (strs t.tk, t.ct) = ws[i])) := keep (by
                have hd : decide (tkA p (strs T, ct) = ws[i]) = false := by
                  rw [HKX.out, HWZ.out, ← beq_lb]; exact hq
                rw [HTAKE.out, List.filter_append, ← hPe.out]
                simp [hd])
              go_wp2_with fail
              go_quiet (fail)
              go_wp2_with fail
              go_roundw
              case rel => exact ⟨k + 1, P, Ap, cp, by omega, by go_num, rfl, by omega, HP1, hPo, keep (below_drewN hBk.out nq)⟩
              case measure => simp [intOf]; omega
            | true =>
              have HP1 : Hid (P ++ [⟨.slice (some ⟨b2, o2, none⟩) T.length yc, T, ct⟩] = (L.take (k + 1)).filter fun t => decide (tkA p (strs t.tk, t.ct) = ws[i])) := keep (by
                have hd : decide (tkA p (strs T, ct) = ws[i]) = true := by
                  rw [HKX.out, HWZ.out, ← beq_lb]; exact hq
                rw [HTAKE.out, List.filter_append, ← hPe.out]
                simp [hd])
              go_wp2_with fail
              go_quiet (fail)
              obtain ⟨wn, hwn⟩ : ∃ wn : World, wn = wp.drewN nq := ⟨_, rfl⟩
              have HBn : Hid (Below wo.heap.size wo wn) := keep (by rw [hwn]; exact below_drewN hBk.out nq)
              have HOn : Hid (wn.ownsRow wo.heap.size 32 2 (.slice Ap P.length cp) P.length (tms P)) := keep (by rw [hwn]; exact hPo.out)
              have n0 : wn.cell? ⟨b1, o1 + k * 2, none⟩ = some (.slice (some ⟨b2, o2, none⟩) T.length yc) := by rw [hwn]; exact d0
              have n1 : wn.cell? ⟨b1, o1 + k * 2 + 1, none⟩ = some (.int .i64 ct) := by rw [hwn]; exact d1
              rw [← hwn]
              clear hwn d0 d1 s0 e0 z0
              have hx1 : ∀ c ∈ (Value.agg #[.slice (some ⟨b2, o2, none⟩) T.length yc, .int .i64 ct]).cells.toList, c.oneCell' = true := by
                intro c hc
                simp [Value.cells] at hc
                rcases hc with rfl | rfl <;> rfl
              have HX1 := keep hx1
              have hbz := HBn.out.size
              clear hx1
              go_wp2_with (refine wpList_push elTm rfl rfl (.tmp 53) (.tmp 49) 54 rfl rfl rfl wo.heap.size (.slice Ap P.length cp) (.agg #[.slice (some ⟨b2, o2, none⟩) T.length yc, .int .i64 ct]) P.length (tms P) ?_ ?_ ?_ ?_ ?_ ?_ ?_ ?_ ?_ ?_ ?_)
              case refine_1 => rfl
              case refine_2 => intro q; rfl
              case refine_3 => intro q; rfl
              case refine_4 => exact HOn.out
              case refine_5 => rfl
              case refine_6 => exact HX1.out
              case refine_7 => decide
              case refine_8 => unfold maxLen; omega
              case refine_9 => omega
              case refine_10 => exact hbz
              case refine_11 =>
                intro g cap w9 hown9 hb9 _ _ _
                have hl9 : (P ++ [(⟨.slice (some ⟨b2, o2, none⟩) T.length yc, T, ct⟩ : Tm)]).length = P.length + 1 := by simp
                have HO9 : Hid (w9.ownsRow wo.heap.size 32 2 (.slice (some ⟨g, 0, none⟩) (P ++ [(⟨.slice (some ⟨b2, o2, none⟩) T.length yc, T, ct⟩ : Tm)]).length cap) (P ++ [(⟨.slice (some ⟨b2, o2, none⟩) T.length yc, T, ct⟩ : Tm)]).length (tms (P ++ [(⟨.slice (some ⟨b2, o2, none⟩) T.length yc, T, ct⟩ : Tm)]))) := keep (by
                  rw [hl9, tms_append]
                  exact hown9)
                have HB9 := keep (HBn.out.trans hb9)
                rw [← hl9]
                have hP9 : (P ++ [(⟨.slice (some ⟨b2, o2, none⟩) T.length yc, T, ct⟩ : Tm)]).length ≤ k + 1 := by omega
                clear hown9 hb9 hl9
                generalize P ++ [(⟨.slice (some ⟨b2, o2, none⟩) T.length yc, T, ct⟩ : Tm)] = P2 at HP1 HO9 hP9 ⊢
                go_wp2_with fail
                go_roundw
                case rel => exact ⟨k + 1, P2, _, _, by omega, by go_num, rfl, hP9, HP1, HO9, HB9⟩
                case measure => simp [intOf]; omega
          · obtain rfl : k = L.length := by omega
            have HPE : Hid (tpL P = partA p ws[i] (tpL L)) := keep (by
              have h := hPe.out
              rw [List.take_length] at h
              rw [h, tpL_part])
            have hmemw : ws[i] ∈ tksA p (tpL L) := HD.out.perm.mem_iff.1 (List.getElem_mem hiw)
            have hPsub : ∀ t ∈ P, t ∈ L := fun t ht => by
              have h := hPe.out
              rw [List.take_length] at h
              rw [h] at ht
              exact (List.mem_filter.1 ht).1
            have hplen : P.length = (partA p ws[i] (tpL L)).length := by rw [← HPE.out]; simp [tpL]
            have hLl : (tpL L).length = L.length := by simp [tpL]
            have hPlt : P.length < L.length := by
              have := part_lt HSPL.out hmemw
              omega
            have hPne : P ≠ [] := fun e => part_ne hmemw (by rw [← HPE.out, e]; rfl)
            have hrl := rest_len (l := tpL L) (p := p) HD.out.1 hiw
            have hLi1 := hLi.out
            have hbw : Below w.heap.size w wp := HBWP.out
            have HRL : Hid (Oi.length + P.length + (restA p (ws.take (i + 1)) (tpL L)).length ≤ O.length + L.length) := keep (by omega)
            have hOib : Oi.length + P.length ≤ 200000 := by omega
            have hcall := HIH.out (.slice Ai Oi.length ci) (.slice Ap P.length cp) Oi P wp (hOi.out.up hBk.out) hSi.out (Sl.of_own hPo.out) (fun t ht => ⟨((HT.out t (hPsub t ht)).1).up hbw, (HT.out t (hPsub t ht)).2⟩) (fun t ht => HC.out t (hPsub t ht)) hPne (by omega) (by rw [HPE.out]; exact notin_step (F := fun u => tplF n f (partA p u (tpL L))) hiw hPi.out HFULL.out HND.out HNI.out) hOib (by omega)
            have HCALL := keep hcall
            clear hcall hrl hLi1 hbw hPne hplen hPsub hmemw hOib hPlt hLl
            go_wp2_with fail
            refine HCALL.out.mono ?_
            rintro e w3 ⟨v3, O3, rfl, hM3, hP3, hS3, hl3, hb3⟩
            obtain ⟨A3, c3, rfl, _, _⟩ := hM3.1.form
            have HM3 := keep hM3
            have HP3 : Hid ((tpL O3).Perm (tpL O ++ (ws.take (i + 1)).flatMap fun u => tplF n f (partA p u (tpL L)))) := keep (perm_step (F := fun u => tplF n f (partA p u (tpL L))) hiw hPi.out (by rw [HPE.out] at hP3; exact hP3))
            have HS3 := keep hS3
            have HL3 : Hid (O3.length + (restA p (ws.take (i + 1)) (tpL L)).length ≤ O.length + L.length) := keep (by have := HRL.out; omega)
            have HB3 := keep (HB2P.out.trans (hb3.mono HB2P.out.size))
            clear HCALL hM3 hP3 hS3 hl3 hb3
            go_wp2_with fail
            go_roundw
            case rel => exact ⟨i + 1, O3, A3, c3, by omega, by go_num, rfl, HM3, HP3, HS3, HL3, HB3⟩
            case measure => simp [intOf]; omega
      · obtain rfl : i = A.length := by omega
        have HPF : Hid ((tpL Oi).Perm (tpL O ++ tplF n (f + 1) (tpL L))) := keep (by
          have h := hPi.out
          rw [HAL.out, List.take_length] at h
          exact h.trans (HFULL.out.append_left _))
        have HLF : Hid (Oi.length ≤ O.length + L.length) := keep (by have := hLi.out; omega)
        go_wp2_with fail
        go_ret
        exact ⟨_, Oi, rfl, hOi.out, HPF.out, hSi.out, HLF.out, HB2.out.trans (hBi.out.mono HB2.out.size)⟩
theorem split_any (n : Nat) (hn1 : 1 ≤ n) (hn6 : n ≤ 60) : ∀ (f : Nat) (v1 v2 : Value) (O L : List Tm) (w : World), MS oB w v1 O → Srt (tpL O) → Sl w (lt w.heap.size) 2 v2 L.length (tms L) → (∀ t ∈ L, TkR oB w t ∧ t.tk.length = n) → CtOk L → L ≠ [] → L.length ≤ f → NotIn O (tplF n f (tpL L)) → O.length + L.length ≤ 200000 → L.length ≤ 100000 →
    Calls Tryz.prog 59 #[v1, v2] w (SplitOut oB n f O L w) := by
  intro f
  induction f with
  | zero => intro v1 v2 O L w _ _ _ _ _ hne hf; cases L <;> simp at hne hf
  | succ f ih =>
    intro v1 v2 O L w hO hOs hL hT hc hne hf hni hb hm
    by_cases h : posA n (tpL L) = none
    · exact split_leaf n hn1 hn6 f v1 v2 O L w hO hOs hL hT hc hne hni hb hm h
    · exact split_node n hn1 hn6 f v1 v2 O L w hO hOs hL hT hc hne hf hni hb hm h ih
end Go.Proofs.YtigogjlbemkhdaaGreat
namespace Go.Proofs.YtigogjlbemkhdaaGreat
open Go.RowKit
variable {oB : Nat}
/-- What Of gives: the templates of the elements, in the order of Less. -/
def ROfOut (oB : Nat) (L : List Tm) (w : World) (x : Ending) (w' : World) : Prop :=
  ∃ v' R, x = .returned v' ∧ MS oB w' v' R ∧ (tpL R).Perm (ofA (tpL L)) ∧ Srt (tpL R) ∧ R.length ≤ L.length ∧ Below w.heap.size w w'
/-- The elements with n tokens or more. -/
def geN (n : Nat) (L : List Tm) : List Tm := L.filter fun t => decide (n ≤ t.tk.length)
def grN (n : Nat) (L : List Tm) : List Tm := L.filter fun t => decide (t.tk.length = n) && decide (1 ≤ t.ct)
theorem gr_ge (n : Nat) (L : List Tm) : (grN n L).length + (geN (n + 1) L).length ≤ (geN n L).length := by
  induction L with
  | nil => exact Nat.le_refl _
  | cons t L ih =>
    have e1 : grN n (t :: L) = if t.tk.length = n ∧ 1 ≤ t.ct then t :: grN n L else grN n L := by
      unfold grN
      rw [List.filter_cons]
      by_cases h : t.tk.length = n ∧ 1 ≤ t.ct
      · rw [if_pos h, if_pos (by simp [h])]
      · rw [if_neg h, if_neg (by simpa using h)]
    have e2 : ∀ m, geN m (t :: L) = if m ≤ t.tk.length then t :: geN m L else geN m L := fun m => by
      unfold geN
      rw [List.filter_cons]
      by_cases h : m ≤ t.tk.length
      · rw [if_pos h, if_pos (by simpa using h)]
      · rw [if_neg h, if_neg (by simpa using h)]
    rw [e1, e2, e2]
    by_cases h1 : t.tk.length = n ∧ 1 ≤ t.ct
    · rw [if_pos h1, if_neg (by omega), if_pos (by omega), List.length_cons, List.length_cons]
      omega
    · rw [if_neg h1]
      by_cases h2 : n + 1 ≤ t.tk.length
      · rw [if_pos h2, if_pos (by omega), List.length_cons, List.length_cons]
        omega
      · rw [if_neg h2]
        by_cases h3 : n ≤ t.tk.length
        · rw [if_pos h3, List.length_cons]
          omega
        · rw [if_neg h3]
          exact ih
theorem tpL_gr (n : Nat) (L : List Tm) : tpL (grN n L) = grpA n (tpL L) := by
  unfold tpL grN grpA
  rw [List.filter_map]
  congr 2
  funext t
  simp [strs]
/-- What stands in the list behind the groups below n. -/
def uptoN (n : Nat) (l : List TP) : List TP := (List.range n).flatMap fun n => if n = 0 ∨ grpA n l = [] then [] else tplF n FUEL (grpA n l)
theorem upto_succ (n : Nat) (l : List TP) : uptoN (n + 1) l = uptoN n l ++ if n = 0 ∨ grpA n l = [] then [] else tplF n FUEL (grpA n l) := by
  unfold uptoN
  rw [List.range_succ, List.flatMap_append]
  simp
theorem upto_len {n : Nat} {l : List TP} : ∀ r ∈ uptoN n l, r.1.length < n := by
  intro r hr
  obtain ⟨m, hm, h⟩ := List.mem_flatMap.1 hr
  rw [List.mem_range] at hm
  by_cases h0 : m = 0 ∨ grpA m l = []
  · rw [if_pos h0] at h; cases h
  · rw [if_neg h0] at h
    rw [(tplF_tok m FUEL _ (fun e => h0 (.inr e)) r h).1]
    exact hm
theorem upto_notin {n : Nat} {l : List TP} {O : List Tm} (hP : (tpL O).Perm (uptoN n l)) (hg : grpA n l ≠ []) : NotIn O (tplF n FUEL (grpA n l)) := by
  intro r hr t ht e
  have h1 : (strs t.tk, t.ct) ∈ uptoN n l := hP.mem_iff.1 (List.mem_map.2 ⟨t, ht, rfl⟩)
  have h2 := upto_len _ h1
  have h3 := (tplF_tok n FUEL _ hg r hr).1
  simp only at h2
  rw [e, h3] at h2
  omega
set_option maxHeartbeats 8000000 in
set_option maxRecDepth 100000 in
theorem refOf_any (v : Value) (L : List Tm) (w : World) (hs : Sl w (lt w.heap.size) 2 v L.length (tms L)) (hT : ∀ t ∈ L, TkR oB w t) (hc : ∀ t ∈ L, t.ct ≤ 9223372036854775807) (hm : L.length ≤ 100000) :
    Calls Tryz.prog 35 #[v] w (ROfOut oB L w) := by
  obtain ⟨A0, c0, rfl, _, hs⟩ := hs.form
  have HS := keep hs
  have HT := keep hT
  have HC := keep hc
  clear hs hT hc
  go_enter Tryz.func35, Tryz.ntmps35
  go_wp2_with fail
  go_loopw [3, 4, 5, 6] (fun u3 u4 _ _ wr => ∃ (n : Nat) (O : List Tm) (Ao : Option Addr) (co : Nat), 1 ≤ n ∧ n ≤ 61 ∧ u4 = .int .i64 n ∧ u3 = .slice Ao O.length co ∧ O.length ≤ 100000 ∧ Hid (MS oB wr (.slice Ao O.length co) O) ∧ Hid ((tpL O).Perm (uptoN n (tpL L))) ∧ Hid (Srt (tpL O)) ∧ Hid (O.length + (geN n L).length ≤ L.length) ∧ Hid (Below w.heap.size w wr)) (fun _ u4 _ _ _ => 61 - (intOf u4).toNat)
  case atStart => exact ⟨1, [], none, 0, Nat.le_refl _, by decide, rfl, rfl, by simp, keep (MS.nil _), keep (by rw [upto_succ]; simp [uptoN, tpL]), keep List.Pairwise.nil, keep (by simpa [geN] using List.length_filter_le _ L), keep (Below.refl _ _)⟩
  case round =>
    obtain ⟨n, O, Ao, co, hn1, hn, rfl, rfl, hOl, hO, hP, hS, hL, hB⟩ := hrel
    obtain ⟨wo, rfl⟩ : ∃ wo : World, wo = wr := ⟨_, rfl⟩
    by_cases hlt : n < 61
    · have n1 : (n : Int) ≤ 60 := by omega
      go_wp2_with fail
      go_loopw [5, 6] (fun u5 u6 wr => ∃ (k : Nat) (G : List Tm) (Ag : Option Addr) (cg : Nat), k ≤ L.length ∧ u6 = .int .i64 k ∧ u5 = .slice Ag G.length cg ∧ G.length ≤ k ∧ Hid (G = grN n (L.take k)) ∧ Hid (wr.ownsRow wo.heap.size 32 2 (.slice Ag G.length cg) G.length (tms G)) ∧ Hid (Below wo.heap.size wo wr)) (fun _ u6 _ => L.length - (intOf u6).toNat)
      case atStart => exact ⟨0, [], none, 0, Nat.zero_le _, rfl, rfl, Nat.le_refl _, keep rfl, keep (World.ownsRow_nil _ _ _ _), keep (Below.refl _ _)⟩
      case round =>
        obtain ⟨k, G, Ag, cg, hk, rfl, rfl, hGk, hGe, hGo, hBk⟩ := hrel
        obtain ⟨wp, rfl⟩ : ∃ wp : World, wp = wr := ⟨_, rfl⟩
        have HBW := keep (hB.out.trans (hBk.out.mono hB.out.size))
        by_cases hkl : k < L.length
        · obtain ⟨b1, o1, rfl, _, d0, d1⟩ := tm_cells (HS.out.below HBW.out (Nat.le_refl _)) hkl
          have htr := (HT.out _ (List.getElem_mem hkl)).up HBW.out
          have htake : grN n (L.take (k + 1)) = grN n (L.take k) ++ grN n [L[k]] := by
            unfold grN
            rw [List.take_succ_eq_append_getElem hkl, List.filter_append]
          obtain ⟨t, ht⟩ : ∃ t, L[k] = t := ⟨_, rfl⟩
          rw [ht] at d0 d1 htr htake
          obtain ⟨tv, T, ct⟩ := t
          simp only at d0 d1
          obtain ⟨ya, yn, yc, hyv⟩ := htr.form
          simp only at hyv
          subst hyv
          have hyn : yn = T.length := by obtain ⟨_, _, _, hv, _⟩ := htr.1; injection hv
          subst hyn
          have htl : (T.length : Int) ≤ 1048576 := by have := htr.2; simp only at this; omega
          have HTAKE := keep htake
          have k1 : (k : Int) < (L.length : Int) := by omega
          have k2 : (k : Int) ≤ 100000 := by omega
          clear htake htr ht
          by_cases he : T.length = n
          · by_cases hc1 : 1 ≤ ct
            · have HG1 : Hid (G ++ [⟨.slice ya T.length yc, T, ct⟩] = grN n (L.take (k + 1))) := keep (by
                rw [HTAKE.out, ← hGe.out]
                congr 1
                simp [grN, he, hc1])
              have heB : ((T.length : Int) == (n : Int)) = true := by rw [he]; simp
              have HE := keep he
              clear he
              have hx1 : ∀ c ∈ (Value.agg #[.slice ya T.length yc, .int .i64 ct]).cells.toList, c.oneCell' = true := by
                intro c hc
                simp [Value.cells] at hc
                rcases hc with rfl | rfl <;> rfl
              have HX1 := keep hx1
              have hbz := hBk.out.size
              clear hx1
              go_wp2_with (refine wpList_push elTm rfl rfl (.tmp 37) (.tmp 33) 38 rfl rfl rfl wo.heap.size (.slice Ag G.length cg) (.agg #[.slice ya T.length yc, .int .i64 ct]) G.length (tms G) ?_ ?_ ?_ ?_ ?_ ?_ ?_ ?_ ?_ ?_ ?_)
              case refine_1 => rfl
              case refine_2 => intro q; rfl
              case refine_3 => intro q; rfl
              case refine_4 => exact hGo.out
              case refine_5 => rfl
              case refine_6 => exact HX1.out
              case refine_7 => decide
              case refine_8 => unfold maxLen; omega
              case refine_9 => omega
              case refine_10 => exact hbz
              case refine_11 =>
                intro g cap w9 hown9 hb9 _ _ _
                have hl9 : (G ++ [(⟨.slice ya T.length yc, T, ct⟩ : Tm)]).length = G.length + 1 := by simp
                have HO9 : Hid (w9.ownsRow wo.heap.size 32 2 (.slice (some ⟨g, 0, none⟩) (G ++ [(⟨.slice ya T.length yc, T, ct⟩ : Tm)]).length cap) (G ++ [(⟨.slice ya T.length yc, T, ct⟩ : Tm)]).length (tms (G ++ [(⟨.slice ya T.length yc, T, ct⟩ : Tm)]))) := keep (by
                  rw [hl9, tms_append]
                  exact hown9)
                have HB9 := keep (hBk.out.trans hb9)
                rw [← hl9]
                have hP9 : (G ++ [(⟨.slice ya T.length yc, T, ct⟩ : Tm)]).length ≤ k + 1 := by omega
                clear hown9 hb9 hl9
                generalize G ++ [(⟨.slice ya T.length yc, T, ct⟩ : Tm)] = P2 at HG1 HO9 hP9 ⊢
                go_wp2_with fail
                go_roundw
                case rel => exact ⟨k + 1, P2, _, _, by omega, by go_num, rfl, hP9, HG1, HO9, HB9⟩
                case measure => simp [intOf]; omega
            · have HG1 : Hid (G = grN n (L.take (k + 1))) := keep (by
                rw [HTAKE.out, ← hGe.out]
                simp [grN, hc1])
              have heB : ((T.length : Int) == (n : Int)) = true := by rw [he]; simp
              have HE := keep he
              clear he
              go_wp2_with fail
              go_roundw
              case rel => exact ⟨k + 1, G, Ag, cg, by omega, by go_num, rfl, by omega, HG1, hGo, hBk⟩
              case measure => simp [intOf]; omega
          · have HG1 : Hid (G = grN n (L.take (k + 1))) := keep (by
              rw [HTAKE.out, ← hGe.out]
              simp [grN, he])
            have heB : ((T.length : Int) == (n : Int)) = false := by
              have : ¬ (T.length : Int) = (n : Int) := by omega
              simpa using this
            go_wp2_with fail
            go_roundw
            case rel => exact ⟨k + 1, G, Ag, cg, by omega, by go_num, rfl, by omega, HG1, hGo, hBk⟩
            case measure => simp [intOf]; omega
        · obtain rfl : k = L.length := by omega
          have HGE : Hid (G = grN n L) := keep (by have h := hGe.out; rwa [List.take_length] at h)
          have hgg := gr_ge n L
          have hLo := hL.out
          rw [← HGE.out] at hgg
          have HTP : Hid (tpL G = grpA n (tpL L)) := keep (by rw [HGE.out, tpL_gr])
          have HMO := keep (hO.out.up hBk.out)
          by_cases hg0 : G.length = 0
          · have hGn : G = [] := List.length_eq_zero_iff.1 hg0
            have HP1 : Hid ((tpL O).Perm (uptoN (n + 1) (tpL L))) := keep (by
              rw [upto_succ, if_pos (.inr (by rw [← HTP.out, hGn]; rfl)), List.append_nil]
              exact hP.out)
            have HL1 : Hid (O.length + (geN (n + 1) L).length ≤ L.length) := keep (by omega)
            have g0 : ¬ (0 : Int) < (G.length : Int) := by omega
            clear hgg hLo hGn
            go_wp2_with fail
            go_roundw
            case rel => exact ⟨n + 1, O, Ao, co, by omega, by omega, by go_num, rfl, hOl, HMO, HP1, hS, HL1, HBW⟩
            case measure => simp [intOf]; omega
          · have hGn : G ≠ [] := fun e => hg0 (by rw [e]; rfl)
            have hgA : grpA n (tpL L) ≠ [] := by rw [← HTP.out]; exact fun e => hGn (List.map_eq_nil_iff.1 e)
            have hGm : ∀ t ∈ G, t ∈ L ∧ t.tk.length = n ∧ 1 ≤ t.ct := fun t ht => by
              rw [HGE.out] at ht
              have h := List.mem_filter.1 ht
              simpa using h
            have hsp := split_any n hn1 (by omega) FUEL (.slice Ao O.length co) (.slice Ag G.length cg) O G wp HMO.out hS.out (Sl.of_own hGo.out) (fun t ht => ⟨(HT.out t (hGm t ht).1).up HBW.out, (hGm t ht).2.1⟩) (fun t ht => ⟨(hGm t ht).2.2, HC.out t (hGm t ht).1⟩) hGn (by unfold FUEL; omega) (by rw [HTP.out]; exact upto_notin hP.out hgA) (by omega) (by omega)
            have HSP := keep hsp
            have HGA := keep hgA
            have HLL : Hid (O.length + G.length + (geN (n + 1) L).length ≤ L.length) := keep (by omega)
            have g0 : (0 : Int) < (G.length : Int) := by omega
            have hn0 : ¬ n = 0 := by omega
            clear hgg hLo hGn hgA hGm hsp
            go_wp2_with fail
            refine HSP.out.mono ?_
            rintro e w3 ⟨v3, O3, rfl, hM3, hP3, hS3, hl3, hb3⟩
            obtain ⟨A3, c3, rfl, _, _⟩ := hM3.1.form
            have HM3 := keep hM3
            have HP3 : Hid ((tpL O3).Perm (uptoN (n + 1) (tpL L))) := keep (by
              rw [upto_succ, if_neg (fun h => h.elim hn0 HGA.out), ← HTP.out]
              exact hP3.trans (hP.out.append_right _))
            have HS3 := keep hS3
            have HL3 : Hid (O3.length + (geN (n + 1) L).length ≤ L.length) := keep (by have := HLL.out; omega)
            have HB3 := keep (HBW.out.trans (hb3.mono HBW.out.size))
            have hO3 : O3.length ≤ 100000 := by have := HL3.out; omega
            clear HSP hM3 hP3 hS3 hl3 hb3
            go_wp2_with fail
            go_roundw
            case rel => exact ⟨n + 1, O3, A3, c3, by omega, by omega, by go_num, rfl, hO3, HM3, HP3, HS3, HL3, HB3⟩
            case measure => simp [intOf]; omega
    · obtain rfl : n = 61 := by omega
      have HPF : Hid ((tpL O).Perm (ofA (tpL L))) := keep hP.out
      have HLF : Hid (O.length ≤ L.length) := keep (by have := hL.out; omega)
      go_wp2_with fail
      go_ret
      exact ⟨_, O, rfl, hO.out, HPF.out, hS.out, HLF.out, hB.out⟩
end Go.Proofs.YtigogjlbemkhdaaGreat
