/- miner.Merge. -/
import Derived.Test.YtigogjlbemkhdaaRefState
import Derived.Test.YtigogjlbemkhdaaTokEq
namespace Go.Proofs.Ytigogjlbemkhdaa
open Go.RowKit

/-- Two states in one. -/
structure Merged (P Q R : List TP) : Prop where
  s : Srt R
  p : Pos R
  c : ∀ U, cnt R U = cnt P U + cnt Q U
  t : sumP R = sumP P + sumP Q
theorem merged_step {P Q R R' : List TP} {t : TP} (h : Merged P Q R) (ha : Added R R' t.1 t.2) : Merged P (Q ++ [t]) R' := by
  refine ⟨ha.s, ha.p, fun U => ?_, ?_⟩
  · rw [ha.c, h.c, cnt_append, cnt, cnt]; omega
  · rw [ha.t, h.t, sumP_append, sumP_cons]; simp [sumP]; omega
theorem st_take {M : List Tm} {k : Nat} (h : k < M.length) : st (M.take (k + 1)) = st (M.take k) ++ [(strs M[k].tk, M[k].ct)] := by
  rw [List.take_succ_eq_append_getElem h, st_append]; rfl
theorem pos_take {M : List Tm} (h : Pos (st M)) (k : Nat) : Pos (st (M.take k)) := fun t ht => by
  obtain ⟨u, hu, rfl⟩ := List.mem_map.1 ht
  exact h _ (List.mem_map.2 ⟨u, List.mem_of_mem_take hu, rfl⟩)
theorem sum_take {M : List Tm} (h : Pos (st M)) (k : Nat) : sumP (st (M.take k)) ≤ sumP (st M) := by
  have e : st M = st (M.take k) ++ st (M.drop k) := by rw [← st_append, List.take_append_drop]
  have hd : Pos (st (M.drop k)) := fun t ht => by
    obtain ⟨u, hu, rfl⟩ := List.mem_map.1 ht
    exact h _ (List.mem_map.2 ⟨u, List.mem_of_mem_drop hu, rfl⟩)
  have h1 := sumP_len hd
  rw [e, sumP_append]
  omega
def MergeRes (P Q : List TP) (w : World) (x : Ending) (w' : World) : Prop := ∃ v' L', x = .returned v' ∧ NewSt w v' L' w' ∧ Merged P Q (st L')
set_option maxHeartbeats 8000000 in
theorem merge_any (v1 v2 : Value) (L M : List Tm) (w : World) (h1 : MS w v1 L) (h2 : MS w v2 M) (g1 : Good (st L) 100000) (g2 : Good (st M) 100000) : Calls Try.prog 14 #[v1, v2] w (MergeRes (st L) (st M) w) := by
  have hm1 := g1.len (by omega)
  have hm2 := g2.len (by omega)
  obtain ⟨A1, c1, rfl, _, _⟩ := h1.1.form
  obtain ⟨A2, c2, rfl, _, _⟩ := h2.1.form
  have HC := keep (clone_ms h1 hm1)
  have H2 := keep h2
  have G1 := keep g1
  have G2 := keep g2
  clear h1 h2 g1 g2
  go_enter Try.func14, Try.ntmps14
  go_wp2_with fail
  refine HC.out.mono ?_
  rintro e w1 ⟨v3, rfl, hn⟩
  have HN := keep hn
  clear hn HC
  go_wp2_with fail
  go_loopw [5, 7, 12] (fun v _ i wr => ∃ (k : Nat) (R : List Tm), k ≤ M.length ∧ i = .int .i64 k ∧ Hid (wr.ownsRow w.heap.size 49 2 v R.length (tms R)) ∧ Hid (∀ t ∈ R, TkR wr t) ∧ Hid (Below w.heap.size w wr) ∧ Hid (Merged (st L) (st (M.take k)) (st R))) (fun _ _ i _ => M.length - (intOf i).toNat)
  case atStart => exact ⟨0, L, Nat.zero_le _, rfl, keep HN.out.1, keep HN.out.2.1, keep HN.out.2.2, keep ⟨G1.out.s, G1.out.p, fun U => by simp [st, cnt], by simp [st, sumP]⟩⟩
  case round =>
    obtain ⟨k, R, hk, rfl, hO, hT, hB, hR⟩ := hrel
    obtain ⟨wo, rfl⟩ : ∃ wo : World, wo = wr := ⟨_, rfl⟩
    obtain ⟨A3, c3, hv3, _⟩ := own_sl hO.out
    subst hv3
    by_cases hlt : k < M.length
    · obtain ⟨b, o, rfl, _, c0, c1'⟩ := tm_cells ((H2.out.1).below hB.out (Nat.le_refl _)) hlt
      have htk := (H2.out.2 _ (List.getElem_mem hlt)).up hB.out
      have hmem : (strs M[k].tk, M[k].ct) ∈ st M := List.mem_map.2 ⟨M[k], List.getElem_mem hlt, rfl⟩
      have hp := G2.out.p _ hmem
      have hsl := sumP_le G2.out.p hmem
      have hst := st_take hlt
      have hsum : sumP (st R) ≤ 200000 := by
        have q1 := hR.out.t
        have q2 := sum_take G2.out.p k
        have q3 := G1.out.b
        have q4 := G2.out.b
        omega
      have hb2 := G2.out.b
      simp only at hp hsl
      generalize M[k] = t at c0 c1' htk hp hsl hst
      have hfm := htk.form
      obtain ⟨B1, m1, q1, hv1⟩ := hfm
      obtain ⟨tv, tk, tc⟩ := t
      simp only at hv1 c0 c1' hp hsl hst
      subst hv1
      have hbA : Below wo.heap.size wo (wo.alloc (.cells #[.slice B1 m1 q1, .int .i64 tc] 49)) := (Below.refl _ wo).alloc (Nat.le_refl _) _
      have hzA := hbA.size
      have hadd := add_any (.slice A3 R.length c3) (.slice B1 m1 q1) R tk tc (wo.alloc (.cells #[.slice B1 m1 q1, .int .i64 tc] 49)) w.heap.size (own_bel hO.out hbA) (Nat.le_trans hB.out.size hzA) (fun t ht => (hT.out t ht).up hbA) (htk.up hbA).1 htk.2 hR.out.s hR.out.p hp (by omega) (by omega)
      have HADD := keep hadd
      have HST := keep hst
      have HBA := keep hbA
      have i1 : (k : Int) < (M.length : Int) := by omega
      have i2 : (k : Int) ≤ 1000000 := by omega
      clear hadd hst hbA hmem htk
      go_wp2_with fail
      refine HADD.out.mono ?_
      rintro e w4 ⟨v4, R4, rfl, ho4, ht4, hg4, had4⟩
      have hb4 : Below w.heap.size w w4 := (hB.out.trans (HBA.out.mono hB.out.size)).grown hg4 (Nat.le_trans hB.out.size hzA) (fun j hj => (hO.out.lt j hj).1)
      have HO4 := keep ho4
      have HT4 := keep ht4
      have HM4 := keep (merged_step (t := (strs tk, tc)) hR.out had4)
      clear ho4 ht4 hg4 had4
      go_wp2_with fail
      go_roundw
      case rel => exact ⟨k + 1, R4, by omega, by go_num, HO4, HT4, keep hb4, keep (by rw [HST.out]; exact HM4.out)⟩
      case measure => simp [intOf]; omega
    · obtain rfl : k = M.length := by omega
      have hR2 := hR.out
      rw [List.take_length] at hR2
      have HR2 := keep hR2
      clear hR2
      go_wp2_with fail
      go_ret
      exact ⟨_, R, rfl, ⟨hO.out, hT.out, hB.out⟩, HR2.out⟩
end Go.Proofs.Ytigogjlbemkhdaa
