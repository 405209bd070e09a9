/- template.sum, template.total: sums that end at the greatest int. -/
import Derived.Test.YtigogjlbemkhdaaGreatOfP
import Derived.Test.YtigogjlbemkhdaaGreatTmSearch
import Derived.Test.YtigogjlbemkhdaaGreatBsTs
import Derived.Test.YtigogjlbemkhdaaGreatInsTm
namespace Go.Proofs.YtigogjlbemkhdaaGreat
open Go.RowKit
def MAXN : Int := 9223372036854775807
theorem sat_bd {x : Int} (h : 0 ≤ x) : 0 ≤ sat x ∧ sat x ≤ MAXN ∧ sat x ≤ x := by unfold sat MAXI; unfold MAXN; omega
theorem sat_add {a b : Int} (hb : 0 ≤ b) : sat (sat a + b) = sat (a + b) := by unfold sat MAXI; omega
theorem sat_zero {L : List Tm} : sat (sumC ((L.take 0).map fun t => (strs t.tk, t.ct))) = 0 := by
  simp only [List.take_zero, List.map_nil, sumC, List.sum_nil, sat, MAXI]
  omega
theorem tsum_any (a b : Int) (w : World) (ha0 : 0 ≤ a) (ha : a ≤ 9223372036854775807) (hb0 : 0 ≤ b) (hb : b ≤ 9223372036854775807) :
    Calls Tryz.prog 82 #[.int .i64 a, .int .i64 b] w fun e w' => e = .returned (.int .i64 (sat (a + b))) ∧ w' = w := by
  have hw : IntKind.i64.wrap (9223372036854775807 - b) = 9223372036854775807 - b := IntWalk.i64_in _ (by omega)
  by_cases h : 9223372036854775807 - b < a
  · have hs : sat (a + b) = 9223372036854775807 := by unfold sat MAXI; omega
    have HS := keep hs
    clear hs
    go_enter Tryz.func82, Tryz.ntmps82
    go_wp2_with fail
    go_ret
    exact ⟨ret_int HS.out.symm, rfl⟩
  · have hs : sat (a + b) = a + b := by unfold sat MAXI; omega
    have HS := keep hs
    clear hs
    go_enter Tryz.func82, Tryz.ntmps82
    go_wp2_with fail
    go_ret
    exact ⟨ret_int HS.out.symm, rfl⟩
/-- Elements as tokens with counts. -/
def tpL (L : List Tm) : List TP := L.map fun t => (strs t.tk, t.ct)
theorem tpL_take {L : List Tm} {k : Nat} (h : k < L.length) : tpL (L.take (k + 1)) = tpL (L.take k) ++ [(strs L[k].tk, L[k].ct)] := by
  unfold tpL
  rw [List.take_succ_eq_append_getElem h, List.map_append]
  rfl
theorem sumC_append (a b : List TP) : sumC (a ++ b) = sumC a + sumC b := by simp [sumC]
theorem sumC_pos {l : List TP} (hp : Pos l) : 0 ≤ sumC l := by
  induction l with
  | nil => simp [sumC]
  | cons t l ih =>
    rw [sumC_cons]
    have h1 := hp t (by simp)
    have h2 := ih fun x hx => hp x (by simp [hx])
    omega
/-- The counts of elements are positive ints. -/
def CtOk (L : List Tm) : Prop := ∀ t ∈ L, 1 ≤ t.ct ∧ t.ct ≤ 9223372036854775807
theorem CtOk.pos {L : List Tm} (h : CtOk L) : Pos (tpL L) := fun t ht => by
  obtain ⟨u, hu, rfl⟩ := List.mem_map.1 ht
  exact (h u hu).1
theorem CtOk.take {L : List Tm} (h : CtOk L) (k : Nat) : CtOk (L.take k) := fun t ht => h t (List.mem_of_mem_take ht)
set_option maxHeartbeats 2000000 in
theorem ttotal_any (v : Value) (L : List Tm) (w : World) (hs : Sl w (lt w.heap.size) 2 v L.length (tms L)) (hv : ∀ t ∈ L, ∃ TA TN TC, t.tv = .slice TA TN TC) (hc : CtOk L) (hm : L.length ≤ 1048576) :
    Calls Tryz.prog 73 #[v] w fun e w' => e = .returned (.int .i64 (sat (sumC (tpL L)))) ∧ Below w.heap.size w w' := by
  obtain ⟨A, c, rfl, _, hs⟩ := hs.form
  have HS := keep hs
  have HC := keep hc
  have HV := keep hv
  clear hs hc hv
  go_enter Tryz.func73, Tryz.ntmps73
  go_wp2_with fail
  go_loopw [3, 8] (fun u3 u8 wr => ∃ k : Nat, k ≤ L.length ∧ u8 = .int .i64 k ∧ u3 = .int .i64 (sat (sumC (tpL (L.take k)))) ∧ Hid (Below w.heap.size w wr)) (fun _ u8 _ => L.length - (intOf u8).toNat)
  case atStart => exact ⟨0, Nat.zero_le _, rfl, by unfold tpL; rw [sat_zero], keep (Below.refl _ _)⟩
  case round =>
    obtain ⟨k, hk, rfl, rfl, hB⟩ := hrel
    obtain ⟨wo, rfl⟩ : ∃ wo : World, wo = wr := ⟨_, rfl⟩
    by_cases hlt : k < L.length
    · obtain ⟨b, o, rfl, _, c0, c1⟩ := tm_cells (HS.out.below hB.out (Nat.le_refl _)) hlt
      have hct := HC.out _ (List.getElem_mem hlt)
      obtain ⟨TA, TN, TC, hsl⟩ := HV.out _ (List.getElem_mem hlt)
      have h0 := sumC_pos (HC.out.take k).pos
      have hst : sat (sat (sumC (tpL (L.take k))) + L[k].ct) = sat (sumC (tpL (L.take (k + 1)))) := by
        rw [tpL_take hlt, sumC_append, sat_add (by omega)]
        simp [sumC]
      have hsb := sat_bd h0
      generalize sat (sumC (tpL (L.take k))) = s at *
      generalize L[k] = t at *
      obtain ⟨tv, tk, ct⟩ := t
      simp only at c0 c1 hct hst hsl
      subst hsl
      have HST := keep hst
      have HQ := keep (fun wx => tsum_any s ct wx hsb.1 hsb.2.1 (by omega) hct.2)
      have HB1 := keep (hB.out.trans (((Below.refl _ wo).alloc (Nat.le_refl _) (.cells #[.slice TA TN TC, .int .i64 ct] 32)).mono hB.out.size))
      have i1 : (k : Int) < (L.length : Int) := by omega
      have i2 : (k : Int) ≤ 1048576 := by omega
      clear hst hsb hct h0
      go_wp2_with fail
      refine (HQ.out _).mono ?_
      rintro e w5 ⟨rfl, rfl⟩
      go_wp2_with fail
      go_roundw
      case rel => exact ⟨k + 1, by omega, by go_num, by rw [HST.out], HB1⟩
      case measure => simp [intOf]; omega
    · obtain rfl : k = L.length := by omega
      rw [List.take_length]
      go_wp2_with fail
      go_ret
      exact ⟨rfl, hB.out⟩
end Go.Proofs.YtigogjlbemkhdaaGreat
