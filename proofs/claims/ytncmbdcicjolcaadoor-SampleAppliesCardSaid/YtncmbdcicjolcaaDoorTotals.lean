/- Total of events of any weights: the product's and the reference's. -/
import Derived.Test.YtncmbdcicjolcaaDoorRefApply
namespace Go.Proofs.YtncmbdcicjolcaaDoor
open Go.RowKit

def allV (E : List Ev) : Bool := E.all fun e => vld e.wt
def totG (E : List Ev) : Value := if allV E = true then .tuple #[.int .i64 (tot E), .bool true] else .tuple #[.int .i64 0, .bool false]
theorem allV_take {E : List Ev} {k : Nat} (hk : k < E.length) : allV (E.take (k + 1)) = (allV (E.take k) && vld E[k].wt) := by
  unfold allV
  rw [List.take_succ_eq_append_getElem hk, List.all_append]
  simp
theorem allV_bad {E : List Ev} {k : Nat} (hk : k < E.length) (h : vld E[k].wt = false) : allV E = false := by
  unfold allV
  rw [List.all_eq_false]
  exact ⟨E[k], List.getElem_mem hk, by rw [h]; decide⟩
theorem tot_bdk {E : List Ev} (h : allV E = true) : 0 ≤ tot E ∧ tot E ≤ 5040 * (E.length : Int) := tot_bd (fun e he => List.all_eq_true.1 h e he)
set_option maxHeartbeats 4000000 in
theorem total_gen (ev : Value) (E : List Ev) (w : World) (B : Nat) (hD : Divs w B) (hB : B ≤ w.heap.size) (hE : ∀ e ∈ E, EvS e ∧ -9223372036854775808 ≤ e.wt ∧ e.wt ≤ 9223372036854775807) (hv : Sl w (lt w.heap.size) 10 ev E.length (evV E)) (hEl : E.length ≤ 1000000) :
    Calls Tryd.prog 26 #[ev] w fun x w' => x = .returned (totG E) ∧ Below w.heap.size w w' := by
  obtain ⟨A, c, rfl, hc, hv⟩ := hv.form
  go_enter Tryd.func26, Tryd.ntmps26
  go_wp2_with fail
  go_loopw [4, 6, 9] (fun n _ i wr => ∃ (k : Nat) (m : Int), k ≤ E.length ∧ n = .int .i64 m ∧ i = .int .i64 k ∧ 0 ≤ m ∧ m ≤ 5040 * k ∧ Hid (m = tot (E.take k) ∧ allV (E.take k) = true) ∧ Hid (Below w.heap.size w wr)) (fun _ _ i _ => E.length - (intOf i).toNat)
  case atStart => exact ⟨0, 0, Nat.zero_le _, rfl, rfl, by omega, by omega, keep ⟨rfl, rfl⟩, keep (Below.refl _ _)⟩
  case round =>
    obtain ⟨k, m, hk, rfl, rfl, m0, m1, hM, hI⟩ := hrel
    have hbr := hI.out
    by_cases hlt : k < E.length
    · obtain ⟨b, o, rfl, hb, c0, c1, c2, c3, c4, c5, c6, c7, c8, c9⟩ := ev_cells (hv.below hbr (Nat.le_refl _)) hlt
      obtain ⟨hES, w0, w1⟩ := hE _ (List.getElem_mem hlt)
      have htk := tot_take hlt
      have hav := allV_take hlt
      have hbad := allV_bad hlt
      generalize E[k] = e at c0 c1 c2 c3 c4 c5 c6 c7 c8 c9 hES w0 w1 htk hav hbad
      obtain ⟨vho, vfi, vfr, vto, vln, vti, vwt, vtr, vst, vfd⟩ := e
      obtain ⟨⟨lA, ln, lc, hln⟩, ⟨fA, fn, fc, hfd⟩, htr⟩ := hES
      simp only at hln hfd htr c0 c1 c2 c3 c4 c5 c6 c7 c8 c9 w0 w1 htk hav hbad
      subst hln
      subst hfd
      clear htr
      have HT := keep htk
      have HA := keep hav
      have HB := keep hbad
      clear htk hav hbad
      have i1 : (k : Int) < (E.length : Int) := by omega
      have k1 : (k : Int) ≤ 1000000 := by omega
      obtain ⟨wo, rfl⟩ : ∃ wo : World, wo = wr := ⟨_, rfl⟩
      go_wp2_with fail
      have hba : Below w.heap.size w (wo.alloc (.cells #[.int .i64 vho, .int .i64 vfi, .int .i64 vfr, .int .i64 vto, .slice lA ln lc, .int .i64 vti, .int .i64 vwt, .string vtr, .string vst, .slice fA fn fc] 48)) := hbr.alloc hbr.size _
      refine (valid_any _ _ B (hD.below (hba.mono hB))).mono ?_
      rintro x w3 ⟨he, rfl⟩
      cases hvv : vld vwt
      · rw [hvv] at he
        subst he
        have HN := keep (HB.out hvv)
        clear hvv HB HA
        go_wp2_with fail
        go_ret2
        exact ⟨by rw [totG, HN.out]; rfl, hba⟩
      · rw [hvv] at he
        subst he
        obtain ⟨v1, v2⟩ := vld_bd hvv
        have HV := keep hvv
        clear hvv
        have hs1 : IntKind.i64.wrap (9223372036854775807 - vwt) = 9223372036854775807 - vwt := IntWalk.i64_in _ (by omega)
        have hs2 : IntKind.i64.wrap (m + vwt) = m + vwt := IntWalk.i64_in _ (by omega)
        have hs3 : ¬ (9223372036854775807 - vwt < m) := by omega
        go_wp2_with fail
        go_roundw
        case rel => exact ⟨k + 1, m + vwt, by omega, rfl, by go_num, by omega, by omega, keep ⟨by rw [HT.out, hM.out.1], by rw [HA.out, hM.out.2, HV.out]; rfl⟩, keep hba⟩
        case measure => simp [intOf]; omega
    · obtain rfl : k = E.length := by omega
      have h := hM.out
      rw [List.take_length] at h
      have H := keep h
      clear h
      go_wp2_with fail
      go_ret2
      exact ⟨by rw [totG, H.out.2, H.out.1]; rfl, hI.out⟩
set_option maxHeartbeats 4000000 in
theorem refTotal_gen (ev : Value) (E : List Ev) (w : World)  (hE : ∀ e ∈ E, EvS e ∧ -9223372036854775808 ≤ e.wt ∧ e.wt ≤ 9223372036854775807) (hv : Sl w (lt w.heap.size) 10 ev E.length (evV E)) (hEl : E.length ≤ 1000000) :
    Calls Tryd.prog 27 #[ev] w fun x w' => x = .returned (totG E) ∧ Below w.heap.size w w' := by
  obtain ⟨A, c, rfl, hc, hv⟩ := hv.form
  go_enter Tryd.func27, Tryd.ntmps27
  go_wp2_with fail
  go_loopw [4, 5] (fun n i wr => ∃ (k : Nat) (m : Int), k ≤ E.length ∧ n = .int .i64 m ∧ i = .int .i64 k ∧ 0 ≤ m ∧ m ≤ 5040 * k ∧ Hid (m = tot (E.take k) ∧ allV (E.take k) = true) ∧ Hid (Below w.heap.size w wr)) (fun _ i _ => E.length - (intOf i).toNat)
  case atStart => exact ⟨0, 0, Nat.zero_le _, rfl, rfl, by omega, by omega, keep ⟨rfl, rfl⟩, keep (Below.refl _ _)⟩
  case round =>
    obtain ⟨k, m, hk, rfl, rfl, m0, m1, hM, hI⟩ := hrel
    have hbr := hI.out
    by_cases hlt : k < E.length
    · obtain ⟨b, o, rfl, hb, c0, c1, c2, c3, c4, c5, c6, c7, c8, c9⟩ := ev_cells (hv.below hbr (Nat.le_refl _)) hlt
      obtain ⟨hES, w0, w1⟩ := hE _ (List.getElem_mem hlt)
      have htk := tot_take hlt
      have hav := allV_take hlt
      have hbad := allV_bad hlt
      generalize E[k] = e at c0 c1 c2 c3 c4 c5 c6 c7 c8 c9 hES w0 w1 htk hav hbad
      obtain ⟨vho, vfi, vfr, vto, vln, vti, vwt, vtr, vst, vfd⟩ := e
      obtain ⟨⟨lA, ln, lc, hln⟩, ⟨fA, fn, fc, hfd⟩, htr⟩ := hES
      simp only at hln hfd htr c0 c1 c2 c3 c4 c5 c6 c7 c8 c9 w0 w1 htk hav hbad
      subst hln
      subst hfd
      clear htr
      have HT := keep htk
      have HA := keep hav
      have HB := keep hbad
      clear htk hav hbad
      have i1 : (k : Int) < (E.length : Int) := by omega
      have k1 : (k : Int) ≤ 1000000 := by omega
      obtain ⟨wo, rfl⟩ : ∃ wo : World, wo = wr := ⟨_, rfl⟩
      go_wp2_with fail
      have hba := hbr
      refine (refValid_any _ _).mono ?_
      rintro x w3 ⟨he, rfl⟩
      cases hvv : vld vwt
      · rw [hvv] at he
        subst he
        have HN := keep (HB.out hvv)
        clear hvv HB HA
        go_wp2_with fail
        go_ret2
        exact ⟨by rw [totG, HN.out]; rfl, hba⟩
      · rw [hvv] at he
        subst he
        obtain ⟨v1, v2⟩ := vld_bd hvv
        have HV := keep hvv
        clear hvv
        have hs1 : IntKind.i64.wrap (9223372036854775807 - vwt) = 9223372036854775807 - vwt := IntWalk.i64_in _ (by omega)
        have hs2 : IntKind.i64.wrap (m + vwt) = m + vwt := IntWalk.i64_in _ (by omega)
        have hs3 : ¬ (9223372036854775807 - vwt < m) := by omega
        go_wp2_with fail
        go_roundw
        case rel => exact ⟨k + 1, m + vwt, by omega, rfl, by go_num, by omega, by omega, keep ⟨by rw [HT.out, hM.out.1], by rw [HA.out, hM.out.2, HV.out]; rfl⟩, keep hba⟩
        case measure => simp [intOf]; omega
    · obtain rfl : k = E.length := by omega
      have h := hM.out
      rw [List.take_length] at h
      have H := keep h
      clear h
      go_wp2_with fail
      go_ret2
      exact ⟨by rw [totG, H.out.2, H.out.1]; rfl, hI.out⟩

end Go.Proofs.YtncmbdcicjolcaaDoor
