/- Apply and Total of the reference, and Total of events of any weights. -/
import Derived.Test.YtncmbdcicjolcaaDoorApply
import Derived.Test.YtncmbdcicjolcaaDoorSampleRef
namespace Go.Proofs.YtncmbdcicjolcaaDoor
open Go.RowKit

set_option maxHeartbeats 8000000 in
theorem refApply_any (lv : Value) (l : List (ByteArray × Int)) (key : Int) (ev : Value) (E : List Ev) (w : World)
    (hl : Sl w (lt w.heap.size) 2 lv l.length (sam l)) (hm : l.length ≤ 1000000) (hE : ∀ e ∈ E, EvS e) (hv : Sl w (lt w.heap.size) 10 ev E.length (evV E)) (hEl : E.length ≤ 1000000) :
    Calls Tryd.prog 24 #[lv, .int .i64 key, ev] w
      fun x w' => ∃ v, x = .returned v ∧ w'.ownsRow w.heap.size 48 10 v (smp l key E).length (evV (smp l key E)) ∧ Below w.heap.size w w' := by
  obtain ⟨A, c, rfl, hc, hv⟩ := hv.form
  go_enter Tryd.func24, Tryd.ntmps24
  go_wp2_with fail
  go_loopw [7, 8, 9, 10] (fun out i _ _ wr => ∃ k : Nat, k ≤ E.length ∧ i = .int .i64 k ∧ Hid (wr.ownsRow w.heap.size 48 10 out (smp l key (E.take k)).length (evV (smp l key (E.take k))) ∧ Below w.heap.size w wr)) (fun _ i _ _ _ => E.length - (intOf i).toNat)
  case atStart => exact ⟨0, Nat.zero_le _, rfl, keep ⟨World.ownsRow_nil _ _ _ _, Below.refl _ _⟩⟩
  case round =>
    obtain ⟨k, hk, rfl, hI⟩ := hrel
    have hbr := hI.out.2
    by_cases hlt : k < E.length
    · obtain ⟨b, o, rfl, hb, c0, c1, c2, c3, c4, c5, c6, c7, c8, c9⟩ := ev_cells (hv.below hbr (Nat.le_refl _)) hlt
      have hES := hE _ (List.getElem_mem hlt)
      have hno := smp_take_no (l := l) (key := key) hlt
      have hys := smp_take_yes (l := l) (key := key) hlt
      have hsl := smp_len l key E k
      generalize E[k] = e at c0 c1 c2 c3 c4 c5 c6 c7 c8 c9 hES hno hys
      obtain ⟨vho, vfi, vfr, vto, vln, vti, vwt, vtr, vst, vfd⟩ := e
      have hES' := hES
      obtain ⟨⟨lA, ln, lc, hln⟩, ⟨fA, fn, fc, hfd⟩, htr⟩ := hES'
      simp only at hln hfd htr c0 c1 c2 c3 c4 c5 c6 c7 c8 c9 hno hys
      subst hln
      subst hfd
      have i1 : (k : Int) < (E.length : Int) := by omega
      have k2 : (k : Int) ≤ 1000000 := by omega
      have HNO := keep hno
      have HYS := keep hys
      clear hno hys
      obtain ⟨wo, rfl⟩ : ∃ wo : World, wo = wr := ⟨_, rfl⟩
      have hoa := hI.out.1
      have hz1 := hbr.size
      clear hI
      have hvw := weight_vld l vtr
      go_wp2_with fail
      refine (refWeight_any lv l vtr wo _ (hl.below hbr (Nat.le_refl _)) hm).mono ?_
      rintro x w3 ⟨rfl, rfl⟩
      obtain ⟨wt, hwt⟩ : ∃ wt, weightOf l vtr = wt := ⟨_, rfl⟩
      rw [hwt] at HNO HYS hvw ⊢
      have HV := keep hvw
      clear hvw hwt
      go_wp2_with fail
      refine (refKeep_yes key wt vtr wo (by unfold maxLen; omega) HV.out).mono ?_
      rintro x w3 ⟨rfl, hb3⟩
      have hb4 := hbr.trans (hb3.mono hz1)
      have ho4 := own_belowE hoa hb3
      have hS4 := hv.below hb4 (Nat.le_refl _)
      have hk1 : (smp l key (E.take k)).length ≤ 1000000 := by omega
      have hz4 := hb4.size
      have d0 : w3.cell? ⟨b, o + k * 10, none⟩ = _ := (hb3.cell (World.block_lt_of_cell? _ _ c0)).trans c0
      have d1 : w3.cell? ⟨b, o + k * 10 + 1, none⟩ = _ := (hb3.cell (World.block_lt_of_cell? _ _ c1)).trans c1
      have d2 : w3.cell? ⟨b, o + k * 10 + 2, none⟩ = _ := (hb3.cell (World.block_lt_of_cell? _ _ c2)).trans c2
      have d3 : w3.cell? ⟨b, o + k * 10 + 3, none⟩ = _ := (hb3.cell (World.block_lt_of_cell? _ _ c3)).trans c3
      have d4 : w3.cell? ⟨b, o + k * 10 + 4, none⟩ = _ := (hb3.cell (World.block_lt_of_cell? _ _ c4)).trans c4
      have d5 : w3.cell? ⟨b, o + k * 10 + 5, none⟩ = _ := (hb3.cell (World.block_lt_of_cell? _ _ c5)).trans c5
      have d6 : w3.cell? ⟨b, o + k * 10 + 6, none⟩ = _ := (hb3.cell (World.block_lt_of_cell? _ _ c6)).trans c6
      have d7 : w3.cell? ⟨b, o + k * 10 + 7, none⟩ = _ := (hb3.cell (World.block_lt_of_cell? _ _ c7)).trans c7
      have d8 : w3.cell? ⟨b, o + k * 10 + 8, none⟩ = _ := (hb3.cell (World.block_lt_of_cell? _ _ c8)).trans c8
      have d9 : w3.cell? ⟨b, o + k * 10 + 9, none⟩ = _ := (hb3.cell (World.block_lt_of_cell? _ _ c9)).trans c9
      clear c0 c1 c2 c3 c4 c5 c6 c7 c8 c9 hS4 hb3 hbr hoa
      cases hkp : keepB key vtr wt
      · have HP := keep (HNO.out hkp)
        clear hkp HNO HYS
        go_wp2_with fail
        go_roundw
        case rel => exact ⟨k + 1, by omega, by go_num, keep ⟨by rw [HP.out]; exact ho4, hb4⟩⟩
        case measure => simp [intOf]; omega
      · have HP := keep (HYS.out hkp)
        clear hkp HNO HYS
        have ho5 := ho4.alloc (.cells #[.int .i64 vho, .int .i64 vfi, .int .i64 vfr, .int .i64 vto, .slice lA ln lc, .int .i64 vti, .int .i64 wt, .string vtr, .string vst, .slice fA fn fc] 48)
        have hb6 := hb4.alloc hz4 (.cells #[.int .i64 vho, .int .i64 vfi, .int .i64 vfr, .int .i64 vto, .slice lA ln lc, .int .i64 vti, .int .i64 wt, .string vtr, .string vst, .slice fA fn fc] 48)
        have hz6 := hb6.size
        go_wp2_with (refine wpList_push elEv rfl rfl _ _ _ rfl rfl rfl w.heap.size _ (.agg #[.int .i64 vho, .int .i64 vfi, .int .i64 vfr, .int .i64 vto, .slice lA ln lc, .int .i64 vti, .int .i64 wt, .string vtr, .string vst, .slice fA fn fc]) _ _ rfl (fun _ => rfl) (fun _ => rfl) ho5 rfl (by simp [Value.cells, Value.oneCell']) (by omega) (by unfold maxLen; omega) (by omega) hz6 ?_; intro g cap w5 hown5 hb5 hg5 _ _)
        go_roundw
        case rel => exact ⟨k + 1, by omega, by go_num, keep ⟨by rw [HP.out, evV_snoc, List.length_append]; exact hown5, hb6.trans hb5⟩⟩
        case measure => simp [intOf]; omega
    · obtain rfl : k = E.length := by omega
      have h := hI.out
      rw [List.take_length] at h
      go_wp2_with fail
      go_ret
      exact ⟨_, rfl, h.1, h.2⟩
end Go.Proofs.YtncmbdcicjolcaaDoor
