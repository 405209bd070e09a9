/- slices.BinarySearchFunc at Tm: the closure by its contract. -/
import Derived.Test.YtigogjlbemkhdaaGreatTmSearch
namespace Go.Proofs.YtigogjlbemkhdaaGreat
open Go.RowKit
def cfAt_ts (cf : Tm → Int) (L : List Tm) (j : Nat) : Int := match L[j]? with | some t => cf t | none => 1
theorem cfAt_ts_in {cf : Tm → Int} {L : List Tm} {j : Nat} (h : j < L.length) : cfAt_ts cf L j = cf L[j] := by unfold cfAt_ts; rw [List.getElem?_eq_getElem h]
theorem cfAt_ts_out {cf : Tm → Int} {L : List Tm} {j : Nat} (h : L.length ≤ j) : cfAt_ts cf L j = 1 := by unfold cfAt_ts; rw [List.getElem?_eq_none h]
/-- The place that the search finds. -/
def At_ts (cf : Tm → Int) (L : List Tm) (i : Nat) : Prop := i ≤ L.length ∧ (∀ j, j < i → cfAt_ts cf L j < 0) ∧ ∀ j, i ≤ j → 0 ≤ cfAt_ts cf L j
def BsRes_ts (cf : Tm → Int) (L : List Tm) (w : World) (x : Ending) (w' : World) : Prop := ∃ i : Nat, At_ts cf L i ∧ x = .returned (.tuple #[.int .i64 i, .bool (decide (cfAt_ts cf L i = 0))]) ∧ Below w.heap.size w w'
set_option maxHeartbeats 4000000 in
set_option maxRecDepth 100000 in
theorem bsearch_ts (g : FuncId) (v tv : Value) (cb : Array Value) (cf : Tm → Int) (L : List Tm) (w : World) (eg : ∀ args w, (callFunc g args).run Tryz.prog w = .ok (.enter g args) w) (hs : Sl w (lt w.heap.size) 2 v L.length (tms L))
    (hc : ∀ t ∈ L, ∀ W, Below w.heap.size w W → Calls Tryz.prog g (#[.agg (tmV t).toArray, tv] ++ cb) W fun e W' => e = .returned (.int .i64 (cf t)) ∧ Below W.heap.size W W')
    (hmono : ∀ a b, a ≤ b → b < L.length → cfAt_ts cf L b < 0 → cfAt_ts cf L a < 0) (hm : L.length ≤ 1048576) :
    Calls Tryz.prog 83 #[v, tv, .func (.func g) #[] cb] w (BsRes_ts cf L w) := by
  obtain ⟨A, c, rfl, _, hs⟩ := hs.form
  have HC := keep hc
  have HM := keep hmono
  have HS := keep hs
  clear hc hmono hs
  go_enter Tryz.func83, Tryz.ntmps83
  go_wp2_with fail
  go_loopw [9, 10, 11] (fun i j _ wr => ∃ a b : Nat, a ≤ b ∧ b ≤ L.length ∧ i = .int .i64 a ∧ j = .int .i64 b ∧ Hid (∀ k, k < a → cfAt_ts cf L k < 0) ∧ Hid (∀ k, b ≤ k → 0 ≤ cfAt_ts cf L k) ∧ Hid (Below w.heap.size w wr)) (fun i j _ _ => (intOf j).toNat - (intOf i).toNat)
  case atStart => exact ⟨0, L.length, Nat.zero_le _, Nat.le_refl _, rfl, rfl, keep (fun k h => absurd h (by omega)), keep (fun k h => by rw [cfAt_ts_out h]; omega), keep (Below.refl _ _)⟩
  case round =>
    obtain ⟨a, b, hab, hbl, rfl, rfl, hL, hU, hB⟩ := hrel
    obtain ⟨wo, rfl⟩ : ∃ wo : World, wo = wr := ⟨_, rfl⟩
    by_cases hlt : a < b
    · have hmid : (a + b) / 2 < L.length := by omega
      obtain ⟨b1, o1, rfl, _, c0, c1⟩ := tm_cells (HS.out.below hB.out (Nat.le_refl _)) hmid
      have hcl := HC.out _ (List.getElem_mem hmid) wo hB.out
      have hci := cfAt_ts_in (cf := cf) hmid
      generalize L[(a + b) / 2] = t at hcl hci c0 c1
      have HCL := keep hcl
      have HCI := keep hci
      clear hcl hci
      have hi1 : (0 : Int) ≤ ((a : Int) + b) / 2 := by omega
      have hi2 : ((a : Int) + b) / 2 < (L.length : Int) := by omega
      go_wp2_with fail
      refine (HCL.out).mono ?_
      rintro e w1 ⟨rfl, hb1⟩
      have hBn := hB.out.trans (hb1.mono hB.out.size)
      by_cases hcmp : cf t < 0
      · have hd : decide (cf t < 0) = true := by simpa using hcmp
        go_wp2_with fail
        go_roundw
        case rel =>
          refine ⟨(a + b) / 2 + 1, b, by omega, hbl, by go_num, rfl, keep (fun k hk => ?_), hU, keep hBn⟩
          exact HM.out k ((a + b) / 2) (by omega) hmid (by rw [HCI.out]; exact hcmp)
        case measure => simp [intOf]; omega
      · have hd : decide (cf t < 0) = false := by simpa using hcmp
        go_wp2_with fail
        go_roundw
        case rel =>
          refine ⟨a, (a + b) / 2, by omega, by omega, rfl, by go_num, hL, keep (fun k hk => ?_), keep hBn⟩
          by_cases hkl : k < L.length
          · rcases Int.lt_or_le (cfAt_ts cf L k) 0 with hneg | hpos
            · have h9 := HM.out ((a + b) / 2) k hk hkl hneg
              rw [HCI.out] at h9
              omega
            · exact hpos
          · rw [cfAt_ts_out (by omega)]; omega
        case measure => simp [intOf]; omega
    · obtain rfl : a = b := by omega
      by_cases hal : a < L.length
      · obtain ⟨b1, o1, rfl, _, c0, c1⟩ := tm_cells (HS.out.below hB.out (Nat.le_refl _)) hal
        have hcl := HC.out _ (List.getElem_mem hal) wo hB.out
        have hci := cfAt_ts_in (cf := cf) hal
        generalize L[a] = t at hcl hci c0 c1
        have HCL := keep hcl
        have HCI := keep hci
        clear hcl hci
        have hi1 : (a : Int) < (L.length : Int) := by omega
        have hi2 : (a : Int) ≤ 1048576 := by omega
        go_wp2_with fail
        refine (HCL.out).mono ?_
        rintro e w1 ⟨rfl, hb1⟩
        have hBn := hB.out.trans (hb1.mono hB.out.size)
        obtain ⟨x, hx⟩ : ∃ x, cf t = x := ⟨_, rfl⟩
        rw [hx]
        have HX := keep hx
        clear hx
        go_wp2_with fail
        go_ret2
        exact ⟨a, ⟨hbl, hL.out, hU.out⟩, by rw [HCI.out, HX.out]; first | rfl | (congr 4), hBn⟩
      · go_wp2_with fail
        go_ret2
        exact ⟨a, ⟨hbl, hL.out, hU.out⟩, by rw [cfAt_ts_out (by omega)]; rfl, hB.out⟩
end Go.Proofs.YtigogjlbemkhdaaGreat
