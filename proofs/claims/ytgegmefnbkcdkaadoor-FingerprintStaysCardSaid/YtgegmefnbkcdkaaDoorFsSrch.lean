/- slices.BinarySearchFunc at Nm: the closure by its contract. slices.BinarySearchFunc at Fi: the closure by its contract. slices.IndexFunc at logtide/api.Name: the closure by its contract. slices.IndexFunc at logtide/api.File: the closure by its contract. -/
import Derived.Test.YtgegmefnbkcdkaaDoorFsBase
namespace Go.Proofs.YtgegmefnbkcdkaaDoor
open Go.RowKit
def cfAt_nm (cf : Nm → Int) (L : List Nm) (j : Nat) : Int := match L[j]? with | some t => cf t | none => 1
theorem cfAt_nm_in {cf : Nm → Int} {L : List Nm} {j : Nat} (h : j < L.length) : cfAt_nm cf L j = cf L[j] := by unfold cfAt_nm; rw [List.getElem?_eq_getElem h]
theorem cfAt_nm_out {cf : Nm → Int} {L : List Nm} {j : Nat} (h : L.length ≤ j) : cfAt_nm cf L j = 1 := by unfold cfAt_nm; rw [List.getElem?_eq_none h]
/-- The place that the search finds. -/
def At_nm (cf : Nm → Int) (L : List Nm) (i : Nat) : Prop := i ≤ L.length ∧ (∀ j, j < i → cfAt_nm cf L j < 0) ∧ ∀ j, i ≤ j → 0 ≤ cfAt_nm cf L j
def BsRes_nm (cf : Nm → Int) (L : List Nm) (w : World) (x : Ending) (w' : World) : Prop := ∃ i : Nat, At_nm cf L i ∧ x = .returned (.tuple #[.int .i64 i, .bool (decide (cfAt_nm cf L i = 0))]) ∧ Below w.heap.size w w'
set_option maxHeartbeats 4000000 in
set_option maxRecDepth 100000 in
theorem bsearch_nm (g : FuncId) (v tv : Value) (cb : Array Value) (cf : Nm → Int) (L : List Nm) (w : World) (eg : ∀ args w, (callFunc g args).run Tryd.prog w = .ok (.enter g args) w) (hs : Sl w (lt w.heap.size) 2 v L.length (nms L))
    (hc : ∀ t ∈ L, ∀ W, Below w.heap.size w W → Calls Tryd.prog g (#[.agg (nmV t).toArray, tv] ++ cb) W fun e W' => e = .returned (.int .i64 (cf t)) ∧ Below W.heap.size W W')
    (hmono : ∀ a b, a ≤ b → b < L.length → cfAt_nm cf L b < 0 → cfAt_nm cf L a < 0) (hm : L.length ≤ 1000000) :
    Calls Tryd.prog 93 #[v, tv, .func (.func g) #[] cb] w (BsRes_nm cf L w) := by
  obtain ⟨A, c, rfl, _, hs⟩ := hs.form
  have HC := keep hc
  have HM := keep hmono
  have HS := keep hs
  clear hc hmono hs
  go_enter Tryd.func93, Tryd.ntmps93
  go_wp2_with fail
  go_loopw [9, 10, 11] (fun i j _ wr => ∃ a b : Nat, a ≤ b ∧ b ≤ L.length ∧ i = .int .i64 a ∧ j = .int .i64 b ∧ Hid (∀ k, k < a → cfAt_nm cf L k < 0) ∧ Hid (∀ k, b ≤ k → 0 ≤ cfAt_nm cf L k) ∧ Hid (Below w.heap.size w wr)) (fun i j _ _ => (intOf j).toNat - (intOf i).toNat)
  case atStart => exact ⟨0, L.length, Nat.zero_le _, Nat.le_refl _, rfl, rfl, keep (fun k h => absurd h (by omega)), keep (fun k h => by rw [cfAt_nm_out h]; omega), keep (Below.refl _ _)⟩
  case round =>
    obtain ⟨a, b, hab, hbl, rfl, rfl, hL, hU, hB⟩ := hrel
    obtain ⟨wo, rfl⟩ : ∃ wo : World, wo = wr := ⟨_, rfl⟩
    by_cases hlt : a < b
    · have hmid : (a + b) / 2 < L.length := by omega
      obtain ⟨b1, o1, rfl, _, c0, c1⟩ := nm_cells (HS.out.below hB.out (Nat.le_refl _)) hmid
      have hcl := HC.out _ (List.getElem_mem hmid) wo hB.out
      have hci := cfAt_nm_in (cf := cf) hmid
      generalize L[(a + b) / 2] = t at hcl hci c0 c1
      have HCL := keep hcl
      have HCI := keep hci
      clear hcl hci
      have hi1 : (0 : Int) ≤ ((a : Int) + b) / 2 := by omega
      have hi2 : ((a : Int) + b) / 2 < (L.length : Int) := by omega
      go_wp2_with fail
      refine (HCL.out).mono ?_
      rintro e w1 ⟨rfl, hb1⟩
      have hBn := hB.out.trans (hb1.mono hB.out.size)
      by_cases hcmp : cf t < 0
      · have hd : decide (cf t < 0) = true := by simpa using hcmp
        go_wp2_with fail
        go_roundw
        case rel =>
          refine ⟨(a + b) / 2 + 1, b, by omega, hbl, by go_num, rfl, keep (fun k hk => ?_), hU, keep hBn⟩
          exact HM.out k ((a + b) / 2) (by omega) hmid (by rw [HCI.out]; exact hcmp)
        case measure => simp [intOf]; omega
      · have hd : decide (cf t < 0) = false := by simpa using hcmp
        go_wp2_with fail
        go_roundw
        case rel =>
          refine ⟨a, (a + b) / 2, by omega, by omega, rfl, by go_num, hL, keep (fun k hk => ?_), keep hBn⟩
          by_cases hkl : k < L.length
          · rcases Int.lt_or_le (cfAt_nm cf L k) 0 with hneg | hpos
            · have h9 := HM.out ((a + b) / 2) k hk hkl hneg
              rw [HCI.out] at h9
              omega
            · exact hpos
          · rw [cfAt_nm_out (by omega)]; omega
        case measure => simp [intOf]; omega
    · obtain rfl : a = b := by omega
      by_cases hal : a < L.length
      · obtain ⟨b1, o1, rfl, _, c0, c1⟩ := nm_cells (HS.out.below hB.out (Nat.le_refl _)) hal
        have hcl := HC.out _ (List.getElem_mem hal) wo hB.out
        have hci := cfAt_nm_in (cf := cf) hal
        generalize L[a] = t at hcl hci c0 c1
        have HCL := keep hcl
        have HCI := keep hci
        clear hcl hci
        have hi1 : (a : Int) < (L.length : Int) := by omega
        have hi2 : (a : Int) ≤ 1000000 := by omega
        go_wp2_with fail
        refine (HCL.out).mono ?_
        rintro e w1 ⟨rfl, hb1⟩
        have hBn := hB.out.trans (hb1.mono hB.out.size)
        obtain ⟨x, hx⟩ : ∃ x, cf t = x := ⟨_, rfl⟩
        rw [hx]
        have HX := keep hx
        clear hx
        go_wp2_with fail
        go_ret2
        exact ⟨a, ⟨hbl, hL.out, hU.out⟩, by rw [HCI.out, HX.out]; first | rfl | (congr 4), hBn⟩
      · go_wp2_with fail
        go_ret2
        exact ⟨a, ⟨hbl, hL.out, hU.out⟩, by rw [cfAt_nm_out (by omega)]; rfl, hB.out⟩
end Go.Proofs.YtgegmefnbkcdkaaDoor
namespace Go.Proofs.YtgegmefnbkcdkaaDoor
open Go.RowKit
def cfAt_fi (cf : Fi → Int) (L : List Fi) (j : Nat) : Int := match L[j]? with | some t => cf t | none => 1
theorem cfAt_fi_in {cf : Fi → Int} {L : List Fi} {j : Nat} (h : j < L.length) : cfAt_fi cf L j = cf L[j] := by unfold cfAt_fi; rw [List.getElem?_eq_getElem h]
theorem cfAt_fi_out {cf : Fi → Int} {L : List Fi} {j : Nat} (h : L.length ≤ j) : cfAt_fi cf L j = 1 := by unfold cfAt_fi; rw [List.getElem?_eq_none h]
/-- The place that the search finds. -/
def At_fi (cf : Fi → Int) (L : List Fi) (i : Nat) : Prop := i ≤ L.length ∧ (∀ j, j < i → cfAt_fi cf L j < 0) ∧ ∀ j, i ≤ j → 0 ≤ cfAt_fi cf L j
def BsRes_fi (cf : Fi → Int) (L : List Fi) (w : World) (x : Ending) (w' : World) : Prop := ∃ i : Nat, At_fi cf L i ∧ x = .returned (.tuple #[.int .i64 i, .bool (decide (cfAt_fi cf L i = 0))]) ∧ Below w.heap.size w w'
set_option maxHeartbeats 4000000 in
set_option maxRecDepth 100000 in
theorem bsearch_fi (g : FuncId) (v tv : Value) (cb : Array Value) (cf : Fi → Int) (L : List Fi) (w : World) (eg : ∀ args w, (callFunc g args).run Tryd.prog w = .ok (.enter g args) w) (hs : Sl w (lt w.heap.size) 5 v L.length (fis L))
    (hc : ∀ t ∈ L, ∀ W, Below w.heap.size w W → Calls Tryd.prog g (#[.agg (fiV t).toArray, tv] ++ cb) W fun e W' => e = .returned (.int .i64 (cf t)) ∧ Below W.heap.size W W')
    (hmono : ∀ a b, a ≤ b → b < L.length → cfAt_fi cf L b < 0 → cfAt_fi cf L a < 0) (hm : L.length ≤ 1000000) :
    Calls Tryd.prog 41 #[v, tv, .func (.func g) #[] cb] w (BsRes_fi cf L w) := by
  obtain ⟨A, c, rfl, _, hs⟩ := hs.form
  have HC := keep hc
  have HM := keep hmono
  have HS := keep hs
  clear hc hmono hs
  go_enter Tryd.func41, Tryd.ntmps41
  go_wp2_with fail
  go_loopw [9, 10, 11] (fun i j _ wr => ∃ a b : Nat, a ≤ b ∧ b ≤ L.length ∧ i = .int .i64 a ∧ j = .int .i64 b ∧ Hid (∀ k, k < a → cfAt_fi cf L k < 0) ∧ Hid (∀ k, b ≤ k → 0 ≤ cfAt_fi cf L k) ∧ Hid (Below w.heap.size w wr)) (fun i j _ _ => (intOf j).toNat - (intOf i).toNat)
  case atStart => exact ⟨0, L.length, Nat.zero_le _, Nat.le_refl _, rfl, rfl, keep (fun k h => absurd h (by omega)), keep (fun k h => by rw [cfAt_fi_out h]; omega), keep (Below.refl _ _)⟩
  case round =>
    obtain ⟨a, b, hab, hbl, rfl, rfl, hL, hU, hB⟩ := hrel
    obtain ⟨wo, rfl⟩ : ∃ wo : World, wo = wr := ⟨_, rfl⟩
    by_cases hlt : a < b
    · have hmid : (a + b) / 2 < L.length := by omega
      obtain ⟨b1, o1, rfl, _, c0, c1, c2, c3, c4⟩ := fi_cells (HS.out.below hB.out (Nat.le_refl _)) hmid
      have hcl := HC.out _ (List.getElem_mem hmid) wo hB.out
      have hci := cfAt_fi_in (cf := cf) hmid
      generalize L[(a + b) / 2] = t at hcl hci c0 c1 c2 c3 c4
      have HCL := keep hcl
      have HCI := keep hci
      clear hcl hci
      have hi1 : (0 : Int) ≤ ((a : Int) + b) / 2 := by omega
      have hi2 : ((a : Int) + b) / 2 < (L.length : Int) := by omega
      go_wp2_with fail
      refine (HCL.out).mono ?_
      rintro e w1 ⟨rfl, hb1⟩
      have hBn := hB.out.trans (hb1.mono hB.out.size)
      by_cases hcmp : cf t < 0
      · have hd : decide (cf t < 0) = true := by simpa using hcmp
        go_wp2_with fail
        go_roundw
        case rel =>
          refine ⟨(a + b) / 2 + 1, b, by omega, hbl, by go_num, rfl, keep (fun k hk => ?_), hU, keep hBn⟩
          exact HM.out k ((a + b) / 2) (by omega) hmid (by rw [HCI.out]; exact hcmp)
        case measure => simp [intOf]; omega
      · have hd : decide (cf t < 0) = false := by simpa using hcmp
        go_wp2_with fail
        go_roundw
        case rel =>
          refine ⟨a, (a + b) / 2, by omega, by omega, rfl, by go_num, hL, keep (fun k hk => ?_), keep hBn⟩
          by_cases hkl : k < L.length
          · rcases Int.lt_or_le (cfAt_fi cf L k) 0 with hneg | hpos
            · have h9 := HM.out ((a + b) / 2) k hk hkl hneg
              rw [HCI.out] at h9
              omega
            · exact hpos
          · rw [cfAt_fi_out (by omega)]; omega
        case measure => simp [intOf]; omega
    · obtain rfl : a = b := by omega
      by_cases hal : a < L.length
      · obtain ⟨b1, o1, rfl, _, c0, c1, c2, c3, c4⟩ := fi_cells (HS.out.below hB.out (Nat.le_refl _)) hal
        have hcl := HC.out _ (List.getElem_mem hal) wo hB.out
        have hci := cfAt_fi_in (cf := cf) hal
        generalize L[a] = t at hcl hci c0 c1 c2 c3 c4
        have HCL := keep hcl
        have HCI := keep hci
        clear hcl hci
        have hi1 : (a : Int) < (L.length : Int) := by omega
        have hi2 : (a : Int) ≤ 1000000 := by omega
        go_wp2_with fail
        refine (HCL.out).mono ?_
        rintro e w1 ⟨rfl, hb1⟩
        have hBn := hB.out.trans (hb1.mono hB.out.size)
        obtain ⟨x, hx⟩ : ∃ x, cf t = x := ⟨_, rfl⟩
        rw [hx]
        have HX := keep hx
        clear hx
        go_wp2_with fail
        go_ret2
        exact ⟨a, ⟨hbl, hL.out, hU.out⟩, by rw [HCI.out, HX.out]; first | rfl | (congr 4), hBn⟩
      · go_wp2_with fail
        go_ret2
        exact ⟨a, ⟨hbl, hL.out, hU.out⟩, by rw [cfAt_fi_out (by omega)]; rfl, hB.out⟩
end Go.Proofs.YtgegmefnbkcdkaaDoor
namespace Go.Proofs.YtgegmefnbkcdkaaDoor
open Go.RowKit
/-- The index of the first element that a predicate takes, or -1. -/
def Fst_nm (p : Nm → Bool) (L : List Nm) (r : Int) : Prop := (r = -1 ∧ ∀ t ∈ L, p t = false) ∨ ∃ i : Nat, r = (i : Int) ∧ ∃ h : i < L.length, p L[i] = true ∧ ∀ j, (hj : j < i) → p (L[j]'(by omega)) = false
def IxRes_nm (p : Nm → Bool) (L : List Nm) (w : World) (x : Ending) (w' : World) : Prop := ∃ r : Int, x = .returned (.int .i64 r) ∧ Fst_nm p L r ∧ Below w.heap.size w w'
set_option maxHeartbeats 4000000 in
set_option maxRecDepth 100000 in
theorem index_nm (g : FuncId) (v : Value) (cb : Array Value) (p : Nm → Bool) (L : List Nm) (w : World) (eg : ∀ args w, (callFunc g args).run Tryd.prog w = .ok (.enter g args) w) (hs : Sl w (lt w.heap.size) 2 v L.length (nms L))
    (hc : ∀ t ∈ L, ∀ W, Below w.heap.size w W → Calls Tryd.prog g (#[.agg (nmV t).toArray] ++ cb) W fun e W' => e = .returned (.bool (p t)) ∧ Below W.heap.size W W') (hm : L.length ≤ 1000000) :
    Calls Tryd.prog 55 #[v, .func (.func g) #[] cb] w (IxRes_nm p L w) := by
  obtain ⟨A, c, rfl, _, hs⟩ := hs.form
  have HC := keep hc
  have HS := keep hs
  clear hc hs
  go_enter Tryd.func55, Tryd.ntmps55
  go_wp2_with fail
  go_loopw [5, 8] (fun _ i wr => ∃ k : Nat, k ≤ L.length ∧ i = .int .i64 k ∧ Hid (∀ j, (hj : j < k) → (h : j < L.length) → p L[j] = false) ∧ Hid (Below w.heap.size w wr)) (fun _ i _ => L.length - (intOf i).toNat)
  case atStart => exact ⟨0, Nat.zero_le _, rfl, keep (fun j hj _ => absurd hj (by omega)), keep (Below.refl _ _)⟩
  case round =>
    obtain ⟨k, hk, rfl, hP, hB⟩ := hrel
    obtain ⟨wo, rfl⟩ : ∃ wo : World, wo = wr := ⟨_, rfl⟩
    by_cases hlt : k < L.length
    · obtain ⟨b1, o1, rfl, _, c0, c1⟩ := nm_cells (HS.out.below hB.out (Nat.le_refl _)) hlt
      have hcl := HC.out _ (List.getElem_mem hlt) wo hB.out
      obtain ⟨t, ht⟩ : ∃ t, L[k] = t := ⟨_, rfl⟩
      rw [ht] at hcl c0 c1
      have HT := keep ht
      have HCL := keep hcl
      clear hcl ht
      have i1 : (k : Int) < (L.length : Int) := by omega
      have i2 : (k : Int) ≤ 1000000 := by omega
      go_wp2_with fail
      refine (HCL.out).mono ?_
      rintro e w1 ⟨rfl, hb1⟩
      have hBn := hB.out.trans (hb1.mono hB.out.size)
      cases hp : p t with
      | true =>
        have HP := keep hp
        clear hp
        go_wp2_with fail
        go_ret
        exact ⟨k, rfl, .inr ⟨k, rfl, hlt, by rw [HT.out]; exact HP.out, fun j hj => hP.out j hj (by omega)⟩, hBn⟩
      | false =>
        have HP := keep hp
        clear hp
        go_wp2_with fail
        go_roundw
        case rel =>
          refine ⟨k + 1, by omega, by go_num, keep (fun j hj h => ?_), keep hBn⟩
          by_cases e : j = k
          · subst e; rw [HT.out]; exact HP.out
          · exact hP.out j (by omega) h
        case measure => simp [intOf]; omega
    · go_wp2_with fail
      go_ret
      exact ⟨-1, rfl, .inl ⟨rfl, fun t ht => by obtain ⟨j, hj, rfl⟩ := List.getElem_of_mem ht; exact hP.out j (by omega) hj⟩, hB.out⟩
theorem fst_any_nm {p : Nm → Bool} {L : List Nm} {r : Int} (h : Fst_nm p L r) : decide (0 ≤ r) = L.any p := by
  rcases h with ⟨rfl, h⟩ | ⟨i, rfl, hi, h1, _⟩
  · have : L.any p = false := by rw [List.any_eq_false]; intro x hx; rw [h x hx]; simp
    rw [this]; rfl
  · have : L.any p = true := List.any_eq_true.2 ⟨_, List.getElem_mem hi, h1⟩
    rw [this]; simp
set_option maxHeartbeats 4000000 in
theorem contains_nm (g : FuncId) (v : Value) (cb : Array Value) (p : Nm → Bool) (L : List Nm) (w : World) (eg : ∀ args w, (callFunc g args).run Tryd.prog w = .ok (.enter g args) w) (hs : Sl w (lt w.heap.size) 2 v L.length (nms L))
    (hc : ∀ t ∈ L, ∀ W, Below w.heap.size w W → Calls Tryd.prog g (#[.agg (nmV t).toArray] ++ cb) W fun e W' => e = .returned (.bool (p t)) ∧ Below W.heap.size W W') (hm : L.length ≤ 1000000) :
    Calls Tryd.prog 39 #[v, .func (.func g) #[] cb] w fun e w' => e = .returned (.bool (L.any p)) ∧ Below w.heap.size w w' := by
  have H := keep (index_nm g v cb p L w eg hs hc hm)
  clear hs hc hm eg
  go_enter Tryd.func39, Tryd.ntmps39
  go_wp2_with fail
  refine H.out.mono ?_
  rintro e w1 ⟨r, rfl, hf, hb⟩
  have HF := keep (fst_any_nm hf)
  clear hf H
  go_wp2_with fail
  go_ret
  exact ⟨by rw [← HF.out]; first | rfl | simp, hb⟩
end Go.Proofs.YtgegmefnbkcdkaaDoor
namespace Go.Proofs.YtgegmefnbkcdkaaDoor
open Go.RowKit
/-- The index of the first element that a predicate takes, or -1. -/
def Fst_fi (p : Fi → Bool) (L : List Fi) (r : Int) : Prop := (r = -1 ∧ ∀ t ∈ L, p t = false) ∨ ∃ i : Nat, r = (i : Int) ∧ ∃ h : i < L.length, p L[i] = true ∧ ∀ j, (hj : j < i) → p (L[j]'(by omega)) = false
def IxRes_fi (p : Fi → Bool) (L : List Fi) (w : World) (x : Ending) (w' : World) : Prop := ∃ r : Int, x = .returned (.int .i64 r) ∧ Fst_fi p L r ∧ Below w.heap.size w w'
set_option maxHeartbeats 4000000 in
set_option maxRecDepth 100000 in
theorem index_fi (g : FuncId) (v : Value) (cb : Array Value) (p : Fi → Bool) (L : List Fi) (w : World) (eg : ∀ args w, (callFunc g args).run Tryd.prog w = .ok (.enter g args) w) (hs : Sl w (lt w.heap.size) 5 v L.length (fis L))
    (hc : ∀ t ∈ L, ∀ W, Below w.heap.size w W → Calls Tryd.prog g (#[.agg (fiV t).toArray] ++ cb) W fun e W' => e = .returned (.bool (p t)) ∧ Below W.heap.size W W') (hm : L.length ≤ 1000000) :
    Calls Tryd.prog 53 #[v, .func (.func g) #[] cb] w (IxRes_fi p L w) := by
  obtain ⟨A, c, rfl, _, hs⟩ := hs.form
  have HC := keep hc
  have HS := keep hs
  clear hc hs
  go_enter Tryd.func53, Tryd.ntmps53
  go_wp2_with fail
  go_loopw [5, 8] (fun _ i wr => ∃ k : Nat, k ≤ L.length ∧ i = .int .i64 k ∧ Hid (∀ j, (hj : j < k) → (h : j < L.length) → p L[j] = false) ∧ Hid (Below w.heap.size w wr)) (fun _ i _ => L.length - (intOf i).toNat)
  case atStart => exact ⟨0, Nat.zero_le _, rfl, keep (fun j hj _ => absurd hj (by omega)), keep (Below.refl _ _)⟩
  case round =>
    obtain ⟨k, hk, rfl, hP, hB⟩ := hrel
    obtain ⟨wo, rfl⟩ : ∃ wo : World, wo = wr := ⟨_, rfl⟩
    by_cases hlt : k < L.length
    · obtain ⟨b1, o1, rfl, _, c0, c1, c2, c3, c4⟩ := fi_cells (HS.out.below hB.out (Nat.le_refl _)) hlt
      have hcl := HC.out _ (List.getElem_mem hlt) wo hB.out
      obtain ⟨t, ht⟩ : ∃ t, L[k] = t := ⟨_, rfl⟩
      rw [ht] at hcl c0 c1 c2 c3 c4
      have HT := keep ht
      have HCL := keep hcl
      clear hcl ht
      have i1 : (k : Int) < (L.length : Int) := by omega
      have i2 : (k : Int) ≤ 1000000 := by omega
      go_wp2_with fail
      refine (HCL.out).mono ?_
      rintro e w1 ⟨rfl, hb1⟩
      have hBn := hB.out.trans (hb1.mono hB.out.size)
      cases hp : p t with
      | true =>
        have HP := keep hp
        clear hp
        go_wp2_with fail
        go_ret
        exact ⟨k, rfl, .inr ⟨k, rfl, hlt, by rw [HT.out]; exact HP.out, fun j hj => hP.out j hj (by omega)⟩, hBn⟩
      | false =>
        have HP := keep hp
        clear hp
        go_wp2_with fail
        go_roundw
        case rel =>
          refine ⟨k + 1, by omega, by go_num, keep (fun j hj h => ?_), keep hBn⟩
          by_cases e : j = k
          · subst e; rw [HT.out]; exact HP.out
          · exact hP.out j (by omega) h
        case measure => simp [intOf]; omega
    · go_wp2_with fail
      go_ret
      exact ⟨-1, rfl, .inl ⟨rfl, fun t ht => by obtain ⟨j, hj, rfl⟩ := List.getElem_of_mem ht; exact hP.out j (by omega) hj⟩, hB.out⟩
end Go.Proofs.YtgegmefnbkcdkaaDoor
