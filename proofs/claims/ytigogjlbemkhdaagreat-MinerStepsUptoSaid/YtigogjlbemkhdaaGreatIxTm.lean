/- slices.IndexFunc at logtide/api.Template: the closure by its contract. -/
import Derived.Test.YtigogjlbemkhdaaGreatTmAtW
namespace Go.Proofs.YtigogjlbemkhdaaGreat
open Go.RowKit
/-- The index of the first element that a predicate takes, or -1. -/
def Fst_tm (p : Tm → Bool) (L : List Tm) (r : Int) : Prop := (r = -1 ∧ ∀ t ∈ L, p t = false) ∨ ∃ i : Nat, r = (i : Int) ∧ ∃ h : i < L.length, p L[i] = true ∧ ∀ j, (hj : j < i) → p (L[j]'(by omega)) = false
def IxRes_tm (p : Tm → Bool) (L : List Tm) (w : World) (x : Ending) (w' : World) : Prop := ∃ r : Int, x = .returned (.int .i64 r) ∧ Fst_tm p L r ∧ Below w.heap.size w w'
set_option maxHeartbeats 4000000 in
set_option maxRecDepth 100000 in
theorem index_tm (g : FuncId) (v : Value) (cb : Array Value) (p : Tm → Bool) (L : List Tm) (w : World) (eg : ∀ args w, (callFunc g args).run Tryz.prog w = .ok (.enter g args) w) (hs : Sl w (lt w.heap.size) 2 v L.length (tms L))
    (hc : ∀ t ∈ L, ∀ W, Below w.heap.size w W → Calls Tryz.prog g (#[.agg (tmV t).toArray] ++ cb) W fun e W' => e = .returned (.bool (p t)) ∧ Below W.heap.size W W') (hm : L.length ≤ 1048576) :
    Calls Tryz.prog 101 #[v, .func (.func g) #[] cb] w (IxRes_tm p L w) := by
  obtain ⟨A, c, rfl, _, hs⟩ := hs.form
  have HC := keep hc
  have HS := keep hs
  clear hc hs
  go_enter Tryz.func101, Tryz.ntmps101
  go_wp2_with fail
  go_loopw [5, 8] (fun _ i wr => ∃ k : Nat, k ≤ L.length ∧ i = .int .i64 k ∧ Hid (∀ j, (hj : j < k) → (h : j < L.length) → p L[j] = false) ∧ Hid (Below w.heap.size w wr)) (fun _ i _ => L.length - (intOf i).toNat)
  case atStart => exact ⟨0, Nat.zero_le _, rfl, keep (fun j hj _ => absurd hj (by omega)), keep (Below.refl _ _)⟩
  case round =>
    obtain ⟨k, hk, rfl, hP, hB⟩ := hrel
    obtain ⟨wo, rfl⟩ : ∃ wo : World, wo = wr := ⟨_, rfl⟩
    by_cases hlt : k < L.length
    · obtain ⟨b1, o1, rfl, _, c0, c1⟩ := tm_cells (HS.out.below hB.out (Nat.le_refl _)) hlt
      have hcl := HC.out _ (List.getElem_mem hlt) wo hB.out
      obtain ⟨t, ht⟩ : ∃ t, L[k] = t := ⟨_, rfl⟩
      rw [ht] at hcl c0 c1
      have HT := keep ht
      have HCL := keep hcl
      clear hcl ht
      have i1 : (k : Int) < (L.length : Int) := by omega
      have i2 : (k : Int) ≤ 1048576 := by omega
      go_wp2_with fail
      refine (HCL.out).mono ?_
      rintro e w1 ⟨rfl, hb1⟩
      have hBn := hB.out.trans (hb1.mono hB.out.size)
      cases hp : p t with
      | true =>
        have HP := keep hp
        clear hp
        go_wp2_with fail
        go_ret
        exact ⟨k, rfl, .inr ⟨k, rfl, hlt, by rw [HT.out]; exact HP.out, fun j hj => hP.out j hj (by omega)⟩, hBn⟩
      | false =>
        have HP := keep hp
        clear hp
        go_wp2_with fail
        go_roundw
        case rel =>
          refine ⟨k + 1, by omega, by go_num, keep (fun j hj h => ?_), keep hBn⟩
          by_cases e : j = k
          · subst e; rw [HT.out]; exact HP.out
          · exact hP.out j (by omega) h
        case measure => simp [intOf]; omega
    · go_wp2_with fail
      go_ret
      exact ⟨-1, rfl, .inl ⟨rfl, fun t ht => by obtain ⟨j, hj, rfl⟩ := List.getElem_of_mem ht; exact hP.out j (by omega) hj⟩, hB.out⟩
theorem fst_any_tm {p : Tm → Bool} {L : List Tm} {r : Int} (h : Fst_tm p L r) : decide (0 ≤ r) = L.any p := by
  rcases h with ⟨rfl, h⟩ | ⟨i, rfl, hi, h1, _⟩
  · have : L.any p = false := by rw [List.any_eq_false]; intro x hx; rw [h x hx]; simp
    rw [this]; rfl
  · have : L.any p = true := List.any_eq_true.2 ⟨_, List.getElem_mem hi, h1⟩
    rw [this]; simp
set_option maxHeartbeats 4000000 in
theorem contains_tm (g : FuncId) (v : Value) (cb : Array Value) (p : Tm → Bool) (L : List Tm) (w : World) (eg : ∀ args w, (callFunc g args).run Tryz.prog w = .ok (.enter g args) w) (hs : Sl w (lt w.heap.size) 2 v L.length (tms L))
    (hc : ∀ t ∈ L, ∀ W, Below w.heap.size w W → Calls Tryz.prog g (#[.agg (tmV t).toArray] ++ cb) W fun e W' => e = .returned (.bool (p t)) ∧ Below W.heap.size W W') (hm : L.length ≤ 1048576) :
    Calls Tryz.prog 86 #[v, .func (.func g) #[] cb] w fun e w' => e = .returned (.bool (L.any p)) ∧ Below w.heap.size w w' := by
  have H := keep (index_tm g v cb p L w eg hs hc hm)
  clear hs hc hm eg
  go_enter Tryz.func86, Tryz.ntmps86
  go_wp2_with fail
  refine H.out.mono ?_
  rintro e w1 ⟨r, rfl, hf, hb⟩
  have HF := keep (fst_any_tm hf)
  clear hf H
  go_wp2_with fail
  go_ret
  exact ⟨by rw [← HF.out]; first | rfl | simp, hb⟩
end Go.Proofs.YtigogjlbemkhdaaGreat
