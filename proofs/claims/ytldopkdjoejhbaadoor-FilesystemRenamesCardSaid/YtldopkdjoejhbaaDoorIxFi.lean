/- slices.IndexFunc at logtide/api.File: the closure by its contract. -/
import Derived.Test.YtldopkdjoejhbaaDoorFsBase
namespace Go.Proofs.YtldopkdjoejhbaaDoor
open Go.RowKit

/-- The index of the first element that a predicate takes, or -1. -/
def Fst_fi (p : Fi → Bool) (L : List Fi) (r : Int) : Prop := (r = -1 ∧ ∀ t ∈ L, p t = false) ∨ ∃ i : Nat, r = (i : Int) ∧ ∃ h : i < L.length, p L[i] = true ∧ ∀ j, (hj : j < i) → p (L[j]'(by omega)) = false
def IxRes_fi (p : Fi → Bool) (L : List Fi) (w : World) (x : Ending) (w' : World) : Prop := ∃ r : Int, x = .returned (.int .i64 r) ∧ Fst_fi p L r ∧ Below w.heap.size w w'
set_option maxHeartbeats 4000000 in
set_option maxRecDepth 100000 in
theorem index_fi (g : FuncId) (v : Value) (cb : Array Value) (p : Fi → Bool) (L : List Fi) (w : World) (eg : ∀ args w, (callFunc g args).run Tryd.prog w = .ok (.enter g args) w) (hs : Sl w (lt w.heap.size) 5 v L.length (fis L))
    (hc : ∀ t ∈ L, ∀ W, Below w.heap.size w W → Calls Tryd.prog g (#[.agg (fiV t).toArray] ++ cb) W fun e W' => e = .returned (.bool (p t)) ∧ Below W.heap.size W W') (hm : L.length ≤ 1000000) :
    Calls Tryd.prog 82 #[v, .func (.func g) #[] cb] w (IxRes_fi p L w) := by
  obtain ⟨A, c, rfl, _, hs⟩ := hs.form
  have HC := keep hc
  have HS := keep hs
  clear hc hs
  go_enter Tryd.func82, Tryd.ntmps82
  go_wp2_with fail
  go_loopw [5, 8] (fun _ i wr => ∃ k : Nat, k ≤ L.length ∧ i = .int .i64 k ∧ Hid (∀ j, (hj : j < k) → (h : j < L.length) → p L[j] = false) ∧ Hid (Below w.heap.size w wr)) (fun _ i _ => L.length - (intOf i).toNat)
  case atStart => exact ⟨0, Nat.zero_le _, rfl, keep (fun j hj _ => absurd hj (by omega)), keep (Below.refl _ _)⟩
  case round =>
    obtain ⟨k, hk, rfl, hP, hB⟩ := hrel
    obtain ⟨wo, rfl⟩ : ∃ wo : World, wo = wr := ⟨_, rfl⟩
    by_cases hlt : k < L.length
    · obtain ⟨b1, o1, rfl, _, c0, c1, c2, c3, c4⟩ := fi_cells (HS.out.below hB.out (Nat.le_refl _)) hlt
      have hcl := HC.out _ (List.getElem_mem hlt) wo hB.out
      obtain ⟨t, ht⟩ : ∃ t, L[k] = t := ⟨_, rfl⟩
      rw [ht] at hcl c0 c1 c2 c3 c4
      have HT := keep ht
      have HCL := keep hcl
      clear hcl ht
      have i1 : (k : Int) < (L.length : Int) := by omega
      have i2 : (k : Int) ≤ 1000000 := by omega
      go_wp2_with fail
      refine (HCL.out).mono ?_
      rintro e w1 ⟨rfl, hb1⟩
      have hBn := hB.out.trans (hb1.mono hB.out.size)
      cases hp : p t with
      | true =>
        have HP := keep hp
        clear hp
        go_wp2_with fail
        go_ret
        exact ⟨k, rfl, .inr ⟨k, rfl, hlt, by rw [HT.out]; exact HP.out, fun j hj => hP.out j hj (by omega)⟩, hBn⟩
      | false =>
        have HP := keep hp
        clear hp
        go_wp2_with fail
        go_roundw
        case rel =>
          refine ⟨k + 1, by omega, by go_num, keep (fun j hj h => ?_), keep hBn⟩
          by_cases e : j = k
          · subst e; rw [HT.out]; exact HP.out
          · exact hP.out j (by omega) h
        case measure => simp [intOf]; omega
    · go_wp2_with fail
      go_ret
      exact ⟨-1, rfl, .inl ⟨rfl, fun t ht => by obtain ⟨j, hj, rfl⟩ := List.getElem_of_mem ht; exact hP.out j (by omega) hj⟩, hB.out⟩
end Go.Proofs.YtldopkdjoejhbaaDoor
