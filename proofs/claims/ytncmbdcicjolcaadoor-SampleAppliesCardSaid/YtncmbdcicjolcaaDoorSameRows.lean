/- SameLines and Same of fields: a row against itself. -/
import Derived.Test.YtncmbdcicjolcaaDoorApply
namespace Go.Proofs.YtncmbdcicjolcaaDoor
open Go.RowKit

theorem ln_at (L : List (Int × Int × ByteArray)) (k : Nat) (h : k < L.length) (j : Nat) (hj : j < 3) : (L.flatMap lnV)[k * 3 + j]? = (lnV L[k])[j]? := by
  induction L generalizing k with
  | nil => simp at h
  | cons a l ih =>
    rw [List.flatMap_cons]
    have ha : (lnV a).length = 3 := rfl
    cases k with
    | zero => rw [List.getElem?_append_left (by omega)]; simp
    | succ k =>
      rw [List.getElem?_append_right (by omega), ha, show (k + 1) * 3 + j - 3 = k * 3 + j by omega, ih k (by simpa using h)]
      simp
theorem fd_at (L : List (ByteArray × ByteArray)) (k : Nat) (h : k < L.length) (j : Nat) (hj : j < 2) : (L.flatMap fdV)[k * 2 + j]? = (fdV L[k])[j]? := by
  induction L generalizing k with
  | nil => simp at h
  | cons a l ih =>
    rw [List.flatMap_cons]
    have ha : (fdV a).length = 2 := rfl
    cases k with
    | zero => rw [List.getElem?_append_left (by omega)]; simp
    | succ k =>
      rw [List.getElem?_append_right (by omega), ha, show (k + 1) * 2 + j - 2 = k * 2 + j by omega, ih k (by simpa using h)]
      simp
theorem sameLines_any (v : Value) (L : List (Int × Int × ByteArray)) (w : World) (h : Sl w (lt w.heap.size) 3 v L.length (L.flatMap lnV)) (hm : L.length ≤ 1000000) :
    Calls Tryd.prog 34 #[v, v] w fun x w' => x = .returned (.bool true) ∧ Below w.heap.size w w' := by
  obtain ⟨A, c, rfl, hc, h⟩ := h.form
  go_enter Tryd.func34, Tryd.ntmps34
  go_wp2_with fail
  go_loopw [5] (fun i wr => ∃ k : Nat, k ≤ L.length ∧ i = .int .i64 k ∧ Below w.heap.size w wr) (fun i _ => L.length - (intOf i).toNat)
  case atStart => exact ⟨0, Nat.zero_le _, rfl, Below.refl _ _⟩
  case round =>
    obtain ⟨k, hk, rfl, hbr⟩ := hrel
    by_cases hlt : k < L.length
    · obtain ⟨b, o, rfl, hb, hrow⟩ := (h.below hbr (Nat.le_refl _)).row (by omega)
      have c0 : wr.cell? ⟨b, o + k * 3, none⟩ = some (.int .i64 L[k].1) := hrow _ _ ((ln_at L k hlt 0 (by omega)).trans rfl)
      have c1 : wr.cell? ⟨b, o + k * 3 + 1, none⟩ = some (.int .i64 L[k].2.1) := by have := hrow _ _ ((ln_at L k hlt 1 (by omega)).trans rfl); rwa [← Nat.add_assoc] at this
      have c2 : wr.cell? ⟨b, o + k * 3 + 2, none⟩ = some (.string L[k].2.2) := by have := hrow _ _ ((ln_at L k hlt 2 (by omega)).trans rfl); rwa [← Nat.add_assoc] at this
      generalize L[k] = p at c0 c1 c2
      have i1 : (k : Int) < (L.length : Int) := by omega
      have i2 : (k : Int) ≤ 1000000 := by omega
      go_wp2_with fail
      go_region
      all_goals go_wp2_with fail
      all_goals go_roundw
      case rel => exact ⟨k + 1, by omega, by go_num, hbr.drew⟩
      case measure => simp [intOf]; omega
    · obtain rfl : k = L.length := by omega
      go_wp2_with fail
      go_ret
      exact ⟨rfl, hbr⟩
theorem sameFields_any (v : Value) (L : List (ByteArray × ByteArray)) (w : World) (h : Sl w (lt w.heap.size) 2 v L.length (L.flatMap fdV)) (hm : L.length ≤ 1000000) :
    Calls Tryd.prog 35 #[v, v] w fun x w' => x = .returned (.bool true) ∧ Below w.heap.size w w' := by
  obtain ⟨A, c, rfl, hc, h⟩ := h.form
  go_enter Tryd.func35, Tryd.ntmps35
  go_wp2_with fail
  go_loopw [5] (fun i wr => ∃ k : Nat, k ≤ L.length ∧ i = .int .i64 k ∧ Below w.heap.size w wr) (fun i _ => L.length - (intOf i).toNat)
  case atStart => exact ⟨0, Nat.zero_le _, rfl, Below.refl _ _⟩
  case round =>
    obtain ⟨k, hk, rfl, hbr⟩ := hrel
    by_cases hlt : k < L.length
    · obtain ⟨b, o, rfl, hb, hrow⟩ := (h.below hbr (Nat.le_refl _)).row (by omega)
      have c0 : wr.cell? ⟨b, o + k * 2, none⟩ = some (.string L[k].1) := hrow _ _ ((fd_at L k hlt 0 (by omega)).trans rfl)
      have c1 : wr.cell? ⟨b, o + k * 2 + 1, none⟩ = some (.string L[k].2) := by have := hrow _ _ ((fd_at L k hlt 1 (by omega)).trans rfl); rwa [← Nat.add_assoc] at this
      generalize L[k] = p at c0 c1
      have i1 : (k : Int) < (L.length : Int) := by omega
      have i2 : (k : Int) ≤ 1000000 := by omega
      go_wp2_with fail
      go_region
      all_goals go_wp2_with fail
      all_goals go_roundw
      case rel => exact ⟨k + 1, by omega, by go_num, hbr.drew⟩
      case measure => simp [intOf]; omega
    · obtain rfl : k = L.length := by omega
      go_wp2_with fail
      go_ret
      exact ⟨rfl, hbr⟩
end Go.Proofs.YtncmbdcicjolcaaDoor
