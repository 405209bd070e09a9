/- Contract of the reference's SameInts at two slices with the same elements. -/
import Derived.Test.YtihimbmbhmgjoaaLib
namespace Go.Proofs.Ytihimbmbhmgjoaa
open Go.RowKit

theorem Sl.up {w w' : World} {size n : Nat} {v : Value} {xs : List Value} (h : Sl w (lt w.heap.size) size v n xs) (hb : Below w.heap.size w w') : Sl w' (lt w'.heap.size) size v n xs := (h.below hb (Nat.le_refl _)).more hb.size

theorem sameInts_true (v1 v2 : Value) (l : List Int) (w : World) (h1 : Sl w (lt w.heap.size) 1 v1 l.length (l.map (.int .i64))) (h2 : Sl w (lt w.heap.size) 1 v2 l.length (l.map (.int .i64))) (hm : l.length ≤ maxLen) :
    Calls Try.prog 12 #[v1, v2] w fun e w' => e = .returned (.bool true) ∧ Below w.heap.size w w' := by
  unfold maxLen at hm
  obtain ⟨A, c, rfl, hc, h1⟩ := h1.form
  obtain ⟨A', c', rfl, hc', h2⟩ := h2.form
  go_enter Try.func12, Try.ntmps12
  go_wp2
  go_loopw [5] (fun i wr => ∃ k : Nat, k ≤ l.length ∧ i = .int .i64 k ∧ Below w.heap.size w wr) (fun i _ => l.length - (intOf i).toNat)
  case atStart => exact ⟨0, Nat.zero_le _, rfl, Below.refl _ _⟩
  case round =>
    obtain ⟨k, hk, rfl, hb⟩ := hrel
    by_cases hlt : k < l.length
    · obtain ⟨b1, o1, u1, rfl, hb1, hx1, hc1⟩ := (h1.below hb (Nat.le_refl _)).at_ hlt
      obtain ⟨b2, o2, u2, rfl, hb2, hx2, hc2⟩ := (h2.below hb (Nat.le_refl _)).at_ hlt
      have hu : u1 = .int .i64 l[k] := by simpa [hlt] using hx1.symm
      have hu2 : u2 = .int .i64 l[k] := by simpa [hlt] using hx2.symm
      subst hu hu2
      have hi1 : (0 : Int) ≤ (k : Int) := by omega
      have hi2 : (k : Int) < (l.length : Int) := by omega
      clear hx1 hx2
      go_wp2
      go_quiet (fail)
      go_wp2
      go_roundw
      case rel => exact ⟨k + 1, by omega, by go_num, below_drewN hb _⟩
      case measure => simp [intOf]; omega
    · go_wp2
      go_ret
      exact ⟨rfl, hb⟩
end Go.Proofs.Ytihimbmbhmgjoaa
