/- slices.Insert of one element, slices.Delete of one, slices.Clone at string. -/
import Derived.Test.YtigogjlbemkhdaaGreatEdit
import Derived.Deep.RegionLaw
import Derived.Lib.Overlaps
import Derived.Lib.AppendZeros
namespace Go.Proofs.YtigogjlbemkhdaaGreat
open Go.RowKit
theorem elSg : Elem Tryz.prog 27 9 1 16 (.string ⟨#[]⟩) := ⟨Tryz.underlying27, by kernel_rfl, rfl, by decide⟩
set_option maxHeartbeats 4000000 in
set_option maxRecDepth 100000 in
/-- slices.Clone. -/
theorem clone_Sg (v : Value) (n : Nat) (xs : List Value) (w : World) (S : Nat → Prop) (h : Sl w S 1 v n xs) (h1 : ∀ u ∈ xs, u.oneCell' = true) (hS : ∀ b, S b → b < w.heap.size) (hn : n ≤ 1048576) :
    Calls Tryz.prog 54 #[v] w fun x w' => ∃ v', x = .returned v' ∧ w'.ownsRow w.heap.size 9 1 v' n xs ∧ Below w.heap.size w w' := by
  obtain ⟨A, c, rfl, hc, hs⟩ := h.form
  have H1 := keep h1
  have HS := keep hs
  clear h1 h hs
  cases A with
  | none =>
    obtain rfl : n = 0 := by
      rcases Nat.eq_zero_or_pos n with h0 | h0
      · exact h0
      · obtain ⟨_, _, h, _⟩ := HS.out.row h0; cases h
    obtain rfl : xs = [] := List.eq_nil_of_length_eq_zero (by simpa using HS.out.1)
    have hnil := fun (w : World) => Lib.run_eql_slice_nil (P := Tryz.prog) w 27 9 none 0 c 0 0 Tryz.underlying27
    go_enter Tryz.func54, Tryz.ntmps54
    go_wp2_with fail
    go_ret
    exact ⟨_, rfl, World.ownsRow_nil _ _ _ _, Below.refl _ _⟩
  | some ad =>
    have hb : Below w.heap.size w (w.alloc (.cells #[] 9)) := (Below.refl _ w).alloc (Nat.le_refl _) _
    have ho := own_empty2 w 9 1
    have hz : w.heap.size ≤ (w.alloc (.cells #[] 9)).heap.size := by simp
    have hs2 := HS.out.keep (w' := w.alloc (.cells #[] 9)) fun p hp => hb.cell (hS _ hp)
    have HS2 := keep hs2
    clear hs2
    have hnil := fun (w : World) => Lib.run_eql_slice_nil (P := Tryz.prog) w 27 9 (some ad) n c 0 0 Tryz.underlying27
    go_enter Tryz.func54, Tryz.ntmps54
    go_wp2_with (refine wpList_appendS elSg rfl _ _ rfl w.heap.size _ 0 [] rfl ho _ _ n xs rfl HS2.out H1.out (by unfold maxLen; omega) (by omega) hz ?_; intro v' w' hown' hb' hg')
    go_ret
    rw [Nat.zero_add, List.nil_append] at hown'
    exact ⟨_, rfl, hown', hb.trans hb'⟩
end Go.Proofs.YtigogjlbemkhdaaGreat
