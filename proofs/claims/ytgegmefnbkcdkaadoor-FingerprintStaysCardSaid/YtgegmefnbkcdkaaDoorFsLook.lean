/- Lookup, New: what they give. -/
import Derived.Test.YtgegmefnbkcdkaaDoorFsRun
namespace Go.Proofs.YtgegmefnbkcdkaaDoor
open Go.RowKit
theorem new_any (w : World) : Calls Tryd.prog 9 #[] w fun x w' => x = .returned (.agg #[.slice none 0 0, .slice none 0 0, .slice none 0 0]) ∧ Below w.heap.size w w' := by
  have hb : Below w.heap.size w (w.alloc (.cells #[.slice none 0 0, .slice none 0 0, .slice none 0 0] 33)) := (Below.refl _ w).alloc (Nat.le_refl _) _
  have HB := keep hb
  clear hb
  go_enter Tryd.func9, Tryd.ntmps9
  go_wp2_with fail
  refine bodyPost_ret (results_cell_row rfl _ _ w.heap.size _ _ _ _ rfl (Blk.new _ _ _) Tryd.underlying33 rfl (by kernel_rfl)) rfl ?_
  exact ⟨rfl, HB.out⟩
end Go.Proofs.YtgegmefnbkcdkaaDoor
