/- Contract of strings.HasPrefix. -/
import Derived.Test.YtgegmefnbkcdkaaDoorBytes
namespace Go.Proofs.YtgegmefnbkcdkaaDoor
open Go.RowKit
/-- Does t begin with p? -/
def pre (p t : ByteArray) : Bool := decide (p.data.toList <+: t.data.toList)
theorem pre_short {p t : ByteArray} (h : ¬ p.size ≤ t.size) : pre p t = false := by
  rw [pre, decide_eq_false_iff_not]
  intro hp
  have := hp.length_le
  simp at this
  omega
theorem pre_list (p t : ByteArray) : ((t.extract 0 p.size).toList == p.toList) = pre p t := by
  rw [Bool.eq_iff_iff, pre, decide_eq_true_iff, List.prefix_iff_eq_take]
  simp [ByteArray.toList_eq]
  exact eq_comm
theorem litePrefix_any (t p : ByteArray) (w : World) : Calls Tryd.prog 27 #[.string t, .string p] w fun e w' => e = .returned (.bool (pre p t)) ∧ w = w' := by
  by_cases hlen : p.size ≤ t.size
  · have d : decide (p.size ≤ t.size) = true := by simpa using hlen
    go_enter Tryd.func27, Tryd.ntmps27
    go_wp2_with fail
    go_ret
    refine ⟨ret_bool ?_, rfl⟩
    rw [Bool.eq_iff_iff, pre, decide_eq_true_iff, List.prefix_iff_eq_take]
    simp [ByteArray.toList_eq]
    exact eq_comm
  · have d : decide (p.size ≤ t.size) = false := by simpa using hlen
    rw [pre_short hlen]
    go_enter Tryd.func27, Tryd.ntmps27
    go_wp2_with fail
    go_ret
    exact ⟨rfl, rfl⟩
theorem strPrefix_any (t p : ByteArray) (w : World) : Calls Tryd.prog 16 #[.string t, .string p] w fun e w' => e = .returned (.bool (pre p t)) ∧ w = w' := by
  go_enter Tryd.func16, Tryd.ntmps16
  go_wp2_with fail
  refine (litePrefix_any _ _ _).mono ?_
  rintro e w' ⟨rfl, rfl⟩
  go_wp2_with fail
  go_ret
  exact ⟨rfl, rfl⟩
end Go.Proofs.YtgegmefnbkcdkaaDoor
