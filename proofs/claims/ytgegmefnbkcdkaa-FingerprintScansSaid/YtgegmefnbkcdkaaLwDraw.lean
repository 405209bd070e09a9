/- The statements' draw: a directory made by changes: any directory that keeps the invariant. -/
import Derived.Test.YtgegmefnbkcdkaaMkChg
import Derived.Test.YtgegmefnbkcdkaaRfI
import Derived.Test.YtgegmefnbkcdkaaRfM
namespace Go.Proofs.Ytgegmefnbkcdkaa
open Go.RowKit
theorem heldP_len {fs : FS} (hi : Inv fs) (is : List Int) : (heldP fs.p.F is).length ≤ is.length := by
  refine nodup_sub _ _ ?_ (fun x hx => ?_)
  · unfold heldP
    refine List.Pairwise.filter _ ?_
    have h := (inos_pos hi).1
    have e : fs.p.F.map (·.ino) = fs.F.map (·.ino) := by
      show (fs.F.map Fi.p).map (·.ino) = _
      rw [List.map_map]; rfl
    rw [e]
    exact h.imp fun h => by omega
  · unfold heldP at hx
    have := (List.mem_filter.1 hx).2
    simpa using this
theorem three_lit (w : World) (x y z : Int) (t : TypeId) : Sl (w.alloc (.cells #[.int .i64 x, .int .i64 y, .int .i64 z] t)) (lt (w.alloc (.cells #[.int .i64 x, .int .i64 y, .int .i64 z] t)).heap.size) 1 (.slice (some ⟨w.heap.size, 0, none⟩) 3 3) 3 (ints [x, y, z]) := by
  refine ⟨rfl, _, 3, rfl, Nat.le_refl _, fun _ => ⟨w.heap.size, 0, rfl, (Blk.new w t #[.int .i64 x, .int .i64 y, .int .i64 z]).lt, fun j u hu => ?_⟩⟩
  rw [Nat.zero_add]
  refine ((Blk.new w t #[.int .i64 x, .int .i64 y, .int .i64 z]).cell j).trans ?_
  simpa [ints] using hu
theorem Gr.fsT {w w' : World} {gc : Nat} {vN vF vO : Value} {fs : FS} (h : FsT w vN vF vO fs) (hC : Codes w gc) (hg : w.grownBy w' (some gc)) : FsT w' vN vF vO fs := by
  obtain ⟨_, _, _, _, _, hb, _⟩ := hC
  exact h.grown hb hg (by decide) (by decide) (by decide) (by decide)
end Go.Proofs.Ytgegmefnbkcdkaa
