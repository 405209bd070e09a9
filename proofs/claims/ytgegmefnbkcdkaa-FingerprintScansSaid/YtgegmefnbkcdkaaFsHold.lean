/- Hold: what it gives. -/
import Derived.Test.YtgegmefnbkcdkaaFsRead
namespace Go.Proofs.Ytgegmefnbkcdkaa
open Go.RowKit
def heldP (F : List PF) (is : List Int) : List Int := (F.map (·.ino)).filter fun i => is.contains i
def holdP (d : PD) (is : List Int) : PD := purgeP ⟨d.N, d.F, heldP d.F is⟩
/-- The list of held files was edited. -/
theorem FsO.putO {w w' : World} {B : Nat} {vN vF vO v' : Value} {N : List Nm} {F : List Fi} {O O' : List Int} (h : FsO w B vN vF vO ⟨N, F, O⟩) (hg : w.grownBy w' vO.ownBlock) (ho : w'.ownsRow B 3 1 v' O'.length (ints O')) : FsO w' B vN vF v' ⟨N, F, O'⟩ :=
  ⟨h.n.kept hg (own_apart h.n h.o (by decide)), h.f.kept hg (own_apart h.f h.o (by decide)), ho, fun t ht => (h.d t ht).grown hg (own_noU8 h.o (by decide))⟩
theorem one_litI (w : World) (x : Int) (t : TypeId) : Sl (w.alloc (.cells #[.int .i64 x] t)).drew (fun k => k = w.heap.size) 1 (.slice (some ⟨w.heap.size, 0, none⟩) 1 1) 1 [.int .i64 x] := by
  refine ⟨rfl, _, 1, rfl, Nat.le_refl _, fun _ => ⟨w.heap.size, 0, rfl, rfl, fun j u hu => ?_⟩⟩
  rw [Nat.zero_add]
  refine ((Blk.new w t #[.int .i64 x]).cell j).trans ?_
  simpa using hu
/-- What is held behind k rounds. -/
def hk_ (F : List Fi) (is : List Int) (k : Nat) : List Int := ((F.take k).map (·.ino)).filter fun i => is.contains i
theorem hk_yes {F : List Fi} {is : List Int} {k : Nat} (h : k < F.length) (hc : is.contains F[k].ino = true) : hk_ F is (k + 1) = hk_ F is k ++ [F[k].ino] := by
  unfold hk_
  rw [take_succ_get F k h, List.map_append, List.filter_append, List.map_singleton, List.filter_cons, if_pos hc, List.filter_nil]
theorem hk_no {F : List Fi} {is : List Int} {k : Nat} (h : k < F.length) (hc : is.contains F[k].ino = false) : hk_ F is (k + 1) = hk_ F is k := by
  unfold hk_
  rw [take_succ_get F k h, List.map_append, List.filter_append, List.map_singleton, List.filter_cons, if_neg (by rw [hc]; simp), List.filter_nil, List.append_nil]
theorem hk_len (F : List Fi) (is : List Int) (k : Nat) (h : k ≤ F.length) : (hk_ F is k).length ≤ k := by
  unfold hk_
  refine Nat.le_trans (List.length_filter_le _ _) ?_
  rw [List.length_map, List.length_take]; omega
theorem hk_all (F : List Fi) (is : List Int) : hk_ F is F.length = heldP (F.map Fi.p) is := by
  unfold hk_ heldP
  rw [List.take_length, List.map_map]
  rfl
theorem PInv.held {fs : FS} (h : Inv fs) (is : List Int) : PInv ⟨fs.N, fs.F, hk_ fs.F is fs.F.length⟩ := by
  refine ⟨h.n, h.f, h.a, h.v, h.p, h.d, h.l, h.w, h.c, ?_, h.b⟩
  show (hk_ fs.F is fs.F.length).Pairwise (· < ·)
  unfold hk_
  refine List.Pairwise.filter _ ?_
  rw [List.take_length, List.pairwise_map]
  exact h.f
def HoldOut (fs : FS) (is : List Int) (w : World) (x : Ending) (w' : World) : Prop := ∃ (fs' : FS) (vN vF vO : Value), x = .returned (.agg #[vN, vF, vO]) ∧ FsT w' vN vF vO fs' ∧ fs'.p = holdP fs.p is ∧ Inv fs' ∧ fs'.O.length ≤ fs.F.length ∧ Below w.heap.size w w'
end Go.Proofs.Ytgegmefnbkcdkaa
