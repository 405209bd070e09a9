/- What the boxes of postings.Encode hold between two rounds of its range over slices.Chunk. -/
import Derived.Test.YtihimbmbhmgjoaaRefEnc
namespace Go.Proofs.Ytihimbmbhmgjoaa
open Go.RowKit

theorem OwnB.cells {w : World} {B : Nat} {v : Value} {l : List UInt8} (h : OwnB w B v l) : ∀ k, v.ownBlock = some k → ∃ cur fz, w.heap[k]? = some (.cells cur 5 fz) := by
  intro k hk
  rcases h with ⟨rfl, _⟩ | ⟨g, cap, cur, fz, rfl, _, hg, _⟩
  · cases hk
  · obtain rfl : g = k := by simpa [Value.ownBlock] using hk
    exact ⟨cur, fz, hg⟩
/-- A box of another type is not the row's block. -/
theorem boxed_apart {w : World} {B b t : Nat} {v u : Value} {l : List UInt8} (h : Boxed w b t u) (ht : t ≠ 5) (ho : OwnB w B v l) : ¬ Oset v b := by
  intro hk
  obtain ⟨cur, fz, hg⟩ := ho.cells b hk
  have := (show w.heap[b]? = _ from h).symm.trans hg
  simp at this
  exact ht this.2.1
theorem boxed_off {w w' : World} {b t : Nat} {u : Value} {S : Nat → Prop} (h : Boxed w b t u) (ho : Off S w w') (hn : ¬ S b) : Boxed w' b t u := (ho.block b h.lt hn).trans h
/-- An append and the store of what it hands back keep whatever is no cells. -/
theorem Put1.others {w w' : World} {B : Nat} {v v' : Value} {l l' : List UInt8} (p : Put1 w B v v' l' w') (h : OwnB w B v l) : KeepsOthers w w' :=
  ⟨p.f.size, fun k o hk ho => (p.f.block k (Array.getElem?_eq_some_iff.1 hk).1 (fun hs => by
    obtain ⟨cur, fz, hg⟩ := h.cells k hs
    rw [hg] at hk
    cases hk
    cases ho)).trans hk⟩
theorem OwnB.set_off {w : World} {B : Nat} {v : Value} {l : List UInt8} (h : OwnB w B v l) {b : Nat} (hb : ¬ Oset v b) (u : Value) : OwnB (w.setCell ⟨b, 0, none⟩ u) B v l :=
  h.off (Off.set_ (S := fun k => k = b) (Off.refl _ _) (.inl rfl) u) (fun _ hk e => hb (e ▸ hk))

structure EI (w : World) (Bb Bk Bs Bn : Nat) (vs : Value) (vb vk : Value) (LH LB : List UInt8) (W : World) : Prop where
  bb : Boxed W Bb 22 vb
  bk : Boxed W Bk 22 vk
  bs : Boxed W Bs 26 vs
  bn : Boxed W Bn 3 (.int .i64 32)
  t : Two w W vb vk LH LB
  lo : w.heap.size ≤ Bb ∧ w.heap.size ≤ Bk
  ne : Bb ≠ Bk ∧ Bb ≠ Bs ∧ Bb ≠ Bn ∧ Bk ≠ Bs ∧ Bk ≠ Bn
section
variable {w : World} {Bb Bk Bs Bn : Nat} {vs vb vk v' : Value} {LH LB L' : List UInt8} {W W' : World}
theorem EI.swap (h : EI w Bb Bk Bs Bn vs vb vk LH LB W) : EI w Bk Bb Bs Bn vs vk vb LB LH W := ⟨h.bk, h.bb, h.bs, h.bn, h.t.swap, ⟨h.lo.2, h.lo.1⟩, ⟨fun e => h.ne.1 e.symm, h.ne.2.2.2.1, h.ne.2.2.2.2, h.ne.2.1, h.ne.2.2.1⟩⟩
/-- An append to the first row: the boxes hold what they held. -/
structure EI1 (w : World) (Bb Bk Bs Bn : Nat) (vs vb vb' vk : Value) (LH' LB : List UInt8) (W W' : World) : Prop where
  bb : Boxed W' Bb 22 vb
  bk : Boxed W' Bk 22 vk
  bs : Boxed W' Bs 26 vs
  bn : Boxed W' Bn 3 (.int .i64 32)
  t : Two w W' vb' vk LH' LB
  k : KeepsOthers W W'
theorem EI.put (h : EI w Bb Bk Bs Bn vs vb vk LH LB W) (p : Put1 W w.heap.size vb v' L' W') : EI1 w Bb Bk Bs Bn vs vb v' vk L' LB W W' :=
  ⟨boxed_off h.bb p.f (boxed_apart h.bb (by decide) h.t.h), boxed_off h.bk p.f (boxed_apart h.bk (by decide) h.t.h), boxed_off h.bs p.f (boxed_apart h.bs (by decide) h.t.h), boxed_off h.bn p.f (boxed_apart h.bn (by decide) h.t.h), h.t.onH p, p.others h.t.h⟩
theorem Two.set_ {b t : Nat} {u x : Value} (h : Two w W vb vk LH LB) (hx : Boxed W b t x) (ht : t ≠ 5) (hb : w.heap.size ≤ b) : Two w (W.setCell ⟨b, 0, none⟩ u) vb vk LH LB :=
  ⟨h.h.set_off (boxed_apart hx ht h.h) u, h.b.set_off (boxed_apart hx ht h.b) u, h.d, h.m.setCell (p := ⟨b, 0, none⟩) hb u⟩
theorem EI.store (h : EI w Bb Bk Bs Bn vs vb vk LH LB W) (k : EI1 w Bb Bk Bs Bn vs vb v' vk L' LB W W') : EI w Bb Bk Bs Bn vs v' vk L' LB (W'.setCell ⟨Bb, 0, none⟩ v') :=
  ⟨k.bb.set v', k.bk.other (fun e => h.ne.1 e.symm) v', k.bs.other (fun e => h.ne.2.1 e.symm) v', k.bn.other (fun e => h.ne.2.2.1 e.symm) v', k.t.set_ k.bb (by decide) h.lo.1, h.lo, h.ne⟩
theorem EI.kp (h : EI w Bb Bk Bs Bn vs vb vk LH LB W) {vb' vk' : Value} {LH' LB' : List UInt8} (k : EI w Bb Bk Bs Bn vs vb' vk' LH' LB' W') : Kp2 Bs Bn W W' :=
  ⟨k.bs.cell.trans h.bs.cell.symm, k.bn.cell.trans h.bn.cell.symm⟩
theorem EI.drew (h : EI w Bb Bk Bs Bn vs vb vk LH LB W) : EI w Bb Bk Bs Bn vs vb vk LH LB W.drew := ⟨h.bb, h.bk, h.bs, h.bn, ⟨h.t.h.drew, h.t.b.drew, h.t.d, h.t.m.drew⟩, h.lo, h.ne⟩
theorem boxed_row {b t : Nat} {u : Value} {row : Option Nat} (h : Boxed W b t u) (hr : ∀ r, row = some r → ∃ o : Obj, W.heap[r]? = some o ∧ o.isCells = false) : some b ≠ row := by
  intro e
  obtain ⟨o, ho, hc⟩ := hr b e.symm
  rw [show W.heap[b]? = _ from h] at ho
  cases ho
  cases hc
theorem own_row {B : Nat} {v : Value} {l : List UInt8} {row : Option Nat} (h : OwnB W B v l) (hr : ∀ r, row = some r → ∃ o : Obj, W.heap[r]? = some o ∧ o.isCells = false) : v.ownBlock = none ∨ v.ownBlock ≠ row := by
  cases hv : v.ownBlock with
  | none => exact .inl rfl
  | some k =>
    refine .inr fun e => ?_
    obtain ⟨cur, fz, hg⟩ := h.cells k hv
    obtain ⟨o, ho, hc⟩ := hr k e.symm
    rw [hg] at ho
    cases ho
    cases hc
theorem EI.own {row : Option Nat} (h : EI w Bb Bk Bs Bn vs vb vk LH LB W) (hg : W.grownBy W' row) (hr : ∀ r, row = some r → w.heap.size ≤ r ∧ ∃ o : Obj, W.heap[r]? = some o ∧ o.isCells = false) : EI w Bb Bk Bs Bn vs vb vk LH LB W' := by
  have hr' := fun r e => (hr r e).2
  exact ⟨h.bb.kept hg (boxed_row h.bb hr'), h.bk.kept hg (boxed_row h.bk hr'), h.bs.kept hg (boxed_row h.bs hr'), h.bn.kept hg (boxed_row h.bn hr'),
    ⟨h.t.h.kept hg (own_row h.t.h hr'), h.t.b.kept hg (own_row h.t.b hr'), h.t.d, h.t.m.grown hg h.t.m.size (fun k e => (hr k e).1)⟩, h.lo, h.ne⟩
end
end Go.Proofs.Ytihimbmbhmgjoaa
