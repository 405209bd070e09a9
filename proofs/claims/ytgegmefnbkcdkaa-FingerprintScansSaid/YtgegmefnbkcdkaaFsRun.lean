/- Do and Run: what they give. -/
import Derived.Test.YtgegmefnbkcdkaaFsDoG
import Derived.Test.YtgegmefnbkcdkaaFsLaw
namespace Go.Proofs.Ytgegmefnbkcdkaa
open Go.RowKit
/-- A change that is in bounds. -/
structure ChOk (w : World) (c : Ch) : Prop where
  r : BR w c.dv c.data
  d : c.data.length ≤ 1000000
  n : c.n ≤ 9223372036854775807
  s : c.name.size ≤ 9223372036854775807
  t : c.dst.size ≤ 9223372036854775807
theorem ChOk.up {w w' : World} {c : Ch} (h : ChOk w c) (hb : Below w.heap.size w w') : ChOk w' c := ⟨h.r.up hb, h.d, h.n, h.s, h.t⟩
def DoOut (fs : FS) (c : Ch) (w : World) (x : Ending) (w' : World) : Prop := ∃ (fs' : FS) (vN vF vO : Value), x = .returned (.tuple #[.agg #[vN, vF, vO], .int .i64 (doP fs.p c.p).1]) ∧ FsT w' vN vF vO fs' ∧ fs'.p = (doP fs.p c.p).2 ∧ Inv fs' ∧ fs'.O = fs.O ∧ Below w.heap.size w w'
/-- A list of changes in memory. -/
structure ChsR (w : World) (v : Value) (L : List Ch) : Prop where
  s : Sl w (lt w.heap.size) 5 v L.length (L.flatMap fun c => (chV c).toList)
  c : ∀ c ∈ L, ChOk w c
theorem ChsR.up {w w' : World} {v : Value} {L : List Ch} (h : ChsR w v L) (hb : Below w.heap.size w w') : ChsR w' v L := ⟨h.s.upW hb, fun c hc => (h.c c hc).up hb⟩
theorem take_succ_get {α : Type} (L : List α) (k : Nat) (h : k < L.length) : L.take (k + 1) = L.take k ++ [L[k]] := by
  rw [List.take_succ_eq_append_getElem h]
theorem own_tyNe {w : World} {base e e' size n : Nat} {v : Value} {xs : List Value} (h : w.ownsRow base e size v n xs) (ht : e ≠ e') : ∀ b, tyB w e' b → some b ≠ v.ownBlock := by
  intro b hb e
  obtain ⟨_, _, _, _, h2, _⟩ := own_at h e.symm
  exact tyB.ne h2 ht b hb rfl
theorem FsT.grownOwn {w w' : World} {base e size n : Nat} {v : Value} {xs : List Value} {vN vF vO : Value} {fs : FS} (h : FsT w vN vF vO fs) (ho : w.ownsRow base e size v n xs) (hg : w.grownBy w' v.ownBlock) (h1 : e ≠ 77) (h2 : e ≠ 72) (h3 : e ≠ 3) (h4 : e ≠ 5) : FsT w' vN vF vO fs :=
  ⟨h.n.tyGrown hg (own_tyNe ho h1), h.f.tyGrown hg (own_tyNe ho h2), h.o.tyGrown hg (own_tyNe ho h3), fun x hx => (h.d x hx).grown hg (own_noU8 ho h4)⟩
end Go.Proofs.Ytgegmefnbkcdkaa
