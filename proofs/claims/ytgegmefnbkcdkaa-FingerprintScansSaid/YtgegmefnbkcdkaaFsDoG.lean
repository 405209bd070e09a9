/- Do: a change of a right kind. -/
import Derived.Test.YtgegmefnbkcdkaaFsDo
namespace Go.Proofs.Ytgegmefnbkcdkaa
open Go.RowKit
/-- Are the names of a change wrong? -/
def badNm (c : Ch) : Bool := !vld c.name || ((c.kind == 4 || c.kind == 5) && !vld c.dst)
theorem Blk.cell3 {w : World} {g : Nat} {t : TypeId} {a b c : Value} (h : Blk w g t #[a, b, c]) : w.cell? ⟨g, 0, none⟩ = some a ∧ w.cell? ⟨g, 1, none⟩ = some b ∧ w.cell? ⟨g, 2, none⟩ = some c := ⟨(h.cell 0).trans rfl, (h.cell 1).trans rfl, (h.cell 2).trans rfl⟩
theorem Blk.froz3 {w : World} {g : Nat} {t : TypeId} {cs : Array Value} (h : Blk w g t cs) : w.frozen? ⟨g, 0, none⟩ = false ∧ w.frozen? ⟨g, 1, none⟩ = false ∧ w.frozen? ⟨g, 2, none⟩ = false := ⟨h.frozen 0, h.frozen 1, h.frozen 2⟩
/-- Three cells of a box are written. -/
theorem Blk.three {w : World} {g : Nat} {t : TypeId} {a0 a1 a2 : Value} (h : Blk w g t #[a0, a1, a2]) (b0 b1 b2 : Value) :
    Blk (((w.setCell ⟨g, 0, none⟩ b0).setCell ⟨g, 1, none⟩ b1).setCell ⟨g, 2, none⟩ b2) g t #[b0, b1, b2] := ((h.set_ 0 b0).set_ 1 b1).set_ 2 b2
theorem below_three {B g : Nat} {a w : World} (h : Below B a w) (hg : B ≤ g) (b0 b1 b2 : Value) :
    Below B a (((w.setCell ⟨g, 0, none⟩ b0).setCell ⟨g, 1, none⟩ b1).setCell ⟨g, 2, none⟩ b2) :=
  ((h.setCell (p := ⟨g, 0, none⟩) hg b0).setCell (p := ⟨g, 1, none⟩) hg b1).setCell (p := ⟨g, 2, none⟩) hg b2
theorem grown_three (w : World) (g : Nat) (b0 b1 b2 : Value) :
    w.grownBy (((w.setCell ⟨g, 0, none⟩ b0).setCell ⟨g, 1, none⟩ b1).setCell ⟨g, 2, none⟩ b2) (some g) :=
  grownBy_set (grownBy_set (grownBy_set (World.grownBy.refl w _) 0 b0) 1 b1) 2 b2
theorem badNm_no {c : Ch} (h : badNm c = false) : vld c.name = true ∧ ((c.kind = 4 ∨ c.kind = 5) → vld c.dst = true) := by
  unfold badNm at h
  simp only [Bool.or_eq_false_iff, Bool.not_eq_false', Bool.and_eq_false_iff, beq_eq_false_iff_ne, ne_eq] at h
  refine ⟨h.1, fun hk => ?_⟩
  rcases h.2 with h2 | h2
  · rcases hk with h3 | h3
    · exact absurd h3 h2.1
    · exact absurd h3 h2.2
  · exact h2
end Go.Proofs.Ytgegmefnbkcdkaa
