/- The method startCopy. -/
import Derived.Test.YtgegmefnbkcdkaaFsReplace
namespace Go.Proofs.Ytgegmefnbkcdkaa
open Go.RowKit
/-- What startCopy does. -/
def StartSt (fs : FS) (c : Ch) (e : Int) (fs' : FS) : Prop :=
  ((∀ t ∈ fs.N, t.nm ≠ c.name) ∧ e = 12 ∧ fs' = fs) ∨
  ∃ (i k : Nat) (hi : i < fs.N.length) (hk : k < fs.F.length), fs.N[i].nm = c.name ∧ fs.F[k].ino = fs.N[i].ino ∧
    ((fs.F[k].cp = true ∧ fs.F[k].wh = false ∧ e = 13 ∧ fs' = fs) ∨ ((fs.F[k].cp = false ∨ fs.F[k].wh = true) ∧
      (((∃ t ∈ fs.N, t.nm = c.dst) ∧ e = 11 ∧ fs' = fs) ∨ ((∀ t ∈ fs.N, t.nm ≠ c.dst) ∧
        ((40 ≤ fs.N.length ∧ e = 4 ∧ fs' = fs) ∨ (fs.N.length < 40 ∧ e = 0 ∧ ∃ (k2 : Nat) (dv : Value), Gap fs.F k2 ∧
          fs' = ⟨putName fs.N ⟨c.dst, (k2 : Int) + 1⟩, putFile fs.F k2 ⟨0, dv, fs.F[k].data, true, false, fs.F[k].data.length⟩, fs.O⟩))))))
theorem Blk.cell5 {w : World} {g : Nat} {t : TypeId} {a b c d e : Value} (h : Blk w g t #[a, b, c, d, e]) : w.cell? ⟨g, 0, none⟩ = some a ∧ w.cell? ⟨g, 1, none⟩ = some b ∧ w.cell? ⟨g, 2, none⟩ = some c ∧ w.cell? ⟨g, 3, none⟩ = some d ∧ w.cell? ⟨g, 4, none⟩ = some e :=
  ⟨(h.cell 0).trans rfl, (h.cell 1).trans rfl, (h.cell 2).trans rfl, (h.cell 3).trans rfl, (h.cell 4).trans rfl⟩
theorem Blk.froz5 {w : World} {g : Nat} {t : TypeId} {cs : Array Value} (h : Blk w g t cs) : w.frozen? ⟨g, 0, none⟩ = false ∧ w.frozen? ⟨g, 1, none⟩ = false ∧ w.frozen? ⟨g, 2, none⟩ = false ∧ w.frozen? ⟨g, 3, none⟩ = false ∧ w.frozen? ⟨g, 4, none⟩ = false :=
  ⟨h.frozen 0, h.frozen 1, h.frozen 2, h.frozen 3, h.frozen 4⟩
theorem Held.five {B g : Nat} {W a : World} (h : Held B W a) (hg : B ≤ g) (b0 b1 b2 b3 b4 : Value) :
    Held B W (((((a.setCell ⟨g, 0, none⟩ b0).setCell ⟨g, 1, none⟩ b1).setCell ⟨g, 2, none⟩ b2).setCell ⟨g, 3, none⟩ b3).setCell ⟨g, 4, none⟩ b4) :=
  Held.of_below (below_five h.2.2 hg b0 b1 b2 b3 b4)
end Go.Proofs.Ytgegmefnbkcdkaa
