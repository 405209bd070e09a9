/- miner.Add, Remove and Merge. -/
import Derived.Test.YtibljgnajbblaaaTokens
namespace Go.Proofs.Ytibljgnajbblaaa
open Go.RowKit
variable {oB : Nat}
/-- A state in memory. -/
def MS (oB : Nat) (w : World) (v : Value) (L : List Tm) : Prop := Sl w (lt w.heap.size) 2 v L.length (tms L) ∧ ∀ t ∈ L, TkR oB w t
theorem MS.up {w w' : World} {v : Value} {L : List Tm} (h : MS oB w v L) (hb : Below w.heap.size w w') : MS oB w' v L := ⟨h.1.upW hb, fun t ht => (h.2 t ht).up hb⟩
theorem MS.nil (w : World) : MS oB w (.slice none 0 0) [] := ⟨Sl.nil _ _ _ _ _, by simp⟩
structure Good (P : List TP) (N : Int) : Prop where
  s : Srt P
  p : Pos P
  b : sumP P ≤ N
theorem Good.len {L : List Tm} {N : Int} (h : Good (st L) N) (hN : N ≤ 1000000) : L.length ≤ 1000000 := by
  have := sumP_len h.p
  rw [st_len] at this
  have := h.b
  omega
end Go.Proofs.Ytibljgnajbblaaa
