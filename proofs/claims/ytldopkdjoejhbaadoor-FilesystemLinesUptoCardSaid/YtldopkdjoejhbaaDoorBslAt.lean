/- Slices of bytes: their form, a byte. No program in sight. -/
import Derived.Test.YtldopkdjoejhbaaDoorBytes
namespace Go.Proofs.YtldopkdjoejhbaaDoor
open Go.RowKit

theorem BSl.forms {w : World} {S : Nat → Prop} {v : Value} {l : List UInt8} (h : BSl w S v l) : ∃ A c, v = .slice A l.length c ∧ l.length ≤ c ∧ BSl w S (.slice A l.length c) l := Sl.form h
theorem BSl.byte {w : World} {S : Nat → Prop} {A : Option Addr} {c k : Nat} {l : List UInt8} (h : BSl w S (.slice A l.length c) l) (hk : k < l.length) :
    ∃ b o, A = some ⟨b, o, none⟩ ∧ S b ∧ w.cell? ⟨b, o + k, none⟩ = some (.int .u8 ((l.getD k 0).toNat : Int)) := by
  obtain ⟨b, o, u, hA, hb, hu, hc⟩ := Sl.at_ h hk
  refine ⟨b, o, hA, hb, ?_⟩
  rw [hc, ← hu]
  simp [hk, ub]
end Go.Proofs.YtldopkdjoejhbaaDoor
