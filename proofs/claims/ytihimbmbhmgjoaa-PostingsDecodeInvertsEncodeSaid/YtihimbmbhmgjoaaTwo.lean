/- Two rows of bytes that the call owns, in different blocks. -/
import Derived.Test.YtihimbmbhmgjoaaVarint
namespace Go.Proofs.Ytihimbmbhmgjoaa
open Go.RowKit

structure Two (w wr : World) (vh vb : Value) (lh lb : List UInt8) : Prop where
  h : OwnB wr w.heap.size vh lh
  b : OwnB wr w.heap.size vb lb
  d : ∀ k, vh.ownBlock = some k → vb.ownBlock ≠ some k
  m : Below w.heap.size w wr
section
variable {w wr w' : World} {vh vb v' : Value} {lh lb l' : List UInt8}
theorem Two.swap (t : Two w wr vh vb lh lb) : Two w wr vb vh lb lh := ⟨t.b, t.h, fun k h1 h2 => t.d k h2 h1, t.m⟩
theorem Two.onH (t : Two w wr vh vb lh lb) (p : Put1 wr w.heap.size vh v' l' w') : Two w w' v' vb l' lb :=
  ⟨p.o, t.b.off p.f (fun k hk hs => t.d k hs hk), fun k hk hk2 => by
    rcases p.s k hk with h | h
    · exact t.d k h hk2
    · have := (t.b.in_ k hk2).2
      omega,
   t.m.trans ⟨p.f.os, p.f.tape, p.f.output, p.f.size, fun k hk => p.f.block k (Nat.lt_of_lt_of_le hk t.m.size) (fun hs => by have := (t.h.in_ k hs).1; omega)⟩⟩
theorem Two.onB (t : Two w wr vh vb lh lb) (p : Put1 wr w.heap.size vb v' l' w') : Two w w' vh v' lh l' := (t.swap.onH p).swap
theorem Two.below (t : Two w wr vh vb lh lb) (hb : Below wr.heap.size wr w') : Two w w' vh vb lh lb :=
  ⟨t.h.off (Off.of_below (fun _ => False) hb) (fun _ _ h => h), t.b.off (Off.of_below (fun _ => False) hb) (fun _ _ h => h), t.d, t.m.trans (hb.mono t.m.size)⟩
end
/-- A row that began at nil: nothing that was there has changed. -/
theorem Put1.fresh {w w' : World} {B : Nat} {v' : Value} {l : List UInt8} (p : Put1 w B (.slice none 0 0) v' l w') : Below w.heap.size w w' :=
  ⟨p.f.os, p.f.tape, p.f.output, p.f.size, fun k hk => p.f.block k hk (fun hs => by cases hs)⟩
end Go.Proofs.Ytihimbmbhmgjoaa
