/- Filters in boxes: what calls and stores leave of them. -/
import Derived.Test.YtfainbgbeojcpaaNoFalse
import Derived.Test.YtfainbgbeojcpaaLawHas
namespace Go.Proofs.Ytfainbgbeojcpaa
open Go.RowKit

/-- Blocks that are there and are none of three. -/
def Off (W : World) (p q r : Nat) : Nat → Prop := fun x => x < W.heap.size ∧ x ≠ p ∧ x ≠ q ∧ x ≠ r
/-- A box that holds a filter. -/
def Fil (W : World) (S : Nat → Prop) (b k : Nat) (L : List Int) : Prop :=
  ∃ A c, Blk W b 27 #[.int .i64 k, .slice A L.length c] ∧ Sl W S 1 (.slice A L.length c) L.length (L.map (.int .u64))
theorem Off.more {W W' : World} {p q r x : Nat} (h : Off W p q r x) (hz : W.heap.size ≤ W'.heap.size) : Off W' p q r x := ⟨Nat.lt_of_lt_of_le h.1 hz, h.2⟩
theorem sl_off_below {W W' : World} {p q r size n : Nat} {v : Value} {xs : List Value} (h : Sl W (Off W p q r) size v n xs) (hb : Below W.heap.size W W') : Sl W' (Off W' p q r) size v n xs :=
  (h.under hb (fun _ hx => hx.1)).mono (fun _ hx => hx.more hb.size)
theorem sl_off_lt {W : World} {p q r size n : Nat} {v : Value} {xs : List Value} (h : Sl W (Off W p q r) size v n xs) : Sl W (lt W.heap.size) size v n xs := h.mono fun _ hx => hx.1
theorem sl_off_set {W : World} {p q r size n : Nat} {v : Value} {xs : List Value} (h : Sl W (Off W p q r) size v n xs) (i : Nat) (b : Nat) (hb : b = p ∨ b = q ∨ b = r) (u : Value) : Sl (W.setCell ⟨b, i, none⟩ u) (Off (W.setCell ⟨b, i, none⟩ u) p q r) size v n xs := by
  refine (h.keep (w' := W.setCell ⟨b, i, none⟩ u) fun a ha => ?_).mono fun x hx => hx.more (by simp)
  refine World.cell?_setCell_other _ _ _ _ fun e => ?_
  subst e
  rcases hb with rfl | rfl | rfl
  · exact ha.2.1 rfl
  · exact ha.2.2.1 rfl
  · exact ha.2.2.2 rfl
theorem Fil.below {W W' : World} {p q r b k : Nat} {L : List Int} (h : Fil W (Off W p q r) b k L) (hb : Below W.heap.size W W') : Fil W' (Off W' p q r) b k L := by
  obtain ⟨A, c, h1, h2⟩ := h
  exact ⟨A, c, h1.below hb h1.lt, sl_off_below h2 hb⟩
theorem Fil.other {W : World} {p q r b k : Nat} {L : List Int} (h : Fil W (Off W p q r) b k L) (i d : Nat) (hd : d = p ∨ d = q ∨ d = r) (hne : b ≠ d) (u : Value) : Fil (W.setCell ⟨d, i, none⟩ u) (Off (W.setCell ⟨d, i, none⟩ u) p q r) b k L := by
  obtain ⟨A, c, h1, h2⟩ := h
  exact ⟨A, c, h1.far hne u, sl_off_set h2 i d hd u⟩
/-- A store of another filter into a box. -/
theorem Fil.stored {W : World} {p q r b k lo : Nat} {L L' : List Int} {A : Option Addr} {c : Nat} (h : Fil W (Off W p q r) b k L) (hd : b = p ∨ b = q ∨ b = r)
    (hs : Sl W (btw lo W.heap.size) 1 (.slice A L'.length c) L'.length (L'.map (.int .u64))) (hp : p < lo) (hq : q < lo) (hr : r < lo) :
    Fil ((W.setCell ⟨b, 0, none⟩ (.int .i64 k)).setCell ⟨b, 1, none⟩ (.slice A L'.length c)) (Off ((W.setCell ⟨b, 0, none⟩ (.int .i64 k)).setCell ⟨b, 1, none⟩ (.slice A L'.length c)) p q r) b k L' := by
  obtain ⟨A0, c0, h1, _⟩ := h
  refine ⟨A, c, (h1.set_ 0 _).set_ 1 _, ?_⟩
  have h2 : Sl W (Off W p q r) 1 (.slice A L'.length c) L'.length (L'.map (.int .u64)) := hs.mono fun x hx => ⟨hx.2, by have := hx.1; omega, by have := hx.1; omega, by have := hx.1; omega⟩
  exact sl_off_set (sl_off_set h2 0 b hd _) 1 b hd _

/-- What the statement's variables hold between its steps: the empty filter, three filters, two lists of words. -/
structure St (W : World) (o p q r k : Nat) (E F G K : List Int) (va vb : Value) (a b : List ByteArray) : Prop where
  e : Fil W (Off W p q r) o k E
  f : Fil W (Off W p q r) p k F
  g : Fil W (Off W p q r) q k G
  k_ : Fil W (Off W p q r) r k K
  va_ : Sl W (Off W p q r) 1 va a.length (a.map .string)
  vb_ : Sl W (Off W p q r) 1 vb b.length (b.map .string)
  n1 : o ≠ p
  n2 : o ≠ q
  n3 : o ≠ r
  n4 : p ≠ q
  n5 : p ≠ r
  n6 : q ≠ r
section
variable {W W' : World} {o p q r k : Nat} {E F G K : List Int} {va vb : Value} {a b : List ByteArray}
theorem St.below (h : St W o p q r k E F G K va vb a b) (hb : Below W.heap.size W W') : St W' o p q r k E F G K va vb a b :=
  ⟨h.e.below hb, h.f.below hb, h.g.below hb, h.k_.below hb, sl_off_below h.va_ hb, sl_off_below h.vb_ hb, h.n1, h.n2, h.n3, h.n4, h.n5, h.n6⟩
theorem Fil.lt_ {S : Nat → Prop} {x : Nat} {L : List Int} (h : Fil W S x k L) : x < W.heap.size := by obtain ⟨_, _, h1, _⟩ := h; exact h1.lt
theorem St.putF {A : Option Addr} {c lo : Nat} {L' : List Int} (h : St W o p q r k E F G K va vb a b) (hs : Sl W (btw lo W.heap.size) 1 (.slice A L'.length c) L'.length (L'.map (.int .u64))) (h1 : p < lo) (h2 : q < lo) (h3 : r < lo) :
    St ((W.setCell ⟨p, 0, none⟩ (.int .i64 k)).setCell ⟨p, 1, none⟩ (.slice A L'.length c)) o p q r k E L' G K va vb a b :=
  ⟨(h.e.other 0 p (.inl rfl) h.n1 _).other 1 p (.inl rfl) h.n1 _, h.f.stored (.inl rfl) hs h1 h2 h3, (h.g.other 0 p (.inl rfl) h.n4.symm _).other 1 p (.inl rfl) h.n4.symm _, (h.k_.other 0 p (.inl rfl) h.n5.symm _).other 1 p (.inl rfl) h.n5.symm _,
    sl_off_set (sl_off_set h.va_ 0 p (.inl rfl) _) 1 p (.inl rfl) _, sl_off_set (sl_off_set h.vb_ 0 p (.inl rfl) _) 1 p (.inl rfl) _, h.n1, h.n2, h.n3, h.n4, h.n5, h.n6⟩
theorem St.putG {A : Option Addr} {c lo : Nat} {L' : List Int} (h : St W o p q r k E F G K va vb a b) (hs : Sl W (btw lo W.heap.size) 1 (.slice A L'.length c) L'.length (L'.map (.int .u64))) (h1 : p < lo) (h2 : q < lo) (h3 : r < lo) :
    St ((W.setCell ⟨q, 0, none⟩ (.int .i64 k)).setCell ⟨q, 1, none⟩ (.slice A L'.length c)) o p q r k E F L' K va vb a b :=
  ⟨(h.e.other 0 q (.inr (.inl rfl)) h.n2 _).other 1 q (.inr (.inl rfl)) h.n2 _, (h.f.other 0 q (.inr (.inl rfl)) h.n4 _).other 1 q (.inr (.inl rfl)) h.n4 _, h.g.stored (.inr (.inl rfl)) hs h1 h2 h3, (h.k_.other 0 q (.inr (.inl rfl)) h.n6.symm _).other 1 q (.inr (.inl rfl)) h.n6.symm _,
    sl_off_set (sl_off_set h.va_ 0 q (.inr (.inl rfl)) _) 1 q (.inr (.inl rfl)) _, sl_off_set (sl_off_set h.vb_ 0 q (.inr (.inl rfl)) _) 1 q (.inr (.inl rfl)) _, h.n1, h.n2, h.n3, h.n4, h.n5, h.n6⟩
theorem St.putK {A : Option Addr} {c lo : Nat} {L' : List Int} (h : St W o p q r k E F G K va vb a b) (hs : Sl W (btw lo W.heap.size) 1 (.slice A L'.length c) L'.length (L'.map (.int .u64))) (h1 : p < lo) (h2 : q < lo) (h3 : r < lo) :
    St ((W.setCell ⟨r, 0, none⟩ (.int .i64 k)).setCell ⟨r, 1, none⟩ (.slice A L'.length c)) o p q r k E F G L' va vb a b :=
  ⟨(h.e.other 0 r (.inr (.inr rfl)) h.n3 _).other 1 r (.inr (.inr rfl)) h.n3 _, (h.f.other 0 r (.inr (.inr rfl)) h.n5 _).other 1 r (.inr (.inr rfl)) h.n5 _, (h.g.other 0 r (.inr (.inr rfl)) h.n6 _).other 1 r (.inr (.inr rfl)) h.n6 _, h.k_.stored (.inr (.inr rfl)) hs h1 h2 h3,
    sl_off_set (sl_off_set h.va_ 0 r (.inr (.inr rfl)) _) 1 r (.inr (.inr rfl)) _, sl_off_set (sl_off_set h.vb_ 0 r (.inr (.inr rfl)) _) 1 r (.inr (.inr rfl)) _, h.n1, h.n2, h.n3, h.n4, h.n5, h.n6⟩
end
end Go.Proofs.Ytfainbgbeojcpaa
