/- The reader of package manifest: tallies. -/
import Derived.Test.YtkjhnipjhefndaaReadB
import Derived.Test.YtkjhnipjhefndaaAdd28
namespace Go.Proofs.Ytkjhnipjhefndaa
open Go.RowKit

section
variable {α : Type}
/-- n reads, one after the other. -/
def manyS (f : List UInt8 → Bool → α × List UInt8 × Bool) : Nat → List UInt8 → Bool → List α × List UInt8 × Bool
  | 0, l, b => ([], l, b)
  | n + 1, l, b => ((f l b).1 :: (manyS f n (f l b).2.1 (f l b).2.2).1, (manyS f n (f l b).2.1 (f l b).2.2).2)
theorem manyS_len (f : List UInt8 → Bool → α × List UInt8 × Bool) : ∀ (n : Nat) (l : List UInt8) (b : Bool), (manyS f n l b).1.length = n
  | 0, _, _ => rfl
  | n + 1, l, b => by simp only [manyS, List.length_cons, manyS_len f n]
theorem manyS_le (f : List UInt8 → Bool → α × List UInt8 × Bool) (hf : ∀ l b, (f l b).2.1.length ≤ l.length) : ∀ (n : Nat) (l : List UInt8) (b : Bool), (manyS f n l b).2.1.length ≤ l.length
  | 0, _, _ => Nat.le_refl _
  | n + 1, l, b => by
    have h1 := hf l b
    have h2 := manyS_le f hf n (f l b).2.1 (f l b).2.2
    simp only [manyS]
    omega
/-- What a loop of n reads has done behind k rounds. -/
structure Many (f : List UInt8 → Bool → α × List UInt8 × Bool) (n : Nat) (l0 : List UInt8) (b0 : Bool) (k : Nat) (acc : List α) (l : List UInt8) (b : Bool) : Prop where
  e : (acc ++ (manyS f (n - k) l b).1, (manyS f (n - k) l b).2) = manyS f n l0 b0
  n : acc.length = k
  s : l.length ≤ l0.length
theorem Many.start (f : List UInt8 → Bool → α × List UInt8 × Bool) (n : Nat) (l : List UInt8) (b : Bool) : Many f n l b 0 [] l b := ⟨by simp, rfl, Nat.le_refl _⟩
theorem Many.step {f : List UInt8 → Bool → α × List UInt8 × Bool} {n k : Nat} {l0 l : List UInt8} {b0 b : Bool} {acc : List α} (h : Many f n l0 b0 k acc l b) (hk : k < n) (hf : ∀ l b, (f l b).2.1.length ≤ l.length) :
    Many f n l0 b0 (k + 1) (acc ++ [(f l b).1]) (f l b).2.1 (f l b).2.2 := by
  have he := h.e
  rw [show n - k = (n - (k + 1)) + 1 by omega] at he
  simp only [manyS] at he
  refine ⟨by rw [← he]; simp, by simp [h.n], by have := hf l b; have := h.s; omega⟩
theorem Many.done {f : List UInt8 → Bool → α × List UInt8 × Bool} {n k : Nat} {l0 l : List UInt8} {b0 b : Bool} {acc : List α} (h : Many f n l0 b0 k acc l b) (hk : ¬ k < n) : (acc, l, b) = manyS f n l0 b0 := by
  have he := h.e
  rw [show n - k = 0 by omega] at he
  simpa [manyS] using he
end
def talS (l : List UInt8) (b : Bool) : Tl × List UInt8 × Bool :=
  (⟨(intS l b).1, ⟨(textS (intS l b).2.1 (intS l b).2.2).1.toArray⟩, (intS (textS (intS l b).2.1 (intS l b).2.2).2.1 (textS (intS l b).2.1 (intS l b).2.2).2.2).1⟩, (intS (textS (intS l b).2.1 (intS l b).2.2).2.1 (textS (intS l b).2.1 (intS l b).2.2).2.2).2)
def talsS (l : List UInt8) (b : Bool) : List Tl × List UInt8 × Bool := manyS talS (countS l b).1 (countS l b).2.1 (countS l b).2.2
theorem intS_le (l : List UInt8) (b : Bool) : (intS l b).2.1.length ≤ l.length := (varS_le l b).1
theorem textS_le (l : List UInt8) (b : Bool) : (textS l b).2.1.length ≤ l.length ∧ (textS l b).1.length ≤ l.length := by
  have h1 := (varS_le l b).1
  have h2 := sizeS_le (varS l b).1 (varS l b).2.1 (varS l b).2.2
  unfold textS
  exact ⟨by simp only [List.length_drop]; omega, by simp only [List.length_take]; omega⟩
theorem talS_le (l : List UInt8) (b : Bool) : (talS l b).2.1.length ≤ l.length := by
  have h1 := intS_le l b
  have h2 := (textS_le (intS l b).2.1 (intS l b).2.2).1
  have h3 := intS_le (textS (intS l b).2.1 (intS l b).2.2).2.1 (textS (intS l b).2.1 (intS l b).2.2).2.2
  unfold talS
  simp only
  omega
theorem countS_le (l : List UInt8) (b : Bool) : (countS l b).2.1.length ≤ l.length ∧ (countS l b).1 ≤ (countS l b).2.1.length := by
  have h1 := intS_le l b
  have h2 := sizeS_le (IntKind.u64.wrap (intS l b).1).toNat (intS l b).2.1 (intS l b).2.2
  unfold countS
  exact ⟨by omega, h2.2⟩
theorem talsS_le (l : List UInt8) (b : Bool) : (talsS l b).2.1.length ≤ l.length ∧ (talsS l b).1.length ≤ l.length := by
  have h1 := countS_le l b
  have h2 := manyS_le talS talS_le (countS l b).1 (countS l b).2.1 (countS l b).2.2
  have h3 := manyS_len talS (countS l b).1 (countS l b).2.1 (countS l b).2.2
  unfold talsS
  exact ⟨by omega, by omega⟩
theorem Rd.below {w w' : World} {B gr C : Nat} {v : Value} {l : List UInt8} {bad : Bool} (h : Rd w B gr v l bad) (hb : Below C w w') (hg : gr < C) : Rd w' B gr v l bad :=
  ⟨h.b.below hb hg, Sl.keep h.s fun p hp => hb.cell (by have : p.block < B := hp; have := h.o; omega), h.o⟩
/-- A list of tallies read. -/
def RdTals (w : World) (B gr : Nat) (ts : List Tl) (l : List UInt8) (bad : Bool) (en : Ending) (w' : World) : Prop :=
  ∃ u v', en = .returned u ∧ w'.ownsRow w.heap.size 116 3 u ts.length (ts.flatMap Tl.vals) ∧ Rd w' B gr v' l bad ∧ w.grownBy w' (some gr)
theorem Many.stepT {n k : Nat} {l0 l : List UInt8} {b0 b : Bool} {acc : List Tl} (h : Many talS n l0 b0 k acc l b) (hk : k < n) :
    Many talS n l0 b0 (k + 1) (acc ++ [⟨(intS l b).1, ⟨(textS (intS l b).2.1 (intS l b).2.2).1.toArray⟩, (intS (textS (intS l b).2.1 (intS l b).2.2).2.1 (textS (intS l b).2.1 (intS l b).2.2).2.2).1⟩])
      (intS (textS (intS l b).2.1 (intS l b).2.2).2.1 (textS (intS l b).2.1 (intS l b).2.2).2.2).2.1 (intS (textS (intS l b).2.1 (intS l b).2.2).2.1 (textS (intS l b).2.1 (intS l b).2.2).2.2).2.2 := h.step hk talS_le
theorem snocT (ts : List Tl) (t : Tl) : (ts ++ [t]).flatMap Tl.vals = ts.flatMap Tl.vals ++ [.int .i64 t.host, .string t.rule, .int .i64 t.lines] := by
  rw [List.flatMap_append]; simp [Tl.vals]

set_option maxRecDepth 100000 in
theorem rtals_any (B gr : Nat) (v : Value) (l : List UInt8) (bad : Bool) (w : World) (h : Rd w B gr v l bad) (hm : l.length ≤ 1000000) :
    Calls Try.prog 62 #[.pointer (some ⟨gr, 0, none⟩)] w (RdTals w B gr (talsS l bad).1 (talsS l bad).2.1 (talsS l bad).2.2) := by
  have hgr := h.b.lt
  unfold talsS
  obtain ⟨hc1, hc2⟩ := countS_le l bad
  go_enter Try.func62, Try.ntmps62
  go_wp2_with fail
  refine (rcount_any B gr v l bad w h hm).mono ?_
  rintro e w1 ⟨rfl, v1, hR1, hg1⟩
  generalize (countS l bad).1 = n at *
  generalize (countS l bad).2.1 = l0 at *
  generalize (countS l bad).2.2 = b0 at *
  go_wp2_with fail
  go_loopw [3, 6] (fun u i wr => ∃ (k : Nat) (acc : List Tl) (l' : List UInt8) (b' : Bool) (v' : Value), i = .int .i64 k ∧ k ≤ n ∧ Hid (Many talS n l0 b0 k acc l' b') ∧ Rd wr B gr v' l' b' ∧ wr.ownsRow w.heap.size 116 3 u acc.length (acc.flatMap Tl.vals) ∧ w.grownBy wr (some gr)) (fun _ i _ => n - (intOf i).toNat)
  case atStart => exact ⟨0, [], l0, b0, v1, rfl, Nat.zero_le _, keep (Many.start talS n l0 b0), hR1, World.ownsRow_nil _ _ _ _, hg1⟩
  case round =>
    obtain ⟨k, acc, l', b', v', rfl, hk, hM, hRd, hown, hgr2⟩ := hrel
    clear hR1 hg1
    by_cases hlt : k < n
    · have hM' := keep (hM.out.stepT hlt)
      have hl' := hM.out.s
      have hacc := keep hM.out.n
      have e1 := intS_le l' b'
      have e2 := (textS_le (intS l' b').2.1 (intS l' b').2.2).1
      clear hM
      go_wp2_with fail
      refine (rint_any B gr v' l' b' wr hRd (by omega)).mono ?_
      rintro e w2 ⟨rfl, v2, hR2, hg2⟩
      generalize (intS l' b').1 = x1 at *
      generalize (intS l' b').2.1 = l2 at *
      generalize (intS l' b').2.2 = b2 at *
      have hown2 := own_grown hown hg2 hgr
      have hG2 := grownBy_trans hgr2 hg2
      clear hg2 hRd hown hgr2
      go_wp2_with fail
      refine (rtext_any B gr v2 l2 b2 w2 hR2 (by omega)).mono ?_
      rintro e w3 ⟨rfl, v3, hR3, hg3⟩
      generalize (textS l2 b2).1 = x2 at *
      generalize (textS l2 b2).2.1 = l3 at *
      generalize (textS l2 b2).2.2 = b3 at *
      have hown3 := own_grown hown2 hg3 hgr
      have hG3 := grownBy_trans hG2 hg3
      clear hg3 hR2 hown2 hG2
      go_wp2_with fail
      refine (rint_any B gr v3 l3 b3 w3 hR3 (by omega)).mono ?_
      rintro e w4 ⟨rfl, v4, hR4, hg4⟩
      generalize (intS l3 b3).1 = x3 at *
      generalize (intS l3 b3).2.1 = l4 at *
      generalize (intS l3 b3).2.2 = b4 at *
      have hown4 := own_grown hown3 hg4 hgr
      have hG4 := grownBy_trans hG3 hg4
      have hlen : acc.length ≤ 1000000 := by have := hacc.out; omega
      have q1 : Hid (acc.length + 1 ≤ maxLen) := keep (by unfold maxLen; omega)
      have q2 : Hid ((acc.length + 1) * 32 ≤ 140737488355328) := keep (by omega)
      clear hg4 hR3 hown3 hG3 hlen
      go_wp2_with (refine wpList_push elTals rfl rfl _ _ _ rfl rfl rfl w.heap.size _ (.agg #[.int .i64 x1, .string ⟨x2.toArray⟩, .int .i64 x3]) acc.length _ rfl (fun _ => rfl) (fun _ => rfl) hown4 rfl (by intro c hc; simp [Value.cells] at hc; rcases hc with rfl | rfl | rfl <;> rfl) (by omega) q1.out q2.out hG4.size ?_; intro g5 cap5 w5 hown5 hb5 _ _ _)
      have hR5 := hR4.below hb5 hgr
      have hG5 := grownBy_below hG4 hb5
      go_roundw
      case rel =>
        refine ⟨k + 1, acc ++ [⟨x1, ⟨x2.toArray⟩, x3⟩], l4, b4, v4, by go_num, by omega, hM', hR5, ?_, hG5⟩
        rw [snocT, List.length_append]
        exact hown5
      case measure => simp [intOf]; omega
    · have hD := hM.out.done hlt
      have HF : Hid (∀ u, wr.ownsRow w.heap.size 116 3 u acc.length (acc.flatMap Tl.vals) → RdTals w B gr (manyS talS n l0 b0).1 (manyS talS n l0 b0).2.1 (manyS talS n l0 b0).2.2 (.returned u) wr) := fun u ho => by
        rw [← hD]
        exact ⟨u, _, rfl, ho, hRd, hgr2⟩
      clear hD
      go_wp2_with fail
      go_ret
      exact HF.out _ hown
end Go.Proofs.Ytkjhnipjhefndaa
