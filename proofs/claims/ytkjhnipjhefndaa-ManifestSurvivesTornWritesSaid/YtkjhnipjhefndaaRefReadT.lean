/- The reader of the reference for chapter 30: tallies. -/
import Derived.Test.YtkjhnipjhefndaaRefReadB
import Derived.Deep.CutBlock
namespace Go.Proofs.Ytkjhnipjhefndaa
open Go.RowKit

section
variable {α : Type}
/-- At most n reads, one after the other, as long as all is well. -/
def rManyS (f : Nat → Bool → α × Nat × Bool) : Nat → Nat → Bool → List α × Nat × Bool
  | 0, p, ok => ([], p, ok)
  | n + 1, p, ok => if ok = true then ((f p ok).1 :: (rManyS f n (f p ok).2.1 (f p ok).2.2).1, (rManyS f n (f p ok).2.1 (f p ok).2.2).2) else ([], p, ok)
theorem rManyS_len (f : Nat → Bool → α × Nat × Bool) : ∀ (n p : Nat) (ok : Bool), (rManyS f n p ok).1.length ≤ n
  | 0, _, _ => Nat.le_refl _
  | n + 1, p, ok => by
    rw [rManyS]
    split
    · have := rManyS_len f n (f p ok).2.1 (f p ok).2.2
      simp only [List.length_cons]
      omega
    · simp
theorem rManyS_le (f : Nat → Bool → α × Nat × Bool) (m : Nat) (hf : ∀ p ok, p ≤ m → (f p ok).2.1 ≤ m) : ∀ (n p : Nat) (ok : Bool), p ≤ m → (rManyS f n p ok).2.1 ≤ m
  | 0, _, _, h => h
  | n + 1, p, ok, h => by
    rw [rManyS]
    split
    · exact rManyS_le f m hf n _ _ (hf p ok h)
    · exact h
/-- What a loop of at most n reads has done behind k rounds. -/
structure RMany (f : Nat → Bool → α × Nat × Bool) (n p0 : Nat) (ok0 : Bool) (k : Nat) (acc : List α) (p : Nat) (ok : Bool) : Prop where
  e : (acc ++ (rManyS f (n - k) p ok).1, (rManyS f (n - k) p ok).2) = rManyS f n p0 ok0
  n : acc.length = k
theorem RMany.start (f : Nat → Bool → α × Nat × Bool) (n p : Nat) (ok : Bool) : RMany f n p ok 0 [] p ok := ⟨by simp, rfl⟩
theorem RMany.step {f : Nat → Bool → α × Nat × Bool} {n k p0 p : Nat} {ok0 : Bool} {acc : List α} (h : RMany f n p0 ok0 k acc p true) (hk : k < n) :
    RMany f n p0 ok0 (k + 1) (acc ++ [(f p true).1]) (f p true).2.1 (f p true).2.2 := by
  have he := h.e
  rw [show n - k = (n - (k + 1)) + 1 by omega, rManyS, if_pos rfl] at he
  exact ⟨by rw [← he]; simp, by simp [h.n]⟩
theorem RMany.done {f : Nat → Bool → α × Nat × Bool} {n k p0 p : Nat} {ok0 ok : Bool} {acc : List α} (h : RMany f n p0 ok0 k acc p ok) (hk : ¬ k < n ∨ ok = false) : (acc, p, ok) = rManyS f n p0 ok0 := by
  have he := h.e
  rcases hk with hk | rfl
  · rw [show n - k = 0 by omega] at he
    simpa [rManyS] using he
  · cases hn : n - k with
    | zero => rw [hn] at he; simpa [rManyS] using he
    | succ m => rw [hn, rManyS, if_neg (by simp)] at he; simpa using he
end
def rTalOf (r1 : Int × Nat × Bool) (r2 : List UInt8 × Nat × Bool) (r3 : Int × Nat × Bool) : Tl × Nat × Bool := (⟨r1.1, ⟨r2.1.toArray⟩, r3.1⟩, r3.2)
def rTalS (l : List UInt8) (p : Nat) (ok : Bool) : Tl × Nat × Bool :=
  rTalOf (rIntS l p ok) (rTextS l (rIntS l p ok).2.1 (rIntS l p ok).2.2) (rIntS l (rTextS l (rIntS l p ok).2.1 (rIntS l p ok).2.2).2.1 (rTextS l (rIntS l p ok).2.1 (rIntS l p ok).2.2).2.2)
def rTalsS (l : List UInt8) (p : Nat) (ok : Bool) : List Tl × Nat × Bool := rManyS (rTalS l) (rCountS l p ok).1 (rCountS l p ok).2.1 (rCountS l p ok).2.2
theorem rTalS_le (l : List UInt8) (p : Nat) (ok : Bool) (hp : p ≤ l.length) : (rTalS l p ok).2.1 ≤ l.length :=
  rIntS_le l _ _ (rTextS_le l _ _ (rIntS_le l p ok hp)).2
theorem rTalsS_le (l : List UInt8) (p : Nat) (ok : Bool) (hp : p ≤ l.length) : (rTalsS l p ok).2.1 ≤ l.length ∧ (rTalsS l p ok).1.length ≤ l.length := by
  have h1 := rCountS_le l p ok hp
  exact ⟨rManyS_le _ _ (fun p ok h => rTalS_le l p ok h) _ _ _ h1.2, Nat.le_trans (rManyS_len _ _ _ _) h1.1⟩
theorem rTalS_step {l : List UInt8} {p : Nat} {ok : Bool} {r1 r3 : Int × Nat × Bool} {r2 : List UInt8 × Nat × Bool} (h1 : rIntS l p ok = r1) (h2 : rTextS l r1.2.1 r1.2.2 = r2) (h3 : rIntS l r2.2.1 r2.2.2 = r3) :
    rTalS l p ok = (⟨r1.1, ⟨r2.1.toArray⟩, r3.1⟩, r3.2) := by
  subst h3 h2 h1
  rfl
section
variable {w w' : World} {B gr C : Nat} {v : Value} {l : List UInt8} {p : Nat} {ok : Bool}
theorem Rr.below (h : Rr w B gr v l p ok) (hb : Below C w w') (hg : gr < C) : Rr w' B gr v l p ok :=
  ⟨h.b.below hb hg, Sl.keep h.s fun q hq => hb.cell (by have : q.block < B := hq; have := h.o; omega), h.o, h.p⟩
theorem Rr.setFar (h : Rr w B gr v l p ok) {g i : Nat} (hg : gr < g) (x : Value) : Rr (w.setCell ⟨g, i, none⟩ x) B gr v l p ok :=
  ⟨h.b.far (by intro e; have e' : gr = g := e; omega) _, bsl_set h.s (by have := h.o; show B ≤ g; omega), h.o, h.p⟩
end
/-- A list of tallies read. -/
def RrTals (w : World) (B gr : Nat) (v : Value) (ts : List Tl) (l : List UInt8) (p : Nat) (ok : Bool) (en : Ending) (w' : World) : Prop :=
  ∃ u, en = .returned u ∧ w'.ownsRow w.heap.size 116 3 u ts.length (ts.flatMap Tl.vals) ∧ Rr w' B gr v l p ok ∧ w.grownBy w' (some gr)
/-- A call of the reader at p. -/
theorem rrint_ex (B gr : Nat) (v : Value) (l : List UInt8) (p : Nat) (ok : Bool) (w : World) (h : Rr w B gr v l p ok) (hm : l.length ≤ 1000000) :
    Calls Try.prog 64 #[.pointer (some ⟨gr, 0, none⟩)] w fun e w' => ∃ r : Int × Nat × Bool, Hid (rIntS l p ok = r) ∧ e = .returned (.int .i64 r.1) ∧ Rr w' B gr v l r.2.1 r.2.2 ∧ w.grownBy w' (some gr) :=
  (rrint_any B gr v l p ok w h hm).mono fun _ _ hh => ⟨_, rfl, hh⟩
theorem rrtext_ex (B gr : Nat) (v : Value) (l : List UInt8) (p : Nat) (ok : Bool) (w : World) (h : Rr w B gr v l p ok) (hm : l.length ≤ 1000000) :
    Calls Try.prog 84 #[.pointer (some ⟨gr, 0, none⟩)] w fun e w' => ∃ r : List UInt8 × Nat × Bool, Hid (rTextS l p ok = r) ∧ e = .returned (.string ⟨r.1.toArray⟩) ∧ Rr w' B gr v l r.2.1 r.2.2 ∧ w.grownBy w' (some gr) :=
  (rrtext_any B gr v l p ok w h hm).mono fun _ _ hh => ⟨_, rfl, hh⟩
theorem rrcount_ex (B gr : Nat) (v : Value) (l : List UInt8) (p : Nat) (ok : Bool) (w : World) (h : Rr w B gr v l p ok) (hm : l.length ≤ 1000000) :
    Calls Try.prog 65 #[.pointer (some ⟨gr, 0, none⟩)] w fun e w' => ∃ r : Nat × Nat × Bool, Hid (rCountS l p ok = r) ∧ e = .returned (.int .i64 r.1) ∧ Rr w' B gr v l r.2.1 r.2.2 ∧ w.grownBy w' (some gr) :=
  (rrcount_any B gr v l p ok w h hm).mono fun _ _ hh => ⟨_, rfl, hh⟩
theorem rTals_eq {l : List UInt8} {p : Nat} {ok : Bool} {r : Nat × Nat × Bool} (h : rCountS l p ok = r) : rTalsS l p ok = rManyS (rTalS l) r.1 r.2.1 r.2.2 := by subst h; rfl
set_option maxRecDepth 100000 in
theorem rrtals_any (B gr : Nat) (v : Value) (l : List UInt8) (p : Nat) (ok : Bool) (w : World) (h : Rr w B gr v l p ok) (hm : l.length ≤ 1000000) :
    Calls Try.prog 66 #[.pointer (some ⟨gr, 0, none⟩)] w (RrTals w B gr v (rTalsS l p ok).1 l (rTalsS l p ok).2.1 (rTalsS l p ok).2.2) := by
  have hgr := h.b.lt
  have hc1 := (rCountS_le l p ok h.p).1
  obtain ⟨T, hT⟩ : ∃ T, rTalsS l p ok = T := ⟨_, rfl⟩
  have HT := keep hT
  rw [hT]
  clear hT
  go_enter Try.func66, Try.ntmps66
  go_wp2_with fail
  refine (rrcount_ex B gr v l p ok w h hm).mono ?_
  rintro e w1 ⟨c, hc, rfl, hR1, hg1⟩
  have hT2 := (rTals_eq hc.out).symm.trans HT.out
  have HT2 := keep hT2
  rw [hc.out] at hc1
  clear hT2
  obtain ⟨n, p1, ok1⟩ := c
  simp only at hc1 hR1
  go_wp2_with fail
  go_loopw [3, 4, 5] (fun u i _ wr => ∃ (k : Nat) (acc : List Tl) (p' : Nat) (ok' : Bool), i = .int .i64 (n - k : Nat) ∧ k ≤ n ∧ Hid (RMany (rTalS l) n p1 ok1 k acc p' ok') ∧ Rr wr B gr v l p' ok' ∧ wr.ownsRow w.heap.size 116 3 u acc.length (acc.flatMap Tl.vals) ∧ w.grownBy wr (some gr)) (fun _ i _ _ => (intOf i).toNat)
  case atStart => exact ⟨0, [], p1, ok1, rfl, Nat.zero_le _, keep (RMany.start _ _ _ _), hR1, World.ownsRow_nil _ _ _ _, hg1⟩
  case round =>
    obtain ⟨k, acc, p', ok', rfl, hk, hM, hRd, hown, hgr2⟩ := hrel
    clear hR1 hg1 hc h
    obtain ⟨q0, q1, q2⟩ := hRd.b.cell3
    by_cases hlt : k < n ∧ ok' = true
    · obtain ⟨hlt, rfl⟩ := hlt
      have hM' := keep (hM.out.step hlt)
      have hacc := keep hM.out.n
      obtain ⟨j, hj⟩ : ∃ j, n - k = j + 1 := ⟨n - k - 1, by omega⟩
      have HJ := keep hj
      have hjb : (j : Int) ≤ 1000000 := by omega
      rw [hj]
      clear hM hj
      go_wp2_with fail
      refine (rrint_ex B gr v l p' _ wr hRd hm).mono ?_
      rintro e w2 ⟨r1, hr1, rfl, hR2, hg2⟩
      have hown2 := own_grown hown hg2 hgr
      have hG2 := grownBy_trans hgr2 hg2
      clear hg2 hRd hown hgr2 q0 q1 q2
      go_upto_region 6 with fail
      obtain ⟨gt, hgt⟩ : ∃ gt, gt = w2.heap.size := ⟨_, rfl⟩
      obtain ⟨w3, hw3⟩ : ∃ w3, w3 = w2.alloc (.cells #[.int .i64 r1.1, .string ⟨#[]⟩, .int .i64 0] 116) := ⟨_, rfl⟩
      have hb3 : Below w2.heap.size w2 w3 := by rw [hw3]; exact (Below.refl _ _).alloc (Nat.le_refl _) _
      have hB3 : Blk w3 gt 116 #[.int .i64 r1.1, .string ⟨#[]⟩, .int .i64 0] := by rw [hw3, hgt]; exact Blk.new _ _ _
      have hR3 := hR2.below hb3 hR2.b.lt
      have hgrt : gr < gt := by have := hR2.b.lt; omega
      have hown3 : w3.ownsRow w.heap.size 116 3 u3 acc.length (acc.flatMap Tl.vals) := by rw [hw3]; exact hown2.alloc _
      have hG3 := grownBy_trans hG2 (grownBy_of_below hb3 (some gr))
      have hsz2 := hG2.size
      have hgw : w.heap.size ≤ gt := by omega
      have hlo : Hid (∀ g, u3.ownBlock = some g → g < gt) := fun g e => by have := (hown2.lt g e).2; omega
      rw [← hw3, ← hgt]
      clear hw3 hgt hb3 hR2 hown2 hG2 hsz2
      go_wp2_with fail
      refine (rrtext_ex B gr v l _ _ w3 hR3 hm).mono ?_
      rintro e w4 ⟨r2, hr2, rfl, hR4, hg4⟩
      have hB4 := hB3.grown hg4 (fun e => by injection e; omega)
      have hown4 := own_grown hown3 hg4 hgr
      have hG4 := grownBy_trans hG3 hg4
      clear hg4 hR3 hB3 hown3 hG3
      have c4 := hB4.cell3.2.1
      have f4 := hB4.frozen 1
      go_upto_region 7 with fail
      obtain ⟨w5, hw5⟩ : ∃ w5, w5 = w4.setCell ⟨gt, 1, none⟩ (.string ⟨r2.1.toArray⟩) := ⟨_, rfl⟩
      have hB5 : Blk w5 gt 116 #[.int .i64 r1.1, .string ⟨r2.1.toArray⟩, .int .i64 0] := by rw [hw5]; exact hB4.set_ 1 _
      have hR5 : Rr w5 B gr v l r2.2.1 r2.2.2 := by rw [hw5]; exact hR4.setFar hgrt _
      have hg45 : w4.grownBy w5 (some gt) := by rw [hw5]; exact grownBy_set (World.grownBy.refl _ _) _ _
      have hown5 := hown4.kept hg45 (Or.inr (fun e => by have := hlo.out _ e; omega))
      have hG5 : w.grownBy w5 (some gr) := ⟨hg45.os.trans hG4.os, hg45.tape.trans hG4.tape, hg45.output.trans hG4.output, Nat.le_trans hG4.size hg45.size, fun i hi hne => (hg45.block i (Nat.lt_of_lt_of_le hi hG4.size) (fun e => by injection e; omega)).trans (hG4.block i hi hne)⟩
      rw [← hw5]
      clear hw5 hB4 hR4 hown4 hG4 hg45 c4 f4
      go_wp2_with fail
      refine (rrint_ex B gr v l _ _ w5 hR5 hm).mono ?_
      rintro e w6 ⟨r3, hr3, rfl, hR6, hg6⟩
      have hB6 := hB5.grown hg6 (fun e => by injection e; omega)
      have hown6 := own_grown hown5 hg6 hgr
      have hG6 := grownBy_trans hG5 hg6
      clear hg6 hR5 hB5 hown5 hG5
      have c6 := hB6.cell3.2.2
      have f6 := hB6.frozen 2
      go_upto_region 8 with fail
      obtain ⟨w7, hw7⟩ : ∃ w7, w7 = w6.setCell ⟨gt, 2, none⟩ (.int .i64 r3.1) := ⟨_, rfl⟩
      have hB7 : Blk w7 gt 116 #[.int .i64 r1.1, .string ⟨r2.1.toArray⟩, .int .i64 r3.1] := by rw [hw7]; exact hB6.set_ 2 _
      have hR7 : Rr w7 B gr v l r3.2.1 r3.2.2 := by rw [hw7]; exact hR6.setFar hgrt _
      have hg67 : w6.grownBy w7 (some gt) := by rw [hw7]; exact grownBy_set (World.grownBy.refl _ _) _ _
      have hown7 := hown6.kept hg67 (Or.inr (fun e => by have := hlo.out _ e; omega))
      have hG7 : w.grownBy w7 (some gr) := ⟨hg67.os.trans hG6.os, hg67.tape.trans hG6.tape, hg67.output.trans hG6.output, Nat.le_trans hG6.size hg67.size, fun i hi hne => (hg67.block i (Nat.lt_of_lt_of_le hi hG6.size) (fun e => by injection e; omega)).trans (hG6.block i hi hne)⟩
      rw [← hw7]
      clear hw7 hB6 hR6 hown6 hG6 hg67 c6 f6
      obtain ⟨c0, c1, c2⟩ := hB7.cell3
      have hlen : acc.length ≤ 1000000 := by have := hacc.out; omega
      have q1 : Hid (acc.length + 1 ≤ maxLen) := keep (by unfold maxLen; omega)
      have q2 : Hid ((acc.length + 1) * 32 ≤ 140737488355328) := keep (by omega)
      have hst := rTalS_step hr1.out hr2.out hr3.out
      have hM3 := hM'.out
      rw [hst] at hM3
      have HM3 := keep hM3
      clear hlen hst hM3
      go_wp2_with (refine wpList_push elTals rfl rfl _ _ _ rfl rfl rfl w.heap.size _ (.agg #[.int .i64 r1.1, .string ⟨r2.1.toArray⟩, .int .i64 r3.1]) acc.length _ rfl (fun _ => rfl) (fun _ => rfl) hown7 rfl (by intro c hc; simp [Value.cells] at hc; rcases hc with rfl | rfl | rfl <;> rfl) (by omega) q1.out q2.out hG7.size ?_; intro g8 cap8 w8 hown8 hb8 _ _ _)
      have hR8 := hR7.below hb8 hgr
      have hG8 := grownBy_below hG7 hb8
      go_roundw
      case rel =>
        refine ⟨k + 1, acc ++ [⟨r1.1, ⟨r2.1.toArray⟩, r3.1⟩], r3.2.1, r3.2.2, ?_, by omega, HM3, hR8, ?_, hG8⟩
        · rw [show n - (k + 1) = j by have := HJ.out; omega]
        · rw [snocT, List.length_append]
          exact hown8
      case measure => simp [intOf]
    · have hD := hM.out.done (by
        rcases Nat.lt_or_ge k n with h1 | h1
        · right; cases ok' with
          | false => rfl
          | true => exact absurd ⟨h1, rfl⟩ hlt
        · left; omega)
      have hDT := hD.trans HT2.out
      have HF : Hid (∀ u, wr.ownsRow w.heap.size 116 3 u acc.length (acc.flatMap Tl.vals) → RrTals w B gr v T.1 l T.2.1 T.2.2 (.returned u) wr) := fun u ho => by
        rw [← hDT]
        exact ⟨u, rfl, ho, hRd, hgr2⟩
      clear hD hDT
      by_cases hkn : k < n
      · have hof : ok' = false := by
          cases ok' with
          | false => rfl
          | true => exact absurd ⟨hkn, rfl⟩ hlt
        subst hof
        obtain ⟨j, hj⟩ : ∃ j, n - k = j + 1 := ⟨n - k - 1, by omega⟩
        rw [hj]
        clear hj hlt hM
        go_wp2_with fail
        go_ret
        exact HF.out _ hown
      · have hj : n - k = 0 := by omega
        rw [hj]
        clear hj hlt hM
        go_wp2_with fail
        go_ret
        exact HF.out _ hown
end Go.Proofs.Ytkjhnipjhefndaa
