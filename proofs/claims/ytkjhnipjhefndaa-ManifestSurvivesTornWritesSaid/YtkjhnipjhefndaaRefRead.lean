/- The reader of the reference for chapter 30: int, count, text. -/
import Derived.Test.YtkjhnipjhefndaaReadB
import Derived.Test.YtkjhnipjhefndaaGetVar
namespace Go.Proofs.Ytkjhnipjhefndaa
open Go.RowKit

theorem gvGo_le : ∀ (l : List UInt8) (k v n m : Nat), v < 18446744073709551616 → gvGo k v l = some (n, m) → m ≤ k + l.length ∧ n < 18446744073709551616
  | [], k, v, n, m, _, h => by rw [gvGo] at h; cases h
  | c :: l, k, v, n, m, hv, h => by
    have hb := (gv_acc v k c hv).2
    rw [gvGo] at h
    split at h
    · cases h
    · split at h
      · cases h
      · split at h
        · split at h
          · cases h
          · injection h with h
            injection h with h1 h2
            subst h1 h2
            exact ⟨by simp, hb⟩
        · have := gvGo_le l _ _ n m hb h
          exact ⟨by simp; omega, this.2⟩
theorem getVar_le (l : List UInt8) (p : Nat) (hp : p ≤ l.length) : (getVar l p).1 < 18446744073709551616 ∧ (getVar l p).2.1 ≤ l.length := by
  unfold getVar
  split
  · rename_i n k h
    have := gvGo_le _ 0 0 n k (by omega) h
    rw [List.length_drop] at this
    exact ⟨this.2, by simp only; omega⟩
  · exact ⟨by simp, by simp⟩
/-- The reference's reader at block gr: the bytes, the offset, and whether all was well. -/
structure Rr (w : World) (B gr : Nat) (v : Value) (l : List UInt8) (p : Nat) (ok : Bool) : Prop where
  b : Blk w gr 108 #[v, .int .i64 p, .bool ok]
  s : BSl w (lt B) v l
  o : B ≤ gr
  p : p ≤ l.length
def RrRes (w : World) (B gr : Nat) (v : Value) (u : Value) (l : List UInt8) (p : Nat) (ok : Bool) (e : Ending) (w' : World) : Prop :=
  e = .returned u ∧ Rr w' B gr v l p ok ∧ w.grownBy w' (some gr)
theorem Blk.cell3 {w : World} {g : Nat} {t : TypeId} {x y z : Value} (h : Blk w g t #[x, y, z]) : w.cell? ⟨g, 0, none⟩ = some x ∧ w.cell? ⟨g, 1, none⟩ = some y ∧ w.cell? ⟨g, 2, none⟩ = some z := ⟨by rw [h.cell]; rfl, by rw [h.cell]; rfl, by rw [h.cell]; rfl⟩
section
variable {w : World} {B gr : Nat} {v : Value} {l : List UInt8} {p : Nat} {ok : Bool}
theorem Rr.setOk (h : Rr w B gr v l p ok) (ok' : Bool) : Rr (w.setCell ⟨gr, 2, none⟩ (.bool ok')) B gr v l p ok' ∧ w.grownBy (w.setCell ⟨gr, 2, none⟩ (.bool ok')) (some gr) :=
  ⟨⟨h.b.set_ 2 _, bsl_set h.s h.o, h.o, h.p⟩, grownBy_set (World.grownBy.refl _ _) _ _⟩
theorem Rr.setAt (h : Rr w B gr v l p ok) {p' : Nat} (hp : p' ≤ l.length) : Rr (w.setCell ⟨gr, 1, none⟩ (.int .i64 p')) B gr v l p' ok ∧ w.grownBy (w.setCell ⟨gr, 1, none⟩ (.int .i64 p')) (some gr) :=
  ⟨⟨h.b.set_ 1 _, bsl_set h.s h.o, h.o, hp⟩, grownBy_set (World.grownBy.refl _ _) _ _⟩
theorem Rr.drewN (h : Rr w B gr v l p ok) (n : Nat) : Rr (w.drewN n) B gr v l p ok := ⟨h.b, h.s, h.o, h.p⟩
end
/-- Reading an integer at p. -/
def rIntS (l : List UInt8) (p : Nat) (ok : Bool) : Int × Nat × Bool := if ok = true ∧ (getVar l p).2.2 = true then (unz (getVar l p).1, (getVar l p).2.1, true) else (0, p, false)
def rCountS (l : List UInt8) (p : Nat) (ok : Bool) : Nat × Nat × Bool :=
  if (rIntS l p ok).1 < 0 ∨ (l.length : Int) < (rIntS l p ok).1 then (0, (rIntS l p ok).2.1, false) else ((rIntS l p ok).1.toNat, (rIntS l p ok).2)
def rTextS (l : List UInt8) (p : Nat) (ok : Bool) : List UInt8 × Nat × Bool :=
  if ok = true ∧ (getVar l p).2.2 = true ∧ (getVar l p).1 ≤ l.length - (getVar l p).2.1 then ((l.drop (getVar l p).2.1).take (getVar l p).1, (getVar l p).2.1 + (getVar l p).1, true) else ([], p, false)
theorem rIntS_le (l : List UInt8) (p : Nat) (ok : Bool) (hp : p ≤ l.length) : (rIntS l p ok).2.1 ≤ l.length := by
  unfold rIntS
  split
  · exact (getVar_le l p hp).2
  · exact hp
set_option maxRecDepth 100000 in
theorem unzig_any (n : Nat) (w : World) (hn : n < 18446744073709551616) : Calls Try.prog 88 #[.int .u64 n] w fun e w' => e = .returned (.int .i64 (unz n)) ∧ w = w' := by
  go_enter Try.func88, Try.ntmps88
  go_wp2_with fail
  go_ret
  exact ⟨ret_int (unz_eq n hn), rfl⟩
def GiRes (r : Nat × Nat × Bool) (w : World) (e : Ending) (w' : World) : Prop := e = .returned (.tuple #[.int .i64 (unz r.1), .int .i64 r.2.1, .bool r.2.2]) ∧ w = w'
set_option maxRecDepth 100000 in
theorem getint_any (v : Value) (l : List UInt8) (S : Nat → Prop) (p : Nat) (w : World) (h : BSl w S v l) (hm : l.length ≤ 1000000000) (hp : p ≤ l.length) :
    Calls Try.prog 83 #[v, .int .i64 p] w (GiRes (getVar l p) w) := by
  have hle := (getVar_le l p hp).1
  have hg := getvar_any v l S p w h hm hp
  generalize getVar l p = r at *
  go_enter Try.func83, Try.ntmps83
  go_wp2_with fail
  refine hg.mono ?_
  rintro e w1 ⟨rfl, rfl⟩
  clear hg
  go_wp2_with fail
  refine (unzig_any r.1 w hle).mono ?_
  rintro e w2 ⟨rfl, rfl⟩
  go_wp2_with fail
  go_ret3
  exact ⟨rfl, rfl⟩
set_option maxRecDepth 100000 in
theorem rrint_any (B gr : Nat) (v : Value) (l : List UInt8) (p : Nat) (ok : Bool) (w : World) (h : Rr w B gr v l p ok) (hm : l.length ≤ 1000000) :
    Calls Try.prog 64 #[.pointer (some ⟨gr, 0, none⟩)] w (RrRes w B gr v (.int .i64 (rIntS l p ok).1) l (rIntS l p ok).2.1 (rIntS l p ok).2.2) := by
  have hs' : Sl w (lt B) 1 v l.length (l.map ub) := h.s
  obtain ⟨A, c, rfl, hc, hs⟩ := hs'.form
  obtain ⟨p0, p1, p2⟩ := h.b.cell3
  have f1 := h.b.frozen 1
  have f2 := h.b.frozen 2
  obtain ⟨hle1, hle2⟩ := getVar_le l p h.p
  have hg := fun n => (getint_any _ l (lt B) p (w.drewN n) (h.drewN n).s (by omega) h.p).mono (R' := fun e w' => e = .returned (.tuple #[.int .i64 (unz (getVar l p).1), .int .i64 (getVar l p).2.1, .bool (getVar l p).2.2]) ∧ w' = w.drewN n) (fun _ _ hh => ⟨hh.1, hh.2.symm⟩)
  clear hs' hs hc
  by_cases hok : ok = true ∧ (getVar l p).2.2 = true
  · have HE : Hid (∀ n, RrRes w B gr (.slice A l.length c) (.int .i64 (rIntS l p ok).1) l (rIntS l p ok).2.1 (rIntS l p ok).2.2 (.returned (.int .i64 (unz (getVar l p).1))) (((w.drewN n).setCell ⟨gr, 2, none⟩ (.bool true)).setCell ⟨gr, 1, none⟩ (.int .i64 (getVar l p).2.1))) := fun n => by
      unfold rIntS
      rw [if_pos hok]
      have h1 := (h.drewN n).setOk true
      have h2 := h1.1.setAt hle2
      exact ⟨rfl, h2.1, grownBy_trans (grownBy_drewN (World.grownBy.refl _ _) n) (grownBy_trans h1.2 h2.2)⟩
    generalize rIntS l p ok = R at *
    generalize getVar l p = r at *
    obtain ⟨rfl, hr2⟩ := hok
    rw [hr2] at hg
    have HR2 := keep hr2
    clear hr2 h
    go_enter Try.func64, Try.ntmps64
    go_wp2_with fail
    go_quiet ((go_at_call 83; exact Calls.quiet_of_same (hg _)))
    go_wp2_with fail
    go_ret
    exact HE.out _
  · have HE : Hid (∀ n, RrRes w B gr (.slice A l.length c) (.int .i64 (rIntS l p ok).1) l (rIntS l p ok).2.1 (rIntS l p ok).2.2 (.returned (.int .i64 0)) ((w.drewN n).setCell ⟨gr, 2, none⟩ (.bool false))) := fun n => by
      unfold rIntS
      rw [if_neg hok]
      have h1 := (h.drewN n).setOk false
      exact ⟨rfl, h1.1, grownBy_trans (grownBy_drewN (World.grownBy.refl _ _) n) h1.2⟩
    generalize rIntS l p ok = R at *
    generalize getVar l p = r at *
    clear h
    go_enter Try.func64, Try.ntmps64
    go_wp2_with fail
    go_quiet ((go_at_call 83; exact Calls.quiet_of_same (hg _)))
    rcases r with ⟨r1, r2, r3⟩
    cases ok with
    | false =>
      clear hok
      go_wp2_with fail
      go_ret
      exact HE.out _
    | true =>
      have h3 : r3 = false := by simpa using hok
      subst h3
      clear hok
      go_wp2_with fail
      go_ret
      exact HE.out _
end Go.Proofs.Ytkjhnipjhefndaa
