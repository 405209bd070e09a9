/- FilterUnion: the walk of the statement. -/
import Derived.Test.YtfainbgbeojcpaaUnion
import Derived.Test.YtfainbgbeojcpaaBuild
namespace Go.Proofs.Ytfainbgbeojcpaa
open Go.RowKit

/-- What the union of two filters comes to: the number of hashes, the words, the error. -/
def uspec (ha : Int) (la : List Int) (hb : Int) (lb : List Int) : Int × List Int × Int :=
  if fok ha la.length = true ∧ fok hb lb.length = true then (if ha = hb ∧ lb.length = la.length then (ha, orZip la lb, 0) else (0, [], 18)) else (0, [], 2)
def UnionRes (w : World) (r : Int × List Int × Int) (e : Ending) (w' : World) : Prop :=
  ∃ v, e = .returned (.tuple #[.agg #[.int .i64 r.1, v], .int .i64 r.2.2]) ∧ Sl w' (btw w.heap.size w'.heap.size) 1 v r.2.1.length (r.2.1.map (.int .u64)) ∧ Below w.heap.size w w'
theorem uspec_len (ha : Int) (la : List Int) (hb : Int) (lb : List Int) : (uspec ha la hb lb).2.1.length ≤ la.length := by
  unfold uspec; split <;> (try split) <;> simp [orZip, orUpto_len]

theorem union_any (ha hb : Int) (la lb : List Int) (sa sb : Value) (w : World) (hsa : Sl w (lt w.heap.size) 1 sa la.length (la.map (.int .u64))) (hsb : Sl w (lt w.heap.size) 1 sb lb.length (lb.map (.int .u64))) :
    Calls Try.prog 20 #[.agg #[.int .i64 ha, sa], .agg #[.int .i64 hb, sb]] w (UnionRes w (uspec ha la hb lb)) := by
  unfold uspec
  split
  · rename_i hv
    split
    · rename_i he
      obtain ⟨rfl, hl⟩ := he
      refine (union_ok ha la lb sa sb w hsa hsb hv.1 hl).mono ?_
      rintro e w' ⟨v, rfl, hs, hb⟩
      exact ⟨v, rfl, by simpa [orZip, orUpto_len] using hs, hb⟩
    · rename_i he
      obtain ⟨A1, c1, rfl, _, _⟩ := hsa.form
      obtain ⟨A2, c2, rfl, _, _⟩ := hsb.form
      refine (union_type ha hb A1 A2 _ c1 _ c2 w hv.1 hv.2 (by omega)).mono ?_
      rintro e w' ⟨rfl, hb⟩
      exact ⟨_, rfl, Sl.nil _ _ _ _ _, hb⟩
  · rename_i hv
    obtain ⟨A1, c1, rfl, _, _⟩ := hsa.form
    obtain ⟨A2, c2, rfl, _, _⟩ := hsb.form
    refine (union_bad ha hb A1 A2 _ c1 _ c2 w ?_).mono ?_
    · cases h1 : fok ha la.length <;> cases h2 : fok hb lb.length <;> simp_all
    · rintro e w' ⟨rfl, hb⟩
      exact ⟨_, rfl, Sl.nil _ _ _ _ _, hb⟩
theorem refUnion_any (ha hb : Int) (la lb : List Int) (sa sb : Value) (w : World) (hsa : Sl w (lt w.heap.size) 1 sa la.length (la.map (.int .u64))) (hsb : Sl w (lt w.heap.size) 1 sb lb.length (lb.map (.int .u64))) :
    Calls Try.prog 21 #[.agg #[.int .i64 ha, sa], .agg #[.int .i64 hb, sb]] w (UnionRes w (uspec ha la hb lb)) := by
  unfold uspec
  split
  · rename_i hv
    split
    · rename_i he
      obtain ⟨rfl, hl⟩ := he
      refine (refUnion_ok ha la lb sa sb w hsa hsb hv.1 hl).mono ?_
      rintro e w' ⟨v, rfl, hs, hb⟩
      exact ⟨v, rfl, by simpa [orZip, orUpto_len] using hs, hb⟩
    · rename_i he
      obtain ⟨A1, c1, rfl, _, _⟩ := hsa.form
      obtain ⟨A2, c2, rfl, _, _⟩ := hsb.form
      refine (refUnion_type ha hb A1 A2 _ c1 _ c2 w hv.1 hv.2 (by omega)).mono ?_
      rintro e w' ⟨rfl, hb⟩
      exact ⟨_, rfl, Sl.nil _ _ _ _ _, hb⟩
  · rename_i hv
    obtain ⟨A1, c1, rfl, _, _⟩ := hsa.form
    obtain ⟨A2, c2, rfl, _, _⟩ := hsb.form
    refine (refUnion_bad ha hb A1 A2 _ c1 _ c2 w ?_).mono ?_
    · cases h1 : fok ha la.length <;> cases h2 : fok hb lb.length <;> simp_all
    · rintro e w' ⟨rfl, hb⟩
      exact ⟨_, rfl, Sl.nil _ _ _ _ _, hb⟩

theorem law_union_long (h1 h2 : Int) (A1 A2 : Option Addr) (n1 c1 n2 c2 : Nat) (vc : Value) (w : World) (hl : 2000 < n1 ∨ 2000 < n2) :
    Calls Try.prog 4 #[.agg #[.int .i64 h1, .slice A1 n1 c1], .agg #[.int .i64 h2, .slice A2 n2 c2], vc] w fun e w' => e = .returned (.bool true) ∧ Below w.heap.size w w' := by
  by_cases ha : 2000 < n1
  · have d1 : decide ((2000 : Int) < n1) = true := by simp; omega
    go_enter Try.func4, Try.ntmps4
    go_wp2_with (go_at_call 9; refine (awake_true _).mono ?_; rintro e w1 ⟨rfl, hb1⟩; have hH := Held.call (by first | assumption | exact Held.refl _ _) hb1 (Nat.le_refl _))
    go_ret
    exact ⟨rfl, (((Below.refl _ w).alloc (Nat.le_refl _) _).alloc (by simp) _).trans (hH.2.2.mono (by simp; omega))⟩
  · have d1 : decide ((2000 : Int) < n1) = false := by simp; omega
    have d2 : decide ((2000 : Int) < n2) = true := by simp; omega
    go_enter Try.func4, Try.ntmps4
    go_wp2_with (go_at_call 9; refine (awake_true _).mono ?_; rintro e w1 ⟨rfl, hb1⟩; have hH := Held.call (by first | assumption | exact Held.refl _ _) hb1 (Nat.le_refl _))
    go_ret
    exact ⟨rfl, (((Below.refl _ w).alloc (Nat.le_refl _) _).alloc (by simp) _).trans (hH.2.2.mono (by simp; omega))⟩
end Go.Proofs.Ytfainbgbeojcpaa
