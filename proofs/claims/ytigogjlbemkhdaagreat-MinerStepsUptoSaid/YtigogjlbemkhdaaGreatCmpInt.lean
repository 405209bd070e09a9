/- cmp.Compare of ints. -/
import Derived.Test.YtigogjlbemkhdaaGreatLib
import Derived.WalkLawsBesides
import Derived.Lib.MinMaxS
namespace Go.Proofs.YtigogjlbemkhdaaGreat
open Go.RowKit
def cmpI (a b : Int) : Int := if a < b then -1 else if b < a then 1 else 0
theorem isNaN_int (a : Int) (w : World) : Calls Tryz.prog 63 #[.int .i64 a] w fun e w' => e = .returned (.bool false) ∧ w = w' := by
  have h : (a != a) = false := by simp
  go_enter Tryz.func63, Tryz.ntmps63
  go_wp2_with fail
  go_ret
  exact ⟨rfl, rfl⟩
theorem cmp_int (a b : Int) (w : World) : Calls Tryz.prog 42 #[.int .i64 a, .int .i64 b] w fun e w' => e = .returned (.int .i64 (cmpI a b)) ∧ w = w' := by
  obtain ⟨c, hc, h⟩ : ∃ c, cmpI a b = c ∧ ((c = -1 ∧ a < b) ∨ (c = 0 ∧ ¬ a < b ∧ ¬ b < a) ∨ (c = 1 ∧ ¬ a < b ∧ b < a)) := by
    unfold cmpI
    rcases Int.lt_trichotomy a b with h | h | h
    · exact ⟨-1, if_pos h, .inl ⟨rfl, h⟩⟩
    · subst h; exact ⟨0, by rw [if_neg (by omega), if_neg (by omega)], .inr (.inl ⟨rfl, by omega, by omega⟩)⟩
    · exact ⟨1, by rw [if_neg (by omega), if_pos h], .inr (.inr ⟨rfl, by omega, h⟩)⟩
  rw [hc]
  clear hc
  rcases h with ⟨rfl, h1⟩ | ⟨rfl, h1, h2⟩ | ⟨rfl, h1, h2⟩
  all_goals
    go_enter Tryz.func42, Tryz.ntmps42
    go_wp2_with fail
    refine (isNaN_int _ _).mono ?_
    rintro e w' ⟨rfl, rfl⟩
    go_wp2_with fail
    refine (isNaN_int _ _).mono ?_
    rintro e w' ⟨rfl, rfl⟩
    go_wp2_with fail
    go_ret
    exact ⟨rfl, rfl⟩
end Go.Proofs.YtigogjlbemkhdaaGreat
