/- Contract of the drawing package's Mod. -/
import Derived.Test.YtfainbgbeojcpaaDraw
namespace Go.Proofs.Ytfainbgbeojcpaa
open Go.RowKit

def ModRes (w : World) (n : Int) (e : Ending) (w' : World) : Prop := ∃ r : Int, e = .returned (.int .i64 r) ∧ 0 ≤ r ∧ (1 ≤ n → r < n) ∧ w = w'

theorem drawMod (x n : Int) (w : World) (hn : n ≤ 1000000000) :
    Calls Try.prog 23 #[.int .i64 x, .int .i64 n] w (ModRes w n) := by
  by_cases h : n < 1
  · have d : decide (n < 1) = true := by simpa using h
    go_enter Try.func23, Try.ntmps23
    go_wp2
    go_ret
    exact ⟨0, rfl, by omega, by omega, rfl⟩
  · have d : decide (n < 1) = false := by simpa using h
    have t1 : x.tmod n < n := Int.tmod_lt_of_pos x (by omega)
    have t0 : -n < x.tmod n := Int.lt_tmod_of_pos x (by omega)
    go_enter Try.func23, Try.ntmps23
    go_wp2
    go_ret
    exact ⟨_, rfl, Int.emod_nonneg _ (by omega), fun _ => Int.emod_lt_of_pos _ (by omega), rfl⟩
end Go.Proofs.Ytfainbgbeojcpaa
