/- cmp.Compare of ints and strings, slices.Compare of strings, cmp.Or. -/
import Derived.Test.YtigogjlbemkhdaaGreatCmpInt
namespace Go.Proofs.YtigogjlbemkhdaaGreat
open Go.RowKit
def cmpB (a b : List UInt8) : Int := if a < b then -1 else if a = b then 0 else 1
abbrev lb (s : ByteArray) : List UInt8 := s.data.toList
theorem isNaN_str (s : ByteArray) (w : World) : Calls Tryz.prog 80 #[.string s] w fun e w' => e = .returned (.bool false) ∧ w = w' := by
  go_enter Tryz.func80, Tryz.ntmps80
  go_wp2_with fail
  go_ret
  first | exact ⟨rfl, rfl⟩ | exact ⟨ret_bool (by simp), rfl⟩
theorem bless (s t : ByteArray) : Op.bytesLess s.toList t.toList = decide (lb s < lb t) := by rw [Proofs.bytesLess_eq, Lib.toList_data, Lib.toList_data]
theorem lb_inj {s t : ByteArray} (h : lb s = lb t) : s = t := by
  cases s; cases t
  simp only [ByteArray.mk.injEq]
  exact Array.ext' h
theorem beq_lb (s t : ByteArray) : (s.toList == t.toList) = decide (lb s = lb t) := by
  rw [Lib.toList_data, Lib.toList_data, Bool.eq_iff_iff, beq_iff_eq, decide_eq_true_iff]
theorem cmp_str (s t : ByteArray) (w : World) : Calls Tryz.prog 64 #[.string s, .string t] w fun e w' => e = .returned (.int .i64 (cmpB (lb s) (lb t))) ∧ w = w' := by
  have hl := bless s t
  have he := beq_lb s t
  obtain ⟨c, hc, h⟩ : ∃ c, cmpB (lb s) (lb t) = c ∧ ((c = -1 ∧ Op.bytesLess s.toList t.toList = true) ∨ (c = 0 ∧ Op.bytesLess s.toList t.toList = false ∧ (s.toList == t.toList) = true) ∨ (c = 1 ∧ Op.bytesLess s.toList t.toList = false ∧ (s.toList == t.toList) = false)) := by
    rw [hl, he]
    unfold cmpB
    by_cases h1 : lb s < lb t
    · exact ⟨-1, if_pos h1, .inl ⟨rfl, decide_eq_true h1⟩⟩
    · by_cases h2 : lb s = lb t
      · exact ⟨0, by rw [if_neg h1, if_pos h2], .inr (.inl ⟨rfl, decide_eq_false h1, decide_eq_true h2⟩)⟩
      · exact ⟨1, by rw [if_neg h1, if_neg h2], .inr (.inr ⟨rfl, decide_eq_false h1, decide_eq_false h2⟩)⟩
  rw [hc]
  clear hc hl he
  rcases h with ⟨rfl, h1⟩ | ⟨rfl, h1, h2⟩ | ⟨rfl, h1, h2⟩
  all_goals
    go_enter Tryz.func64, Tryz.ntmps64
    go_wp2_with fail
    refine (isNaN_str _ _).mono ?_
    rintro e w' ⟨rfl, rfl⟩
    go_wp2_with fail
    refine (isNaN_str _ _).mono ?_
    rintro e w' ⟨rfl, rfl⟩
    go_wp2_with fail
    go_ret
    exact ⟨rfl, rfl⟩
end Go.Proofs.YtigogjlbemkhdaaGreat
