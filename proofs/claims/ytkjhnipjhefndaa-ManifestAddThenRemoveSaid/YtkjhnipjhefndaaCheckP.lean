/- The contract of manifest.Check. -/
import Derived.Test.YtkjhnipjhefndaaChecks
namespace Go.Proofs.Ytkjhnipjhefndaa
open Go.RowKit

theorem manErr_many {m : Man} (h : 64 < m.segs.length) : manErr m = 4 := by unfold manErr; rw [if_pos h]
theorem manErr_range {m : Man} (h : ¬ 64 < m.segs.length) (h2 : m.nu < 0 ∨ m.nx < 0 ∨ m.jo < 0 ∨ m.segs.any (segBad m.nx) = true) : manErr m = 2 := by unfold manErr; rw [if_neg h, if_pos h2]
theorem manErr_rest {m : Man} (h : ¬ 64 < m.segs.length) (h2 : ¬ (m.nu < 0 ∨ m.nx < 0 ∨ m.jo < 0)) (h3 : m.segs.any (segBad m.nx) = false) :
    manErr m = if asc segLess m.segs = true ∧ asc mkLess m.marks = true ∧ asc tlLess m.tals = true ∧ asc tlLess m.exps = true then 0 else 19 := by
  unfold manErr
  rw [if_neg h, if_neg]
  rw [h3]
  intro h4
  rcases h4 with h4 | h4 | h4 | h4
  · exact h2 (.inl h4)
  · exact h2 (.inr (.inl h4))
  · exact h2 (.inr (.inr h4))
  · cases h4
def IsErr (w : World) (r : Int) (e : Ending) (w' : World) : Prop := e = .returned (.int .i64 r) ∧ Below w.heap.size w w'

set_option maxRecDepth 100000 in
theorem check_any (m : Man) (vS vM vT vE : Value) (w : World) (hL : Lies w (lt w.heap.size) m vS vM vT vE) (hsm : Small m) :
    Calls Try.prog 15 #[.agg (manCells m vS vM vT vE)] w (IsErr w (manErr m)) := by
  have hba : Below w.heap.size w (w.alloc (.cells (manCells m vS vM vT vE) 28)) := (Below.refl _ w).alloc (Nat.le_refl _) _
  obtain ⟨AS, cS, rfl, _, _⟩ := hL.s.form
  obtain ⟨AM, cM, rfl, _, _⟩ := hL.m_.form
  obtain ⟨AT, cT, rfl, _, _⟩ := hL.t.form
  obtain ⟨AE, cE, rfl, _, _⟩ := hL.e.form
  have hLa := hL.below hba
  have hB := Blk.new w 28 (manCells m (.slice AS m.segs.length cS) (.slice AM m.marks.length cM) (.slice AT m.tals.length cT) (.slice AE m.exps.length cE))
  by_cases h64 : 64 < m.segs.length
  · rw [manErr_many h64]
    clear hLa hL hB
    go_enter Try.func15, Try.ntmps15
    go_wp2_with fail
    go_ret
    exact ⟨rfl, hba⟩
  · by_cases hneg : m.nu < 0 ∨ m.nx < 0 ∨ m.jo < 0
    · rw [manErr_range h64 (by rcases hneg with h | h | h; exact .inl h; exact .inr (.inl h); exact .inr (.inr (.inl h)))]
      clear hLa hL hB
      by_cases h1 : m.nu < 0
      · go_enter Try.func15, Try.ntmps15
        go_wp2_with fail
        go_ret
        exact ⟨rfl, hba⟩
      · by_cases h2 : m.nx < 0
        · clear hneg
          go_enter Try.func15, Try.ntmps15
          go_wp2_with fail
          go_ret
          exact ⟨rfl, hba⟩
        · have h3 : m.jo < 0 := by omega
          clear hneg
          go_enter Try.func15, Try.ntmps15
          go_wp2_with fail
          go_ret
          exact ⟨rfl, hba⟩
    · have n1 : ¬ m.nu < 0 := fun h => hneg (.inl h)
      have n2 : ¬ m.nx < 0 := fun h => hneg (.inr (.inl h))
      have n3 : ¬ m.jo < 0 := fun h => hneg (.inr (.inr h))
      obtain ⟨qb, hqb⟩ : ∃ q, m.segs.any (segBad m.nx) = q := ⟨_, rfl⟩
      obtain ⟨q1, hq1⟩ : ∃ q, asc segLess m.segs = q := ⟨_, rfl⟩
      obtain ⟨q2, hq2⟩ : ∃ q, asc mkLess m.marks = q := ⟨_, rfl⟩
      obtain ⟨q3, hq3⟩ : ∃ q, asc tlLess m.tals = q := ⟨_, rfl⟩
      obtain ⟨q4, hq4⟩ : ∃ q, asc tlLess m.exps = q := ⟨_, rfl⟩
      have HE : Hid (manErr m = if qb = true then 2 else if q1 = true ∧ q2 = true ∧ q3 = true ∧ q4 = true then 0 else 19) := by
        cases hq : qb
        · rw [hq] at hqb; rw [manErr_rest h64 hneg hqb, hq1, hq2, hq3, hq4]; exact rfl
        · rw [hq] at hqb; exact manErr_range h64 (.inr (.inr (.inr hqb)))
      generalize manErr m = r at *
      have HB := keep hqb
      have H1 := keep hq1
      have H2 := keep hq2
      have H3 := keep hq3
      have H4 := keep hq4
      clear hqb hq1 hq2 hq3 hq4 hneg
      obtain ⟨W, hW⟩ : ∃ W, W = w.alloc (.cells (manCells m (.slice AS m.segs.length cS) (.slice AM m.marks.length cM) (.slice AT m.tals.length cT) (.slice AE m.exps.length cE)) 28) := ⟨_, rfl⟩
      obtain ⟨g, hg⟩ : ∃ g, g = w.heap.size := ⟨_, rfl⟩
      go_enter Try.func15, Try.ntmps15
      go_upto_region 1 with fail
      rw [← hW, ← hg]
      rw [← hW] at hba hLa hB
      rw [← hg] at hB
      clear hW hL hg
      obtain ⟨c0, c1, c2, c3, c4, c5, c6⟩ := hB.cell7
      go_wp2_with fail
      refine (contBad_any _ m.segs g m _ _ _ _ W hB hLa.s hsm.s).mono ?_
      rw [HB.out]
      rintro e w1 ⟨rfl, hb1⟩
      cases qb
      case true =>
        go_wp2_with fail
        go_ret
        exact ⟨ret_int (by rw [HE.out]; simp), hba.trans (hb1.mono hba.size)⟩
      case false =>
        have hL1 := hLa.below hb1
        have hB1 := hB.below hb1 hB.lt
        have hbw1 := hba.trans (hb1.mono hba.size)
        clear c0 c1 c2 c3 c4 c5 c6 hLa hB hba hb1
        obtain ⟨c0, c1, c2, c3, c4, c5, c6⟩ := hB1.cell7
        go_wp2_with fail
        refine (sortedSeg_any _ m.segs w1 hL1.s hsm.s).mono ?_
        rw [H1.out]
        rintro e w2 ⟨rfl, hb2⟩
        cases q1
        case false =>
          go_wp2_with fail
          go_ret
          exact ⟨ret_int (by rw [HE.out]; simp), hbw1.trans (hb2.mono hbw1.size)⟩
        case true =>
          have hL2 := hL1.below hb2
          have hB2 := hB1.below hb2 hB1.lt
          have hbw2 := hbw1.trans (hb2.mono hbw1.size)
          clear c0 c1 c2 c3 c4 c5 c6 hL1 hB1 hbw1 hb2
          obtain ⟨c0, c1, c2, c3, c4, c5, c6⟩ := hB2.cell7
          go_wp2_with fail
          refine (sortedMk_any _ m.marks w2 hL2.m_ hsm.m_).mono ?_
          rw [H2.out]
          rintro e w3 ⟨rfl, hb3⟩
          cases q2
          case false =>
            go_wp2_with fail
            go_ret
            exact ⟨ret_int (by rw [HE.out]; simp), hbw2.trans (hb3.mono hbw2.size)⟩
          case true =>
            have hL3 := hL2.below hb3
            have hB3 := hB2.below hb3 hB2.lt
            have hbw3 := hbw2.trans (hb3.mono hbw2.size)
            clear c0 c1 c2 c3 c4 c5 c6 hL2 hB2 hbw2 hb3
            obtain ⟨c0, c1, c2, c3, c4, c5, c6⟩ := hB3.cell7
            go_wp2_with fail
            refine (tallies_any _ m.tals w3 hL3.t hsm.t).mono ?_
            rw [H3.out]
            rintro e w4 ⟨rfl, hb4⟩
            cases q3
            case false =>
              go_wp2_with fail
              go_ret
              exact ⟨ret_int (by rw [HE.out]; simp), hbw3.trans (hb4.mono hbw3.size)⟩
            case true =>
              have hL4 := hL3.below hb4
              have hB4 := hB3.below hb4 hB3.lt
              have hbw4 := hbw3.trans (hb4.mono hbw3.size)
              clear c0 c1 c2 c3 c4 c5 c6 hL3 hB3 hbw3 hb4
              obtain ⟨c0, c1, c2, c3, c4, c5, c6⟩ := hB4.cell7
              go_wp2_with fail
              refine (tallies_any _ m.exps w4 hL4.e hsm.e).mono ?_
              rw [H4.out]
              rintro e w5 ⟨rfl, hb5⟩
              cases q4
              all_goals
                go_wp2_with fail
                go_ret
                exact ⟨ret_int (by rw [HE.out]; simp), hbw4.trans (hb5.mono hbw4.size)⟩
end Go.Proofs.Ytkjhnipjhefndaa
