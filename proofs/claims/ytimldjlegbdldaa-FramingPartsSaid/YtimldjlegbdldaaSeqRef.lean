/- The contracts of the reference's more and sequence. -/
import Derived.Test.YtimldjlegbdldaaValid
namespace Go.Proofs.Ytimldjlegbdldaa
open Go.RowKit

theorem inB_drop (l : List UInt8) (a i : Nat) (lo hi : Int) : inB (l.drop a) i lo hi = inB l (a + i) lo hi := by
  have e : (l.drop a).getD i 0 = l.getD (a + i) 0 := by simp [List.getD_eq_getElem?_getD]
  have e2 : decide (i < (l.drop a).length) = decide (a + i < l.length) := by
    rw [List.length_drop]
    exact decide_eq_decide.2 (by omega)
  unfold inB
  rw [e, e2]

/-- more(b, i, lo, hi). -/
theorem more_any (v : Value) (l : List UInt8) (S : Nat → Prop) (w : World) (h : BSl w S v l) (i : Nat) (lo hi : Int) :
    Calls Try.prog 38 #[v, .int .i64 i, .int .u8 lo, .int .u8 hi] w fun e w' => e = .returned (.bool (inB l i lo hi)) ∧ w = w' := by
  obtain ⟨A, c, rfl, hc, h⟩ := h.forms
  by_cases hi1 : i < l.length
  · obtain ⟨b, o, rfl, hb, hcell⟩ := h.byte hi1
    obtain ⟨x0, x1⟩ := byte_bd l i
    have hin : inB l i lo hi = (decide (lo ≤ ((l.getD i 0).toNat : Int)) && decide (((l.getD i 0).toNat : Int) ≤ hi)) := by simp [inB, hi1]
    rw [hin]
    generalize ((l.getD i 0).toNat : Int) = x at *
    have q1 : decide ((i : Int) < (l.length : Int)) = true := by simpa using hi1
    have q2 : (i : Int) < (l.length : Int) := by omega
    clear hin
    by_cases h1 : lo ≤ x
    · have d1 : decide (lo ≤ x) = true := by simpa using h1
      by_cases h2 : x ≤ hi
      all_goals
        go_enter Try.func38, Try.ntmps38
        go_wp2
        go_ret
        exact ⟨ret_bool (by simp [h1, h2]), rfl⟩
    · have d1 : decide (lo ≤ x) = false := by simpa using h1
      go_enter Try.func38, Try.ntmps38
      go_wp2
      go_ret
      exact ⟨ret_bool (by simp), rfl⟩
  · have hin : inB l i lo hi = false := by simp [inB, hi1]
    rw [hin]
    have q1 : decide ((i : Int) < (l.length : Int)) = false := by simp; omega
    clear hin
    go_enter Try.func38, Try.ntmps38
    go_wp2
    go_ret
    exact ⟨rfl, rfl⟩
theorem more_at (v : Value) (l : List UInt8) (S : Nat → Prop) (w : World) (h : BSl w S v l) (a k : Nat) (lo hi : Int) (q : Bool) (hq : inB (l.drop a) k lo hi = q) (j : Int) (hj : (k : Int) = j) :
    Calls Try.prog 38 #[v, .int .i64 ((a : Int) + j), .int .u8 lo, .int .u8 hi] w fun e w' => e = .returned (.bool q) ∧ w = w' := by
  have h1 := more_any v l S w h (a + k) lo hi
  rw [← inB_drop, hq] at h1
  rwa [show ((a + k : Nat) : Int) = (a : Int) + j by omega] at h1

set_option maxHeartbeats 2000000 in
/-- sequence(b, a). -/
theorem sequence_any (v : Value) (l : List UInt8) (S : Nat → Prop) (w : World) (h : BSl w S v l) (a : Nat) (ha : a < l.length) (hm : l.length ≤ 1000000000000) :
    Calls Try.prog 31 #[v, .int .i64 a] w fun e w' => e = .returned (.int .i64 (seqL (l.drop a))) ∧ w = w' := by
  obtain ⟨A, c, rfl, hc, h⟩ := h.forms
  obtain ⟨b, o, rfl, hb, hcell⟩ := h.byte ha
  obtain ⟨x0, x1⟩ := byte_bd l a
  have hseq : seqL (l.drop a) = if ((l.getD a 0).toNat : Int) < 128 then 1 else if restB (l.drop a) ((l.getD a 0).toNat : Int) then lenB ((l.getD a 0).toNat : Int) else 0 := by
    have e : (l.drop a).getD 0 0 = l.getD a 0 := by simp [List.getD_eq_getElem?_getD]
    unfold seqL hdB
    rw [e]
  obtain ⟨r, hr⟩ : ∃ r, seqL (l.drop a) = r := ⟨_, rfl⟩
  rw [hr] at hseq
  rw [hr]
  clear hr
  have HS := keep hseq
  clear hseq
  have hM := fun k lo hi q hq j hj => more_at _ l S w h a k lo hi q hq j hj
  have HM := keep hM
  clear hM
  generalize ((l.getD a 0).toNat : Int) = x at *
  have a1 : (a : Int) < (l.length : Int) := by omega
  obtain ⟨m, hl⟩ : ∃ m, l.drop a = m := ⟨_, rfl⟩
  rw [hl] at HS HM
  clear hl
  go_enter Try.func31, Try.ntmps31
  go_upto_block 0 with (fail)
  go_cut [6, 7] (fun s6 s7 wc => s6 = .int .u8 (loB x) ∧ s7 = .int .u8 (hiB x) ∧ wc = w)
  case first =>
    clear HS HM
    go_wp2
    all_goals
      simp only [beq_iff_eq, beq_eq_false_iff_ne, ne_eq] at *
      go_meet
      case rel =>
        refine ⟨?_, ?_, rfl⟩
        · unfold loB; (repeat' split) <;> first | rfl | (exfalso; omega)
        · unfold hiB; (repeat' split) <;> first | rfl | (exfalso; omega)
  case rest =>
    obtain ⟨rfl, rfl, rfl⟩ := hcut
    by_cases c1 : x < 128
    · obtain rfl : r = 1 := by rw [HS.out, if_pos c1]
      clear HS HM
      go_wp2
      go_ret
      exact ⟨rfl, rfl⟩
    · have hs := HS.out
      rw [if_neg c1] at hs
      have HR : Hid (restB m x = (inB m 1 (loB x) (hiB x) && (decide (lenB x < 3) || inB m 2 128 191) && (decide (lenB x < 4) || inB m 3 128 191))) := keep rfl
      have HQ := keep hs
      clear HS hs
      by_cases c2 : x < 194
      · obtain rfl : r = 0 := by rw [HQ.out]; exact restB_no (.inl (by simp [lenB, c2]))
        clear HQ HR HM
        have d1 : decide (194 ≤ x) = false := by simp; omega
        have d2 : decide (224 ≤ x) = false := by simp; omega
        have d3 : decide (240 ≤ x) = false := by simp; omega
        go_wp2
        go_ret
        exact ⟨rfl, rfl⟩
      · have d1 : decide (194 ≤ x) = true := by simp; omega
        by_cases c3 : x < 224
        · have e1 : loB x = 128 := by unfold loB; rw [if_neg (by omega), if_neg (by omega)]
          have e2 : hiB x = 191 := by unfold hiB; rw [if_neg (by omega), if_neg (by omega)]
          have e3 : lenB x = 2 := by unfold lenB; rw [if_neg c2, if_pos c3]
          have hR := HR.out
          rw [e1, e2, e3] at hR
          have hQ := HQ.out
          rw [e3] at hQ
          rw [e1, e2]
          have d2 : decide (224 ≤ x) = false := by simp; omega
          have d3 : decide (240 ≤ x) = false := by simp; omega
          have d4 : decide (x ≤ 223) = true := by simp; omega
          cases q1 : inB m 1 128 191 with
          | false =>
            have M1 := HM.out 1 128 191 _ q1 1 rfl
            obtain rfl : r = 0 := by rw [hQ, hR, q1]; rfl
            clear hQ hR HQ HR HM q1 e1 e2 e3
            go_wp2_with (go_at_call 38; (with_reducible refine M1.mono ?_); rintro e w' ⟨rfl, rfl⟩)
            go_ret
            exact ⟨rfl, rfl⟩
          | true =>
            have M1 := HM.out 1 128 191 _ q1 1 rfl
            obtain rfl : r = 2 := by rw [hQ, hR, q1]; rfl
            clear hQ hR HQ HR HM q1 e1 e2 e3
            go_wp2_with (go_at_call 38; (with_reducible refine M1.mono ?_); rintro e w' ⟨rfl, rfl⟩)
            go_ret
            exact ⟨rfl, rfl⟩
        · have d2 : decide (224 ≤ x) = true := by simp; omega
          have d4 : decide (x ≤ 223) = false := by simp; omega
          by_cases c4 : x < 240
          · have e3 : lenB x = 3 := by unfold lenB; rw [if_neg c2, if_neg c3, if_pos c4]
            have hR := HR.out
            rw [e3] at hR
            have hQ := HQ.out
            rw [e3] at hQ
            have d3 : decide (240 ≤ x) = false := by simp; omega
            have d5 : decide (x ≤ 239) = true := by simp; omega
            generalize loB x = lo at *
            generalize hiB x = hi at *
            cases q1 : inB m 1 lo hi with
            | false =>
              have M1 := HM.out 1 lo hi _ q1 1 rfl
              obtain rfl : r = 0 := by rw [hQ, hR, q1]; rfl
              clear hQ hR HQ HR HM q1 e3
              go_wp2_with (go_at_call 38; (with_reducible refine M1.mono ?_); rintro e w' ⟨rfl, rfl⟩)
              go_ret
              exact ⟨rfl, rfl⟩
            | true =>
              have M1 := HM.out 1 lo hi _ q1 1 rfl
              cases q2 : inB m 2 128 191 with
              | false =>
                have M2 := HM.out 2 128 191 _ q2 2 rfl
                obtain rfl : r = 0 := by rw [hQ, hR, q1, q2]; rfl
                clear hQ hR HQ HR HM q1 q2 e3
                go_wp2_with (first | (go_at_call 38; (with_reducible refine M1.mono ?_); rintro e w' ⟨rfl, rfl⟩) | (go_at_call 38; (with_reducible refine M2.mono ?_); rintro e w' ⟨rfl, rfl⟩))
                go_ret
                exact ⟨rfl, rfl⟩
              | true =>
                have M2 := HM.out 2 128 191 _ q2 2 rfl
                obtain rfl : r = 3 := by rw [hQ, hR, q1, q2]; rfl
                clear hQ hR HQ HR HM q1 q2 e3
                go_wp2_with (first | (go_at_call 38; (with_reducible refine M1.mono ?_); rintro e w' ⟨rfl, rfl⟩) | (go_at_call 38; (with_reducible refine M2.mono ?_); rintro e w' ⟨rfl, rfl⟩))
                go_ret
                exact ⟨rfl, rfl⟩
          · have d3 : decide (240 ≤ x) = true := by simp; omega
            have d5 : decide (x ≤ 239) = false := by simp; omega
            by_cases c5 : x < 245
            · have e3 : lenB x = 4 := by unfold lenB; rw [if_neg c2, if_neg c3, if_neg c4, if_pos c5]
              have hR := HR.out
              rw [e3] at hR
              have hQ := HQ.out
              rw [e3] at hQ
              have d6 : decide (x ≤ 244) = true := by simp; omega
              generalize loB x = lo at *
              generalize hiB x = hi at *
              cases q1 : inB m 1 lo hi with
              | false =>
                have M1 := HM.out 1 lo hi _ q1 1 rfl
                obtain rfl : r = 0 := by rw [hQ, hR, q1]; rfl
                clear hQ hR HQ HR HM q1 e3
                go_wp2_with (go_at_call 38; (with_reducible refine M1.mono ?_); rintro e w' ⟨rfl, rfl⟩)
                go_ret
                exact ⟨rfl, rfl⟩
              | true =>
                have M1 := HM.out 1 lo hi _ q1 1 rfl
                cases q2 : inB m 2 128 191 with
                | false =>
                  have M2 := HM.out 2 128 191 _ q2 2 rfl
                  obtain rfl : r = 0 := by rw [hQ, hR, q1, q2]; rfl
                  clear hQ hR HQ HR HM q1 q2 e3
                  go_wp2_with (first | (go_at_call 38; (with_reducible refine M1.mono ?_); rintro e w' ⟨rfl, rfl⟩) | (go_at_call 38; (with_reducible refine M2.mono ?_); rintro e w' ⟨rfl, rfl⟩))
                  go_ret
                  exact ⟨rfl, rfl⟩
                | true =>
                  have M2 := HM.out 2 128 191 _ q2 2 rfl
                  cases q3 : inB m 3 128 191 with
                  | false =>
                    have M3 := HM.out 3 128 191 _ q3 3 rfl
                    obtain rfl : r = 0 := by rw [hQ, hR, q1, q2, q3]; rfl
                    clear hQ hR HQ HR HM q1 q2 q3 e3
                    go_wp2_with (first | (go_at_call 38; (with_reducible refine M1.mono ?_); rintro e w' ⟨rfl, rfl⟩) | (go_at_call 38; (with_reducible refine M2.mono ?_); rintro e w' ⟨rfl, rfl⟩) | (go_at_call 38; (with_reducible refine M3.mono ?_); rintro e w' ⟨rfl, rfl⟩))
                    go_ret
                    exact ⟨rfl, rfl⟩
                  | true =>
                    have M3 := HM.out 3 128 191 _ q3 3 rfl
                    obtain rfl : r = 4 := by rw [hQ, hR, q1, q2, q3]; rfl
                    clear hQ hR HQ HR HM q1 q2 q3 e3
                    go_wp2_with (first | (go_at_call 38; (with_reducible refine M1.mono ?_); rintro e w' ⟨rfl, rfl⟩) | (go_at_call 38; (with_reducible refine M2.mono ?_); rintro e w' ⟨rfl, rfl⟩) | (go_at_call 38; (with_reducible refine M3.mono ?_); rintro e w' ⟨rfl, rfl⟩))
                    go_ret
                    exact ⟨rfl, rfl⟩
            · obtain rfl : r = 0 := by rw [HQ.out]; exact restB_no (.inl (by unfold lenB; rw [if_neg c2, if_neg c3, if_neg c4, if_neg c5]))
              clear HQ HR HM
              have d6 : decide (x ≤ 244) = false := by simp; omega
              go_wp2
              go_ret
              exact ⟨rfl, rfl⟩
end Go.Proofs.Ytimldjlegbdldaa
