/- The contracts of ascii.within and ascii.valid, and of the reference's more and sequence. -/
import Derived.Test.YtimldjlegbdldaaRep
import Derived.Deep.CutBlock
import Derived.Outline
namespace Go.Proofs.Ytimldjlegbdldaa
open Go.RowKit

theorem BSl.forms {w : World} {S : Nat → Prop} {v : Value} {l : List UInt8} (h : BSl w S v l) : ∃ A c, v = .slice A l.length c ∧ l.length ≤ c ∧ BSl w S (.slice A l.length c) l := Sl.form h
theorem BSl.byte {w : World} {S : Nat → Prop} {A : Option Addr} {c k : Nat} {l : List UInt8} (h : BSl w S (.slice A l.length c) l) (hk : k < l.length) :
    ∃ b o, A = some ⟨b, o, none⟩ ∧ S b ∧ w.cell? ⟨b, o + k, none⟩ = some (.int .u8 ((l.getD k 0).toNat : Int)) := by
  obtain ⟨b, o, u, hA, hb, hu, hc⟩ := Sl.at_ h hk
  refine ⟨b, o, hA, hb, ?_⟩
  rw [hc, ← hu]
  simp [hk, ub]
theorem byte_bd (l : List UInt8) (k : Nat) : (0 : Int) ≤ ((l.getD k 0).toNat : Int) ∧ ((l.getD k 0).toNat : Int) < 256 := by
  have := (l.getD k 0).toNat_lt
  omega

/-- within(b, i, lo, hi). -/
theorem within_any (v : Value) (l : List UInt8) (S : Nat → Prop) (w : World) (h : BSl w S v l) (i : Nat) (lo hi : Int) :
    Calls Try.prog 39 #[v, .int .i64 i, .int .u8 lo, .int .u8 hi] w fun e w' => e = .returned (.bool (inB l i lo hi)) ∧ w = w' := by
  obtain ⟨A, c, rfl, hc, h⟩ := h.forms
  by_cases hi1 : i < l.length
  · obtain ⟨b, o, rfl, hb, hcell⟩ := h.byte hi1
    obtain ⟨x0, x1⟩ := byte_bd l i
    have hin : inB l i lo hi = (decide (lo ≤ ((l.getD i 0).toNat : Int)) && decide (((l.getD i 0).toNat : Int) ≤ hi)) := by simp [inB, hi1]
    rw [hin]
    generalize ((l.getD i 0).toNat : Int) = x at *
    have q1 : decide ((i : Int) < (l.length : Int)) = true := by simpa using hi1
    have q2 : (i : Int) < (l.length : Int) := by omega
    clear hin
    by_cases h1 : lo ≤ x
    · have d1 : decide (lo ≤ x) = true := by simpa using h1
      by_cases h2 : x ≤ hi
      all_goals
        go_enter Try.func39, Try.ntmps39
        go_wp2
        go_ret
        exact ⟨ret_bool (by simp [h1, h2]), rfl⟩
    · have d1 : decide (lo ≤ x) = false := by simpa using h1
      go_enter Try.func39, Try.ntmps39
      go_wp2
      go_ret
      exact ⟨ret_bool (by simp), rfl⟩
  · have hin : inB l i lo hi = false := by simp [inB, hi1]
    rw [hin]
    have q1 : decide ((i : Int) < (l.length : Int)) = false := by simp; omega
    clear hin
    go_enter Try.func39, Try.ntmps39
    go_wp2
    go_ret
    exact ⟨rfl, rfl⟩

theorem restB_no {l : List UInt8} {c : Int} (h : lenB c = 0 ∨ inB l 1 (loB c) (hiB c) = false) : (if restB l c then lenB c else 0) = 0 := by
  rcases h with h | h
  · rw [h]; simp
  · simp [restB, h]
set_option maxHeartbeats 1000000 in
theorem valid_any (v : Value) (l : List UInt8) (S : Nat → Prop) (w : World) (h : BSl w S v l) (h0 : l ≠ []) :
    Calls Try.prog 36 #[v] w fun e w' => e = .returned (.int .i64 (seqL l)) ∧ w = w' := by
  obtain ⟨A, c, rfl, hc, h⟩ := h.forms
  have hl : 0 < l.length := List.length_pos_iff.2 h0
  obtain ⟨b, o, rfl, hb, hcell⟩ := h.byte hl
  rw [Nat.add_zero] at hcell
  obtain ⟨x0, x1⟩ := byte_bd l 0
  have hseq : seqL l = if ((l.getD 0 0).toNat : Int) < 128 then 1 else if restB l ((l.getD 0 0).toNat : Int) then lenB ((l.getD 0 0).toNat : Int) else 0 := rfl
  obtain ⟨r, hr⟩ : ∃ r, seqL l = r := ⟨_, rfl⟩
  rw [hr] at hseq
  rw [hr]
  clear hr
  have HS := keep hseq
  clear hseq
  have H1 := keep (within_any _ l S w h 1)
  generalize ((l.getD 0 0).toNat : Int) = x at *
  by_cases h1 : x < 128
  · obtain rfl : r = 1 := by rw [HS.out, if_pos h1]
    clear HS
    go_enter Try.func36, Try.ntmps36
    go_wp2
    go_ret
    exact ⟨rfl, rfl⟩
  · have hs := HS.out
    rw [if_neg h1] at hs
    have HQ := keep hs
    clear HS hs
    by_cases h2 : x < 194
    · obtain rfl : r = 0 := by rw [HQ.out]; exact restB_no (.inl (by simp [lenB, h2]))
      clear HQ
      go_enter Try.func36, Try.ntmps36
      go_wp2
      go_ret
      exact ⟨rfl, rfl⟩
    · by_cases h3 : x < 245
      · go_enter Try.func36, Try.ntmps36
        go_upto_block 0 with (fail)
        go_cut [3, 4, 5] (fun s3 s4 s5 wc => s3 = .int .u8 (loB x) ∧ s4 = .int .u8 (hiB x) ∧ s5 = .int .i64 (lenB x) ∧ wc = w)
        case first =>
          clear HQ H1
          go_wp2
          all_goals
            simp only [beq_iff_eq, beq_eq_false_iff_ne, ne_eq] at *
            go_meet
            case rel =>
              refine ⟨?_, ?_, ?_, rfl⟩
              · unfold loB; (repeat' split) <;> first | rfl | (exfalso; omega)
              · unfold hiB; (repeat' split) <;> first | rfl | (exfalso; omega)
              · unfold lenB; (repeat' split) <;> first | rfl | (exfalso; omega)
        case rest =>
          obtain ⟨rfl, rfl, rfl, rfl⟩ := hcut
          have hn2 : 2 ≤ lenB x := by unfold lenB; (repeat' split) <;> omega
          have hn4 := lenB_le x
          have HR : Hid (restB l x = (inB l 1 (loB x) (hiB x) && (decide (lenB x < 3) || inB l 2 128 191) && (decide (lenB x < 4) || inB l 3 128 191))) := keep rfl
          generalize hlo : loB x = lo at *
          generalize hhi : hiB x = hi at *
          generalize hnn : lenB x = n at *
          have HN := keep hnn
          clear hlo hhi hnn
          have hw := H1.out lo hi
          clear H1
          cases hb1 : inB l 1 lo hi with
          | false =>
            have hr : restB l x = false := by rw [HR.out, hb1]; rfl
            have HRR := keep hr
            rw [hb1] at hw
            clear hb1 HR hr
            go_wp2_with (go_at_call 39; refine hw.mono ?_; rintro e w' ⟨rfl, rfl⟩)
            go_ret
            exact ⟨ret_int (by rw [HQ.out, HRR.out]; rfl), rfl⟩
          | true =>
            rw [hb1] at hw HR
            clear hb1
            go_wp2_with (go_at_call 39; refine hw.mono ?_; rintro e w' ⟨rfl, rfl⟩)
            go_loop [7] (fun i => ∃ k : Nat, 2 ≤ k ∧ k ≤ n ∧ i = .int .i64 k ∧ Hid (∀ j, 2 ≤ j → j < k → inB l j 128 191 = true)) (fun i => n - (intOf i).toNat)
            case atStart => exact ⟨2, Nat.le_refl _, hn2, rfl, keep (fun j h1 h2 => absurd h2 (by omega))⟩
            case round =>
              obtain ⟨k, hk2, hkn, rfl, hall⟩ := hrel
              have hwk := within_any _ l S _ h k 128 191
              by_cases hlt : k < n
              · cases hbk : inB l k 128 191 with
                | false =>
                  have hr : restB l x = false := by
                    rw [HR.out]
                    rcases (show k = 2 ∨ k = 3 by omega) with rfl | rfl
                    · rw [hbk]; simp; omega
                    · rw [hbk]; simp; omega
                  have HRR := keep hr
                  rw [hbk] at hwk
                  clear hbk hr HR hall hw
                  go_wp2_with (go_at_call 39; refine hwk.mono ?_; rintro e w' ⟨rfl, rfl⟩)
                  go_ret
                  exact ⟨ret_int (by rw [HQ.out, HRR.out]; rfl), rfl⟩
                | true =>
                  have hall' : Hid (∀ j, 2 ≤ j → j < k + 1 → inB l j 128 191 = true) := keep (fun j h1 h2 => by
                    by_cases h3 : j < k
                    · exact hall.out j h1 h3
                    · rw [show j = k by omega]; exact hbk)
                  rw [hbk] at hwk
                  clear hbk hw hall
                  go_wp2_with (go_at_call 39; refine hwk.mono ?_; rintro e w' ⟨rfl, rfl⟩)
                  go_round
                  case rel => exact ⟨k + 1, by omega, by omega, by go_num, hall'⟩
                  case measure => simp [intOf]; omega
              · obtain rfl : k = n := by omega
                have hr : restB l x = true := by
                  rw [HR.out]
                  have q2 : 3 ≤ k → inB l 2 128 191 = true := fun hh => hall.out 2 (by omega) (by omega)
                  have q3 : 4 ≤ k → inB l 3 128 191 = true := fun hh => hall.out 3 (by omega) (by omega)
                  by_cases k3 : k < 3
                  · simp [k3, show k < 4 by omega]
                  · by_cases k4 : k < 4
                    · simp [k4, q2 (by omega)]
                    · simp [q2 (by omega), q3 (by omega)]
                have HRR := keep hr
                clear hr HR hall hw hwk
                go_wp2
                go_ret
                exact ⟨ret_int (by rw [HQ.out, HRR.out]; rfl), rfl⟩
      · obtain rfl : r = 0 := by rw [HQ.out]; exact restB_no (.inl (by unfold lenB; rw [if_neg (by omega), if_neg (by omega), if_neg (by omega), if_neg h3]))
        clear HQ
        have h4 : ¬ x < 224 := by omega
        have h5 : ¬ x < 240 := by omega
        go_enter Try.func36, Try.ntmps36
        go_wp2
        go_ret
        exact ⟨rfl, rfl⟩
end Go.Proofs.Ytimldjlegbdldaa
