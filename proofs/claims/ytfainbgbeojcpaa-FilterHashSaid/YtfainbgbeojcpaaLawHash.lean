/- FilterHash, part LawHash: contracts of single functions of the filter package and its reference. -/
import Derived.Test.YtfainbgbeojcpaaPos
namespace Go.Proofs.Ytfainbgbeojcpaa
open Go.RowKit

theorem law_hash_long (seed : Int) (s : ByteArray) (size hashes : Int) (w : World) (hl : 2000 < s.size) :
    Calls Try.prog 3 #[.int .u32 seed, .string s, .int .u16 size, .int .u16 hashes] w fun e w' => e = .returned (.bool true) ∧ Below w.heap.size w w' := by
  have hd : decide ((2000 : Int) < s.size) = true := by simp; omega
  go_enter Try.func3, Try.ntmps3
  go_wp2_with (go_at_call 9; refine (awake_true _).mono ?_; rintro e w1 ⟨rfl, hb⟩)
  go_ret
  exact ⟨rfl, hb⟩

theorem law_hash_short (seed : Int) (s : ByteArray) (size hashes : Int) (w : World) (hs : s.size ≤ 2000) (hz0 : 0 ≤ size) (hz1 : size ≤ 65535) (hh0 : 0 ≤ hashes) (hh1 : hashes ≤ 65535) :
    Calls Try.prog 3 #[.int .u32 seed, .string s, .int .u16 size, .int .u16 hashes] w fun e w' => e = .returned (.bool true) ∧ Below w.heap.size w w' := by
  have hd : decide ((2000 : Int) < s.size) = false := by simp; omega
  obtain ⟨k, hk⟩ : ∃ k : Nat, (k : Int) = 1 + hashes % 8 := ⟨(1 + hashes % 8).toNat, by omega⟩
  have hk1 : 1 ≤ k := by omega
  have hk8 : k ≤ 8 := by omega
  obtain ⟨f1, f2⟩ := fwords_bd (size := 1 + size) (by omega) (by omega)
  have hkk := keep hk
  clear hk
  have hsm : s.size ≤ maxLen := by unfold maxLen; omega
  go_enter Try.func3, Try.ntmps3
  go_wp2_with (first | (go_at_call 9; refine (awake_true _).mono ?_; rintro e w1 ⟨rfl, hb⟩) | (go_at_call 10; rw [← hkk.out]; refine (refNew_ok _ _ _ (by omega) (by omega) (by omega) (by omega)).mono ?_; rintro e w2 ⟨g, rfl, hown, hb2⟩))
  generalize fwords (1 + size) = n at *
  go_region_held3 (Held (w2.heap.size + 1) (w2.alloc (.cells #[.int .i64 k, .slice (some ⟨g, 0, none⟩) n n] 27)))
    (first | exact Held.start _ _ | exact Held.call (by assumption) (by assumption) (by simp) | assumption)
    (first
      | (go_at_call 11; refine (positions_any _ _ _ _ _ _ hsm hk8 f1 f2).mono ?_; rintro e w3 ⟨v3, rfl, hown3, hb3⟩)
      | (go_at_call 12; refine (refPositions_any _ _ _ _ _ _ hsm hk8 f1 f2).mono ?_; rintro e w4 ⟨v4, rfl, hown4, hb4⟩))
  have hH : Held (w2.heap.size + 1) (w2.alloc (.cells #[.int .i64 k, .slice (some ⟨g, 0, none⟩) n n] 27)) w4 := by assumption
  have hbw : Below w.heap.size w w4 := bchain (bchain hb hb2) (((Below.refl _ w2).alloc (Nat.le_refl _) _).trans (hH.2.mono (by omega)))
  have hc1 : w4.cell? ⟨w2.heap.size, 1, none⟩ = some (.slice (some ⟨g, 0, none⟩) n n) := (hH.1 _ _ (by omega)).trans (by simp)
  have hz4 : w2.heap.size < w4.heap.size := by have := hH.2.size; simp at this; omega
  have hS3 := ((Sl.of_own hown3).below hb4 (Nat.le_refl _)).more hb4.size
  have hS4 := Sl.of_own hown4
  obtain ⟨A3, c3, rfl, hc3, hS3⟩ := hS3.form
  clear hH hown3 hown4
  go_wp2
  go_loopw [13] (fun i wr => ∃ j : Nat, j ≤ k ∧ i = .int .i64 j ∧ Below w4.heap.size w4 wr) (fun i _ => k - (intOf i).toNat)
  case atStart => exact ⟨0, Nat.zero_le _, rfl, Below.refl _ _⟩
  case round =>
    obtain ⟨j, hj, rfl, hbr⟩ := hrel
    by_cases hlt : j < k
    · obtain ⟨b1, o1, u1, rfl, hb1, hx1, hcl⟩ := (hS3.below hbr (Nat.le_refl _)).at_ hlt
      have hu : u1 = .int .i64 (pos (hash 0 s) (hash 1 s) n j) := by simpa [poss, hlt] using hx1.symm
      subst hu
      have hr1 := (hbr.cell (p := ⟨w2.heap.size, 1, none⟩) hz4).trans hc1
      have hpb := pos_bd (hash 0 s) (hash 1 s) n j f1
      have hi1 : (0 : Int) ≤ (j : Int) := by omega
      have hi2 : (j : Int) < (k : Int) := by omega
      have d1 : decide (pos (hash 0 s) (hash 1 s) n j < 0) = false := by simp; omega
      have d2 : decide (64 * (n : Int) ≤ pos (hash 0 s) (hash 1 s) n j) = false := by simp; omega
      clear hx1 hc1
      go_wp2
      go_quiet (fail)
      go_wp2
      go_roundw
      case rel => exact ⟨j + 1, by omega, by go_num, below_drewN hbr _⟩
      case measure => simp [intOf]; omega
    · have hS3' := hS3.below hbr (Nat.le_refl _)
      have hS4' := hS4.below hbr (Nat.le_refl _)
      go_wp2_with (first
        | (go_at_call 13; refine (hash_any _ _ _ hsm).mono ?_; rintro e w5 ⟨rfl, hb5⟩)
        | (go_at_call 14; refine (refHash_any _ _ _ hsm).mono ?_; rintro e w6 ⟨rfl, rfl⟩)
        | (go_at_call 15; refine (sameInts_same _ _ (poss s k n) _ ?_ ?_ ?_).mono ?_; rotate_right; rintro e w7 ⟨rfl, hb7⟩))
      · go_ret
        exact ⟨rfl, bchain (bchain (bchain hbw hbr) hb5) hb7⟩
      · rw [poss_len]; exact (hS3'.more hbr.size).below hb5 (Nat.le_refl _) |>.more hb5.size
      · rw [poss_len]; exact (hS4'.more hbr.size).below hb5 (Nat.le_refl _) |>.more hb5.size
      · rw [poss_len]; unfold maxLen; omega
end Go.Proofs.Ytfainbgbeojcpaa
