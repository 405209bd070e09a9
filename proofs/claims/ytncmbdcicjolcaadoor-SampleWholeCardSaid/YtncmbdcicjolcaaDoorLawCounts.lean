/- SampleCounts: the walk of the statement. -/
import Derived.Test.YtncmbdcicjolcaaDoorSample
namespace Go.Proofs.YtncmbdcicjolcaaDoor
open Go.RowKit

theorem awake_true (w : World) (h : Divs w w.heap.size) : Calls Tryd.prog 8 #[] w fun e w' => e = .returned (.bool true) ∧ Below w.heap.size w w' := by
  have a1 : vld 5040 = true := by decide
  have a2 : vld 11 = false := by decide
  have a3 : vld 1 = true := by decide
  have k1 : keepB 7 ⟨#[120]⟩ 1 = true := by decide
  have A1 := keep a1
  have A2 := keep a2
  have A3 := keep a3
  have K1 := keep k1
  clear a1 a2 a3 k1
  go_enter Tryd.func8, Tryd.ntmps8
  go_wp2_with fail
  refine (valid_any _ _ _ h).mono ?_
  rintro e w1 ⟨he, rfl⟩
  rw [A1.out] at he
  subst he
  go_wp2_with fail
  refine (valid_any _ _ _ h).mono ?_
  rintro e w1 ⟨he, rfl⟩
  rw [A2.out] at he
  subst he
  go_wp2_with fail
  refine (keep_yes 7 1 ⟨#[120]⟩ _ _ h (by decide) A3.out).mono ?_
  rintro e w2 ⟨he, hb⟩
  rw [K1.out] at he
  subst he
  go_wp2_with fail
  refine (keep_no 7 11 ⟨#[120]⟩ _ _ (h.below hb) A2.out).mono ?_
  rintro e w3 ⟨rfl, rfl⟩
  go_wp2_with fail
  go_ret
  exact ⟨rfl, hb⟩

/-- Of the first k keys, how many keep a trace with this hash. -/
def cnt (h m k : Int) : Int := max 0 (min m (h + k) - h) + max 0 (min m (h + k - 5040))
theorem cnt_step (h m k : Int) (h0 : 0 ≤ h) (h1 : h < 5040) (m0 : 0 ≤ m) (m1 : m ≤ 5040) (k0 : 0 ≤ k) (k1 : k < 5040) : cnt h m (k + 1) = cnt h m k + if (h + k) % 5040 < m then 1 else 0 := by
  unfold cnt
  split <;> omega
theorem cnt_all (h m : Int) (h0 : 0 ≤ h) (h1 : h < 5040) (m0 : 0 ≤ m) (m1 : m ≤ 5040) : cnt h m 5040 = m := by
  unfold cnt
  omega
theorem cnt_zero (h m : Int) (h0 : 0 ≤ h) (h1 : h < 5040) : cnt h m 0 = 0 := by
  unfold cnt
  omega
theorem cnt_bd (h m k : Int) (h0 : 0 ≤ h) (h1 : h < 5040) (m0 : 0 ≤ m) (m1 : m ≤ 5040) : 0 ≤ cnt h m k ∧ cnt h m k ≤ 10080 := by
  unfold cnt
  omega

/-- A weight. -/
def isWeight : Option Value → Bool
  | some (.int .i64 x) => vld x
  | _ => false
theorem isWeight_get {v : Option Value} (h : isWeight v = true) : ∃ x : Int, v = some (.int .i64 x) ∧ vld x = true := by
  match v, h with
  | some (.int .i64 x), h => exact ⟨x, rfl, h⟩

theorem law_counts_long (s : ByteArray) (which : Int) (w : World) (h : Divs w w.heap.size) (hl : 100 < s.size) :
    Calls Tryd.prog 3 #[.string s, .int .u8 which] w fun e w' => e = .returned (.bool true) ∧ Below w.heap.size w w' := by
  have hd : decide ((100 : Int) < s.size) = true := by simp; omega
  go_enter Tryd.func3, Tryd.ntmps3
  go_wp2_with fail
  refine (awake_true _ h).mono ?_
  rintro e w1 ⟨rfl, hb⟩
  go_wp2_with fail
  go_ret
  exact ⟨rfl, hb⟩

set_option maxHeartbeats 1000000 in
theorem law_counts (s : ByteArray) (which : Int) (w : World) (h : Divs w w.heap.size) (hl : s.size ≤ 100) (b0 : 0 ≤ which) (b1 : which ≤ 255) :
    Calls Tryd.prog 3 #[.string s, .int .u8 which] w fun e w' => e = .returned (.bool true) ∧ Below w.heap.size w w' := by
  have hd : decide ((100 : Int) < s.size) = false := by simp; omega
  obtain ⟨k, hk⟩ : ∃ k : Nat, (k : Int) = which % 22 := ⟨(which % 22).toNat, by omega⟩
  have hk22 : k < 22 := by omega
  have hK := keep hk
  clear hk
  have hsm : s.size ≤ maxLen := by unfold maxLen; omega
  have hsb := shash_bd s
  go_enter Tryd.func3, Tryd.ntmps3
  go_wp2_with fail
  refine (awake_true _ h).mono ?_
  rintro e w1 ⟨rfl, hb1⟩
  have hD1 := h.below hb1
  obtain ⟨x, hx, hvx⟩ : ∃ x : Int, (w1.alloc (.cells #[.int .i64 1, .int .i64 2, .int .i64 3, .int .i64 4, .int .i64 5, .int .i64 6, .int .i64 7, .int .i64 8, .int .i64 9, .int .i64 10, .int .i64 12, .int .i64 14, .int .i64 15, .int .i64 16, .int .i64 18, .int .i64 20, .int .i64 21, .int .i64 24, .int .i64 28, .int .i64 30, .int .i64 5040, .int .i64 2520] 3)).cell? ⟨w1.heap.size, k, none⟩ = some (.int .i64 x) ∧ vld x = true := by
    obtain ⟨x, h1, h2⟩ := isWeight_get (v := (#[.int .i64 1, .int .i64 2, .int .i64 3, .int .i64 4, .int .i64 5, .int .i64 6, .int .i64 7, .int .i64 8, .int .i64 9, .int .i64 10, .int .i64 12, .int .i64 14, .int .i64 15, .int .i64 16, .int .i64 18, .int .i64 20, .int .i64 21, .int .i64 24, .int .i64 28, .int .i64 30, .int .i64 5040, .int .i64 2520] : Array Value)[k]?) (List.all_eq_true.1 (show ((List.range 22).all fun i => isWeight (#[.int .i64 1, .int .i64 2, .int .i64 3, .int .i64 4, .int .i64 5, .int .i64 6, .int .i64 7, .int .i64 8, .int .i64 9, .int .i64 10, .int .i64 12, .int .i64 14, .int .i64 15, .int .i64 16, .int .i64 18, .int .i64 20, .int .i64 21, .int .i64 24, .int .i64 28, .int .i64 30, .int .i64 5040, .int .i64 2520] : Array Value)[i]?) = true by decide) k (by simpa using hk22))
    exact ⟨x, ((Blk.new w1 3 _).cell k).trans h1, h2⟩
  have hmod : which % 22 = (k : Int) := hK.out.symm
  have i0 : (0 : Int) ≤ (k : Int) := by omega
  have i1 : (k : Int) < 22 := by omega
  have HVX := keep hvx
  obtain ⟨v1, v2⟩ := vld_bd hvx
  clear hvx
  go_wp2_with fail
  clear hmod hx hd
  have hbW := hb1.alloc hb1.size (.cells #[.int .i64 1, .int .i64 2, .int .i64 3, .int .i64 4, .int .i64 5, .int .i64 6, .int .i64 7, .int .i64 8, .int .i64 9, .int .i64 10, .int .i64 12, .int .i64 14, .int .i64 15, .int .i64 16, .int .i64 18, .int .i64 20, .int .i64 21, .int .i64 24, .int .i64 28, .int .i64 30, .int .i64 5040, .int .i64 2520] 3)
  generalize w1.alloc (.cells #[.int .i64 1, .int .i64 2, .int .i64 3, .int .i64 4, .int .i64 5, .int .i64 6, .int .i64 7, .int .i64 8, .int .i64 9, .int .i64 10, .int .i64 12, .int .i64 14, .int .i64 15, .int .i64 16, .int .i64 18, .int .i64 20, .int .i64 21, .int .i64 24, .int .i64 28, .int .i64 30, .int .i64 5040, .int .i64 2520] 3) = W at *
  have m0 : 0 ≤ 5040 / x := Int.ediv_nonneg (by omega) (by omega)
  have m1 : 5040 / x ≤ 5040 := Int.ediv_le_self _ (by omega)
  have HK := keep (show ∀ j : Int, keepB j s x = decide ((shash s + j % 5040) % 5040 < 5040 / x) from fun _ => rfl)
  generalize shash s = sh at *
  generalize hmq : 5040 / x = m at *
  have HMQ := keep hmq
  clear hmq
  go_loopw [6, 7] (fun n key wr => ∃ j : Nat, j ≤ 5040 ∧ key = .int .i64 j ∧ n = .int .i64 (cnt sh m j) ∧ Below w.heap.size w wr) (fun _ key _ => 5040 - (intOf key).toNat)
  case atStart => exact ⟨0, Nat.zero_le _, rfl, by rw [show ((0 : Nat) : Int) = 0 from rfl, cnt_zero sh m hsb.1 hsb.2], hbW⟩
  case round =>
    obtain ⟨j, hj, rfl, rfl, hbr⟩ := hrel
    have hcb := cnt_bd sh m j hsb.1 hsb.2 m0 m1
    by_cases hlt : j < 5040
    · have HST := keep (cnt_step sh m j hsb.1 hsb.2 m0 m1 (by omega) (by omega))
      have hdj : decide ((j : Int) < 5040) = true := by simp; omega
      go_wp2_with fail
      refine (keep_yes j x s _ _ (h.below hbr) hsm HVX.out).mono ?_
      rintro e w3 ⟨he, hb3⟩
      rw [HK.out, show ((j : Int) % 5040) = j by omega] at he
      have hbn := hbr.trans (hb3.mono hbr.size)
      by_cases hc : (sh + (j : Int)) % 5040 < m
      · rw [decide_eq_true hc] at he
        subst he
        go_wp2_with fail
        go_roundw
        case rel => exact ⟨j + 1, by omega, by go_num, by have := HST.out; rw [if_pos hc] at this; rw [show ((j + 1 : Nat) : Int) = (j : Int) + 1 by omega, this], hbn⟩
        case measure => simp [intOf]; omega
      · rw [decide_eq_false hc] at he
        subst he
        go_wp2_with fail
        go_roundw
        case rel => exact ⟨j + 1, by omega, by go_num, by have := HST.out; rw [if_neg (by omega)] at this; rw [show ((j + 1 : Nat) : Int) = (j : Int) + 1 by omega, this, Int.add_zero], hbn⟩
        case measure => simp [intOf]; omega
    · have hca : cnt sh m (j : Int) = m := by
        have e : (j : Int) = 5040 := by omega
        rw [e]; exact cnt_all sh m hsb.1 hsb.2 m0 m1
      have HCA := keep hca
      have hdj : decide ((j : Int) < 5040) = false := by simp; omega
      clear hca
      generalize cnt sh m (j : Int) = q at *
      have hdv : Int.tdiv 5040 x = m := by rw [Int.tdiv_eq_ediv_of_nonneg (by omega)]; exact HMQ.out
      have hdv2 : 5040 / x = m := HMQ.out
      have hqm : (q == m) = true := by rw [HCA.out]; simp
      have hx0 : ¬ x = 0 := by omega
      go_wp2_with fail
      go_ret
      exact ⟨rfl, hbr⟩
theorem law_counts_row (s : ByteArray) (which : Int) (w : World) (h : Divs w w.heap.size) (b : 0 ≤ which ∧ which ≤ 255) :
    Calls Tryd.prog 3 #[.string s, .int .u8 which] w fun e w' => e = .returned (.bool true) ∧ Below w.heap.size w w' := by
  by_cases hl : 100 < s.size
  · exact law_counts_long s which w h hl
  · exact law_counts s which w h (by omega) b.1 b.2
end Go.Proofs.YtncmbdcicjolcaaDoor
