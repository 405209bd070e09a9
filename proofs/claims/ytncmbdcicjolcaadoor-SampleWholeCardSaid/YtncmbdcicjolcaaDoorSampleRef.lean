/- Contracts of the reference of package sample: Valid, Hash, Keep. -/
import Derived.Test.YtncmbdcicjolcaaDoorSample
import Derived.Test.YtncmbdcicjolcaaDoorStrings
namespace Go.Proofs.YtncmbdcicjolcaaDoor
open Go.RowKit

theorem divs_iff : ∀ n : Nat, n < 5041 → (decide (1 ≤ n) && (5040 % n == 0)) = decide ((n : Int) ∈ divs) := by
  have h : ((List.range 5041).all fun n => (decide (1 ≤ n) && (5040 % n == 0)) == decide ((n : Int) ∈ divs)) = true := by decide +kernel
  intro n hn
  have := List.all_eq_true.1 h n (by simpa using hn)
  simpa using this
theorem refValid_any (x : Int) (w : World) : Calls Tryd.prog 20 #[.int .i64 x] w fun e w' => e = .returned (.bool (vld x)) ∧ w = w' := by
  by_cases h1 : 1 ≤ x
  · by_cases h2 : x ≤ 5040
    · obtain ⟨n, rfl⟩ := Int.eq_ofNat_of_zero_le (show 0 ≤ x by omega)
      have hv : vld (n : Int) = (5040 % n == 0) := by
        rw [vld, ← divs_iff n (by omega)]
        simp; omega
      have HV := keep hv
      clear hv
      have d1 : decide ((1 : Int) ≤ (n : Int)) = true := by simp; omega
      have d1' : decide (1 ≤ n) = true := by simp; omega
      have d2 : decide ((n : Int) ≤ 5040) = true := by simp; omega
      have d2' : decide (n ≤ 5040) = true := by simp; omega
      have d3 : ¬ (n : Int) = 0 := by omega
      have e1 : Int.tmod 5040 (n : Int) = ((5040 % n : Nat) : Int) := by rw [Int.tmod_eq_emod_of_nonneg (by omega)]; rfl
      cases hb : (5040 % n == 0)
      · have e2 : (((5040 % n : Nat) : Int) == 0) = false := by rw [beq_eq_false_iff_ne] at hb ⊢; omega
        have HB := keep hb
        clear hb
        generalize 5040 % n = q at *
        go_enter Tryd.func20, Tryd.ntmps20
        go_wp2_with fail
        go_ret
        exact ⟨ret_bool (by rw [HV.out, HB.out]), rfl⟩
      · have e2 : (((5040 % n : Nat) : Int) == 0) = true := by rw [beq_iff_eq] at hb ⊢; omega
        have HB := keep hb
        clear hb
        generalize 5040 % n = q at *
        go_enter Tryd.func20, Tryd.ntmps20
        go_wp2_with fail
        go_ret
        exact ⟨ret_bool (by rw [HV.out, HB.out]), rfl⟩
    · have hv : vld x = false := by cases hx : vld x; rfl; have := vld_bd hx; omega
      rw [hv]
      clear hv
      have d1 : decide (1 ≤ x) = true := by simpa using h1
      have d2 : decide (x ≤ 5040) = false := by simpa using h2
      go_enter Tryd.func20, Tryd.ntmps20
      go_wp2_with fail
      go_ret
      exact ⟨rfl, rfl⟩
  · have hv : vld x = false := by cases hx : vld x; rfl; have := vld_bd hx; omega
    rw [hv]
    clear hv
    have d1 : decide (1 ≤ x) = false := by simpa using h1
    go_enter Tryd.func20, Tryd.ntmps20
    go_wp2_with fail
    go_ret
    exact ⟨rfl, rfl⟩

theorem refShash_any (s : ByteArray) (w : World) (hs : s.size ≤ maxLen) :
    Calls Tryd.prog 17 #[.string s] w fun e w' => e = .returned (.int .i64 (shash s)) ∧ w = w' := by
  unfold maxLen at hs
  go_enter Tryd.func17, Tryd.ntmps17
  go_wp2
  go_loop [3, 4] (fun h i => ∃ k : Nat, k ≤ s.size ∧ i = .int .i64 k ∧ h = .int .i64 (sfold (s.data.toList.take k))) (fun _ i => s.size - (intOf i).toNat)
  case atStart => exact ⟨0, Nat.zero_le _, rfl, rfl⟩
  case round =>
    obtain ⟨k, hk, rfl, rfl⟩ := hrel
    have hbd := sfold_bd (s.data.toList.take k)
    by_cases hlt : k < s.size
    · have hsn : sfold (s.data.toList.take (k + 1)) = (sfold (s.data.toList.take k) * 263 + (s[k].toNat : Int) + 1) % 1000003 := by rw [stake_snoc s k hlt, sfold_snoc]; rfl
      have HS := keep hsn
      have hu : (s[k].toNat : Int) < 256 := by have := s[k].toNat_lt; omega
      clear hsn
      generalize sfold (s.data.toList.take k) = x at *
      go_wp2
      go_round
      case rel => exact ⟨k + 1, by omega, by go_num, by rw [HS.out]⟩
      case measure => simp [intOf]; omega
    · have ht : sfold (s.data.toList.take k) = sfold s.data.toList := by rw [List.take_of_length_le (by simp; omega)]
      have HT := keep ht
      clear ht
      generalize sfold (s.data.toList.take k) = x at *
      go_wp2
      go_ret
      exact ⟨ret_int (by rw [shash, ← HT.out]), rfl⟩

theorem refKeep_no (key weight : Int) (s : ByteArray) (w : World) (hv : vld weight = false) :
    Calls Tryd.prog 21 #[.int .i64 key, .string s, .int .i64 weight] w fun e w' => e = .returned (.bool false) ∧ w = w' := by
  have HV := keep hv
  clear hv
  go_enter Tryd.func21, Tryd.ntmps21
  go_wp2_with fail
  refine (refValid_any weight _).mono ?_
  rintro e w1 ⟨he, rfl⟩
  rw [HV.out] at he
  subst he
  go_wp2_with fail
  go_ret
  exact ⟨rfl, rfl⟩

theorem refShash_q (s : ByteArray) (sh : Int) (w : World) (n : Nat) (hs : s.size ≤ maxLen) (h : shash s = sh) :
    Calls Tryd.prog 17 #[.string s] (w.drewN n) fun e w' => e = .returned (.int .i64 sh) ∧ ∃ m, w' = w.drewN m :=
  (refShash_any s _ hs).mono fun _ _ ⟨he, hw⟩ => ⟨by rw [he, h], n, hw.symm⟩

theorem refKeep_yes (key weight : Int) (s : ByteArray) (w : World) (hs : s.size ≤ maxLen) (hv : vld weight = true) :
    Calls Tryd.prog 21 #[.int .i64 key, .string s, .int .i64 weight] w fun e w' => e = .returned (.bool (keepB key s weight)) ∧ Below w.heap.size w w' := by
  obtain ⟨v1, v2⟩ := vld_bd hv
  have HV := keep hv
  clear hv
  have t1 : key.tmod 5040 < 5040 := Int.tmod_lt_of_pos key (by omega)
  have t0 : -5040 < key.tmod 5040 := Int.lt_tmod_of_pos key (by omega)
  obtain ⟨kk, hkq⟩ : ∃ kk : Int, key % 5040 = kk := ⟨_, rfl⟩
  have hk0 : 0 ≤ kk := by omega
  have hk1 : kk < 5040 := by omega
  have HKQ := keep hkq
  obtain ⟨sh, hsq⟩ : ∃ sh : Int, shash s = sh := ⟨_, rfl⟩
  have hb : 0 ≤ sh ∧ sh < 5040 := by rw [← hsq]; exact shash_bd s
  have HSQ := keep hsq
  have hkm : (key.tmod 5040 < 0 ∧ key.tmod 5040 + 5040 = kk) ∨ (¬ key.tmod 5040 < 0 ∧ key.tmod 5040 = kk) := by
    have := Int.mul_tdiv_add_tmod key 5040
    omega
  clear hkq hsq
  have e1 : IntKind.i64.wrap (sh + kk) = sh + kk := IntWalk.i64_in _ (by omega)
  have e2 : (sh + kk).tmod 5040 = (sh + kk) % 5040 := Int.tmod_eq_emod_of_nonneg (by omega)
  have e3 : Int.tdiv 5040 weight = 5040 / weight := Int.tdiv_eq_ediv_of_nonneg (by omega)
  have e4 : ¬ weight = 0 := by omega
  have d0 : 0 ≤ 5040 / weight := Int.ediv_nonneg (by omega) (by omega)
  have d1 : 5040 / weight ≤ 5040 := Int.ediv_le_self _ (by omega)
  have e5 : IntKind.i64.wrap (5040 / weight) = 5040 / weight := IntWalk.i64_in _ (by omega)
  rcases hkm with ⟨hneg, hk⟩ | ⟨hneg, hk⟩
  · have hd : decide (key.tmod 5040 < 0) = true := by simpa using hneg
    go_enter Tryd.func21, Tryd.ntmps21
    go_wp2_with fail
    refine (refValid_any weight _).mono ?_
    rintro e w1 ⟨he, rfl⟩
    rw [HV.out] at he
    subst he
    go_wp2_with fail
    go_quiet ((go_at_call 17; exact refShash_q _ sh _ _ hs HSQ.out))
    go_wp2_with fail
    go_ret
    exact ⟨ret_bool (by rw [keepB, HSQ.out, HKQ.out]), below_drewN (Below.refl _ _) _⟩
  · have hd : decide (key.tmod 5040 < 0) = false := by simpa using hneg
    go_enter Tryd.func21, Tryd.ntmps21
    go_wp2_with fail
    refine (refValid_any weight _).mono ?_
    rintro e w1 ⟨he, rfl⟩
    rw [HV.out] at he
    subst he
    go_wp2_with fail
    go_quiet ((go_at_call 17; exact refShash_q _ sh _ _ hs HSQ.out))
    go_wp2_with fail
    go_ret
    exact ⟨ret_bool (by rw [keepB, HSQ.out, HKQ.out]), below_drewN (Below.refl _ _) _⟩
end Go.Proofs.YtncmbdcicjolcaaDoor
