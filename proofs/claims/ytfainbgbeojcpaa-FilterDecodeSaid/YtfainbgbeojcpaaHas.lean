/- Has and Ones of the filter and its reference. -/
import Derived.Test.YtfainbgbeojcpaaBuildP
import Derived.Laws.BitsAllLaws
namespace Go.Proofs.Ytfainbgbeojcpaa
open Go.RowKit

/-- A word of 64 bits. -/
def U64 (x : Int) : Prop := 0 ≤ x ∧ x < 18446744073709551616
/-- The bit at a position. -/
def bitVal (l : List Int) (p : Int) : Int := bits .and .u64 (l.getD (p / 64).toNat 0 / 2 ^ (p % 64).toNat) 1
def hasB (l : List Int) (p : Int) : Bool := bitVal l p == 1
theorem and_one (y : Int) (h : U64 y) : bits .and .u64 y 1 = y % 2 := by
  obtain ⟨h0, h1⟩ := h
  obtain ⟨n, rfl⟩ := Int.eq_ofNat_of_zero_le h0
  have := u64_and_nat n 1 (by omega) (by omega)
  rw [show (1 : Int) = ((1 : Nat) : Int) from rfl, this, Nat.and_one_is_mod]
  omega
theorem div_u64 {y : Int} (h : U64 y) (r : Nat) : U64 (y / 2 ^ r) := by
  obtain ⟨h0, h1⟩ := h
  have hp : (0 : Int) < 2 ^ r := Int.pow_pos (by omega)
  refine ⟨Int.ediv_nonneg h0 (by omega), ?_⟩
  have := Int.ediv_le_self (2 ^ r) h0
  omega
theorem bitVal_cases {l : List Int} {p : Int} (h : ∀ x ∈ l, U64 x) : bitVal l p = 0 ∨ bitVal l p = 1 := by
  have hx : U64 (l.getD (p / 64).toNat 0) := by
    by_cases hq : (p / 64).toNat < l.length
    · have e : l.getD (p / 64).toNat 0 = l[(p / 64).toNat] := by simp [hq]
      rw [e]; exact h _ (List.getElem_mem _)
    · have e : l.getD (p / 64).toNat 0 = 0 := by simp [List.getElem?_eq_none (Nat.not_lt.1 hq)]
      rw [e]; exact ⟨by omega, by omega⟩
  unfold bitVal
  rw [and_one _ (div_u64 hx _)]
  omega

theorem setHas_any (v : Value) (l : List Int) (p : Int) (w : World) (S : Nat → Prop) (hs : Sl w S 1 v l.length (l.map (.int .u64))) (h2 : l.length ≤ 1024) (hp : 0 ≤ p ∧ p < 64 * l.length) :
    Calls Try.prog 49 #[v, .int .i64 p] w fun e w' => e = .returned (.bool (hasB l p)) ∧ w = w' := by
  obtain ⟨q, r, hpq, hr64⟩ : ∃ q r : Nat, p = 64 * (q : Int) + (r : Int) ∧ r < 64 := ⟨(p / 64).toNat, (p % 64).toNat, by omega, by omega⟩
  have hqn : q < l.length := by omega
  obtain ⟨A, c, rfl, hc, hs⟩ := hs.form
  obtain ⟨b1, o1, u1, rfl, hb1, hx1, hc1⟩ := hs.at_ hqn
  have hu : u1 = .int .u64 l[q] := by simpa [hqn] using hx1.symm
  subst hu
  have e1 : p / 64 = (q : Int) := by omega
  have e2 : p % 64 = (r : Int) := by omega
  have i1 : (q : Int) < (l.length : Int) := by omega
  have hfin : hasB l p = (bits .and .u64 (l[q] / 2 ^ r) 1 == 1) := by
    rw [hasB, bitVal, e1, e2]
    simp [hqn]
  have HF := keep hfin
  clear hx1 hpq hfin
  go_enter Try.func49, Try.ntmps49
  go_wp2_with fail
  go_ret
  exact ⟨ret_bool HF.out.symm, rfl⟩

/-- The number of ones that the library counts in a word, step by step. -/
def oc1 (x : Int) : Int := IntKind.u64.wrap (bits .and .u64 (x / 2) 6148914691236517205 + bits .and .u64 x 6148914691236517205)
def oc2 (x : Int) : Int := IntKind.u64.wrap (bits .and .u64 (x / 4) 3689348814741910323 + bits .and .u64 x 3689348814741910323)
def oc3 (x : Int) : Int := bits .and .u64 (IntKind.u64.wrap (x / 16 + x)) 1085102592571150095
def oc4 (x : Int) : Int := IntKind.u64.wrap (x + x / 256)
def oc5 (x : Int) : Int := IntKind.u64.wrap (x + x / 65536)
def oc6 (x : Int) : Int := IntKind.u64.wrap (x + x / 4294967296)
def oc (x : Int) : Int := bits .and .i64 (wrap64 (oc6 (oc5 (oc4 (oc3 (oc2 (oc1 x))))))) 127
theorem oc_any (x : Int) (w : World) : Calls Try.prog 51 #[.int .u64 x] w fun e w' => e = .returned (.int .i64 (oc x)) ∧ w = w' := by
  go_enter Try.func51, Try.ntmps51
  go_wp2_with fail
  go_ret
  refine ⟨ret_int ?_, rfl⟩
  rfl
def ocs (l : List Int) : Int := l.foldl (fun n x => wrap64 (n + oc x)) 0
theorem ocs_succ (l : List Int) (k : Nat) (h : k < l.length) : ocs (l.take (k + 1)) = wrap64 (ocs (l.take k) + oc l[k]) := by
  rw [List.take_succ_eq_append_getElem h, ocs, List.foldl_append]; rfl

theorem setOnes_any (v : Value) (l : List Int) (w : World) (S : Nat → Prop) (hs : Sl w S 1 v l.length (l.map (.int .u64))) (h2 : l.length ≤ 1024) :
    Calls Try.prog 50 #[v] w fun e w' => e = .returned (.int .i64 (ocs l)) ∧ w = w' := by
  obtain ⟨A, c, rfl, hc, hs⟩ := hs.form
  go_enter Try.func50, Try.ntmps50
  go_wp2_with fail
  go_loop [3, 5, 8] (fun n _ i => ∃ k : Nat, k ≤ l.length ∧ i = .int .i64 k ∧ n = .int .i64 (ocs (l.take k))) (fun _ _ i => l.length - (intOf i).toNat)
  case atStart => exact ⟨0, Nat.zero_le _, rfl, rfl⟩
  case round =>
    obtain ⟨k, hk, rfl, rfl⟩ := hrel
    by_cases hlt : k < l.length
    · obtain ⟨b1, o1, u1, rfl, hb1, hx1, hc1⟩ := hs.at_ hlt
      have hu : u1 = .int .u64 l[k] := by simpa [hlt] using hx1.symm
      subst hu
      have HS := keep (ocs_succ l k hlt)
      clear hx1
      go_wp2_with fail
      refine (oc_any _ _).mono ?_
      rintro e w' ⟨rfl, rfl⟩
      generalize ocs (l.take k) = x at *
      generalize oc l[k] = y at *
      go_wp2_with fail
      go_round
      case rel => exact ⟨k + 1, by omega, by go_num, by rw [HS.out]⟩
      case measure => simp [intOf]; omega
    · obtain rfl : k = l.length := by omega
      have HT := keep (show ocs (l.take l.length) = ocs l by rw [List.take_length])
      generalize ocs (l.take l.length) = x at *
      go_wp2_with fail
      go_ret
      exact ⟨ret_int HT.out, rfl⟩
theorem ones_any (h : Int) (v : Value) (l : List Int) (w : World) (hs : Sl w (lt w.heap.size) 1 v l.length (l.map (.int .u64))) (h2 : l.length ≤ 1024) :
    Calls Try.prog 32 #[.agg #[.int .i64 h, v]] w fun e w' => e = .returned (.int .i64 (ocs l)) ∧ Below w.heap.size w w' := by
  obtain ⟨A, c, rfl, hc, hs⟩ := hs.form
  have hs' := hs.below ((Below.refl _ w).alloc (Nat.le_refl _) (.cells #[.int .i64 h, .slice A l.length c] 27)) (Nat.le_refl _)
  go_enter Try.func32, Try.ntmps32
  go_wp2_with fail
  refine (setOnes_any _ l _ _ hs' h2).mono ?_
  rintro e w' ⟨rfl, rfl⟩
  go_wp2_with fail
  go_ret
  exact ⟨rfl, (Below.refl _ w).alloc (Nat.le_refl _) _⟩
theorem refOnes_any (h : Int) (v : Value) (l : List Int) (w : World) (hs : Sl w (lt w.heap.size) 1 v l.length (l.map (.int .u64))) (h2 : l.length ≤ 1024) :
    Calls Try.prog 33 #[.agg #[.int .i64 h, v]] w fun e w' => e = .returned (.int .i64 (ocs l)) ∧ Below w.heap.size w w' := by
  obtain ⟨A, c, rfl, hc, hs⟩ := hs.form
  have hs' := hs.below ((Below.refl _ w).alloc (Nat.le_refl _) (.cells #[.int .i64 h, .slice A l.length c] 27)) (Nat.le_refl _)
  go_enter Try.func33, Try.ntmps33
  go_wp2_with fail
  obtain ⟨W, hW⟩ : ∃ W, W = w.alloc (.cells #[.int .i64 h, .slice A l.length c] 27) := ⟨_, rfl⟩
  have hB : Blk W w.heap.size 27 #[.int .i64 h, .slice A l.length c] := hW ▸ Blk.new _ _ _
  have hbW : Below w.heap.size w W := hW ▸ (Below.refl _ w).alloc (Nat.le_refl _) _
  rw [← hW] at hs' ⊢
  clear hW
  obtain ⟨q0, q1⟩ := hB.cell2
  go_loop [3, 4] (fun n i => ∃ k : Nat, k ≤ l.length ∧ i = .int .i64 k ∧ n = .int .i64 (ocs (l.take k))) (fun _ i => l.length - (intOf i).toNat)
  case atStart => exact ⟨0, Nat.zero_le _, rfl, rfl⟩
  case round =>
    obtain ⟨k, hk, rfl, rfl⟩ := hrel
    by_cases hlt : k < l.length
    · obtain ⟨b1, o1, u1, rfl, hb1, hx1, hc1⟩ := hs'.at_ hlt
      have hu : u1 = .int .u64 l[k] := by simpa [hlt] using hx1.symm
      subst hu
      have HS := keep (ocs_succ l k hlt)
      clear hx1
      go_wp2_with fail
      refine (oc_any _ _).mono ?_
      rintro e w' ⟨rfl, rfl⟩
      generalize ocs (l.take k) = x at *
      generalize oc l[k] = y at *
      go_wp2_with fail
      go_round
      case rel => exact ⟨k + 1, by omega, by go_num, by rw [HS.out]⟩
      case measure => simp [intOf]; omega
    · obtain rfl : k = l.length := by omega
      have HT := keep (show ocs (l.take l.length) = ocs l by rw [List.take_length])
      generalize ocs (l.take l.length) = x at *
      go_wp2_with fail
      go_ret
      exact ⟨ret_int HT.out, hbW⟩
end Go.Proofs.Ytfainbgbeojcpaa
