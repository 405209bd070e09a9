/- The contract of logtideref23.GetVarint: an unsigned varint with as few bytes as possible. -/
import Derived.Test.YtihimbmbhmgjoaaBytes
import Derived.Laws.BitsAllLaws
import Derived.IntWalk
namespace Go.Proofs.Ytihimbmbhmgjoaa
open Go.RowKit

/-- The number that stands first, and how many bytes it takes. -/
def gvGo : Nat → Nat → List UInt8 → Option (Nat × Nat)
  | _, _, [] => none
  | k, v, c :: t => if 9 < k then none else if k = 9 ∧ 1 < c.toNat then none else if c.toNat < 128 then (if 0 < k ∧ c.toNat = 0 then none else some (v ||| (c.toNat % 128 * 2 ^ (7 * k) % 18446744073709551616), k + 1)) else gvGo (k + 1) (v ||| (c.toNat % 128 * 2 ^ (7 * k) % 18446744073709551616)) t
def getVar (l : List UInt8) (at_ : Nat) : Nat × Nat × Bool :=
  match gvGo 0 0 (l.drop at_) with
  | some (n, k) => (n, at_ + k, true)
  | none => (0, 0, false)
theorem getVar_none {l : List UInt8} {p : Nat} (h : gvGo 0 0 (l.drop p) = none) : getVar l p = (0, 0, false) := by unfold getVar; rw [h]
theorem getVar_some {l : List UInt8} {p n k : Nat} (h : gvGo 0 0 (l.drop p) = some (n, k)) : getVar l p = (n, p + k, true) := by unfold getVar; rw [h]
theorem gvGo_nil (k v : Nat) : gvGo k v [] = none := by rw [gvGo]
theorem gvGo_long (k v : Nat) (l : List UInt8) (h : 9 < k) : gvGo k v l = none := by
  cases l with
  | nil => rw [gvGo]
  | cons c t => rw [gvGo, if_pos h]
theorem gv_and (y : Nat) (hy : y < 256) : bits .and .u64 (y : Int) 127 = ((y % 128 : Nat) : Int) := by
  have h := u64_and_nat y 127 (by omega) (by omega)
  rw [show (127 : Int) = ((127 : Nat) : Int) from rfl, h]
  congr 1
  exact Nat.and_two_pow_sub_one_eq_mod y 7
theorem gv_acc (acc k : Nat) (y : UInt8) (ha : acc < 18446744073709551616) : bits .or .u64 (acc : Int) (IntKind.u64.wrap (bits .and .u64 (y.toNat : Int) 127 * 2 ^ (7 * k))) = ((acc ||| (y.toNat % 128 * 2 ^ (7 * k) % 18446744073709551616) : Nat) : Int) ∧ acc ||| (y.toNat % 128 * 2 ^ (7 * k) % 18446744073709551616) < 18446744073709551616 := by
  have hy := y.toNat_lt
  have h3 : IntKind.u64.wrap (((y.toNat % 128 : Nat) : Int) * 2 ^ (7 * k)) = ((y.toNat % 128 * 2 ^ (7 * k) % 18446744073709551616 : Nat) : Int) := by
    simp [IntKind.wrap, IntKind.bits, IntKind.signed]
  rw [gv_and _ hy, h3]
  exact ⟨u64_or_nat _ _ ha (Nat.mod_lt _ (by omega)), Nat.or_lt_two_pow (n := 64) ha (Nat.mod_lt _ (by omega))⟩
def GvRes (r : Nat × Nat × Bool) (w : World) (e : Ending) (w' : World) : Prop := e = .returned (.tuple #[.int .u64 r.1, .int .i64 r.2.1, .bool r.2.2]) ∧ w = w'

set_option maxRecDepth 100000 in
theorem getvar_any (v : Value) (l : List UInt8) (S : Nat → Prop) (p : Nat) (w : World) (h : BSl w S v l) (hm : l.length ≤ 1000000000) (hp : p ≤ l.length) :
    Calls Try.prog 52 #[v, .int .i64 p] w (GvRes (getVar l p) w) := by
  have hs' : Sl w S 1 v l.length (l.map ub) := h
  obtain ⟨A, c, rfl, hc, hs⟩ := hs'.form
  have HB := keep (fun (e : gvGo 0 0 (l.drop p) = none) => (by
    rw [getVar_none e]
    exact ⟨rfl, rfl⟩ : GvRes (getVar l p) w (.returned (.tuple #[.int .u64 0, .int .i64 0, .bool false])) w))
  have HG := keep (fun (n k : Nat) (e : gvGo 0 0 (l.drop p) = some (n, k)) => (by
    rw [getVar_some e]
    exact ⟨rfl, rfl⟩ : GvRes (getVar l p) w (.returned (.tuple #[.int .u64 n, .int .i64 ((p + k : Nat) : Int), .bool true])) w))
  clear hs'
  generalize getVar l p = R at *
  go_enter Try.func52, Try.ntmps52
  go_wp2_with fail
  go_loop [7, 8, 9] (fun n i _ => ∃ (k acc : Nat), k ≤ 10 ∧ p + k ≤ l.length ∧ acc < 18446744073709551616 ∧ Hid (gvGo k acc (l.drop (p + k)) = gvGo 0 0 (l.drop p)) ∧ i = .int .i64 k ∧ n = .int .u64 acc) (fun _ i _ => 10 - (intOf i).toNat)
  case atStart => exact ⟨0, 0, by omega, by omega, by omega, rfl, rfl, rfl⟩
  case round =>
    obtain ⟨k, acc, hk, hpk, ha, hR, rfl, rfl⟩ := hrel
    obtain ⟨j, hj⟩ : ∃ j, p + k = j := ⟨_, rfl⟩
    rw [hj] at hR hpk
    have e1 : (p : Int) + (k : Int) = (j : Int) := by omega
    by_cases hk10 : k < 10
    · by_cases hlt : j < l.length
      · obtain ⟨b, o, u, rfl, hb, hu, hcell⟩ := hs.at_ hlt
        have hu' : u = ub l[j] := by simpa [hlt] using hu.symm
        subst hu'
        simp only [ub] at hcell
        have hR' := hR.out
        rw [List.drop_eq_getElem_cons hlt, gvGo, if_neg (by omega)] at hR'
        have HR := keep hR'
        clear hR' hR hu
        generalize l[j] = y at *
        obtain ⟨ea, eb⟩ := gv_acc acc k y ha
        have hy := y.toNat_lt
        by_cases h9 : k = 9 ∧ 1 < y.toNat
        · have HE := keep (HB.out (by have := HR.out; rw [if_pos h9] at this; exact this.symm))
          obtain ⟨h91, h92⟩ := h9
          have g1 : ((k : Int) == 9) = true := by simp; omega
          have g2 : (1 : Int) < (y.toNat : Int) := by omega
          clear ea eb hj h91
          go_wp2_with fail
          go_ret3
          exact HE.out
        · have HR2 := keep (show (if y.toNat < 128 then (if 0 < k ∧ y.toNat = 0 then none else some (acc ||| (y.toNat % 128 * 2 ^ (7 * k) % 18446744073709551616), k + 1)) else gvGo (k + 1) (acc ||| (y.toNat % 128 * 2 ^ (7 * k) % 18446744073709551616)) (l.drop (j + 1))) = gvGo 0 0 (l.drop p) by have := HR.out; rw [if_neg h9] at this; exact this)
          clear HR
          have g9 : (((k : Int) == 9) && decide ((1 : Int) < (y.toNat : Int))) = false := by
            rw [Bool.and_eq_false_iff]
            by_cases hk9 : k = 9
            · right; have : ¬ 1 < y.toNat := fun h => h9 ⟨hk9, h⟩; simp; omega
            · left; simp; omega
          generalize acc ||| (y.toNat % 128 * 2 ^ (7 * k) % 18446744073709551616) = acc2 at *
          by_cases h128 : y.toNat < 128
          · have h128' : (y.toNat : Int) < 128 := by omega
            by_cases hz : 0 < k ∧ y.toNat = 0
            · have HE := keep (HB.out (by have := HR2.out; rw [if_pos h128, if_pos hz] at this; exact this.symm))
              obtain ⟨hz1, hz2⟩ := hz
              have g1 : (0 : Int) < (k : Int) := by omega
              have g2 : ((y.toNat : Int) == 0) = true := by simp; omega
              have g3 : ¬ (1 : Int) < (y.toNat : Int) := by omega
              clear g9 hz2 hj h9 h128
              by_cases hk9 : k = 9
              · have g4 : ((k : Int) == 9) = true := by simp; omega
                clear hk9
                go_wp2_with fail
                go_ret3
                exact HE.out
              · have g4 : ((k : Int) == 9) = false := by simp; omega
                clear hk9
                go_wp2_with fail
                go_ret3
                exact HE.out
            · have HE := keep (HG.out acc2 (k + 1) (by have := HR2.out; rw [if_pos h128, if_neg hz] at this; exact this.symm))
              have e2 : ((p + (k + 1) : Nat) : Int) = (j : Int) + 1 := by omega
              rw [e2] at HE
              have HE2 := HE
              clear HE e2
              have HZ := keep hz
              have HG9 := keep g9
              clear g9 hz hj h9 h128
              by_cases hk9 : k = 9
              · have g4 : ((k : Int) == 9) = true := by simp; omega
                have g3 : ¬ (1 : Int) < (y.toNat : Int) := by have := HG9.out; rw [g4] at this; simpa using this
                have g1 : (0 : Int) < (k : Int) := by omega
                have g2 : ((y.toNat : Int) == 0) = false := by have := HZ.out; simp; omega
                clear hk9
                go_wp2_with fail
                go_ret3
                exact HE2.out
              · have g4 : ((k : Int) == 9) = false := by simp; omega
                clear hk9
                by_cases hk0 : 0 < k
                · have g1 : (0 : Int) < (k : Int) := by omega
                  have g2 : ((y.toNat : Int) == 0) = false := by have := HZ.out; simp; omega
                  go_wp2_with fail
                  go_ret3
                  exact HE2.out
                · have g1 : ¬ (0 : Int) < (k : Int) := by omega
                  go_wp2_with fail
                  go_ret3
                  exact HE2.out
          · have h128' : ¬ (y.toNat : Int) < 128 := by omega
            have HR3 := keep (by have := HR2.out; rw [if_neg h128] at this; exact this)
            have HG9 := keep g9
            have HJ := keep hj
            clear g9 HR2
            by_cases hk9 : k = 9
            · have g4 : ((k : Int) == 9) = true := by simp; omega
              have g3 : (1 : Int) < (y.toNat : Int) := by omega
              have := HG9.out
              rw [g4] at this
              simp at this
              omega
            · have g4 : ((k : Int) == 9) = false := by simp; omega
              clear hj
              go_wp2_with fail
              go_round
              case rel => exact ⟨k + 1, acc2, by omega, by omega, eb, keep (by rw [show p + (k + 1) = j + 1 by have := HJ.out; omega]; exact HR3.out), by go_num, rfl⟩
              case measure => simp [intOf]; omega
      · have HE := keep (HB.out (by
          have := hR.out
          rw [List.drop_of_length_le (by omega), gvGo_nil] at this
          exact this.symm))
        have g1 : ¬ (j : Int) < (l.length : Int) := by omega
        clear hj
        go_wp2_with fail
        go_ret3
        exact HE.out
    · have HE := keep (HB.out (by
        have := hR.out
        rw [gvGo_long _ _ _ (by omega)] at this
        exact this.symm))
      clear hj
      go_wp2_with fail
      go_ret3
      exact HE.out
end Go.Proofs.Ytihimbmbhmgjoaa
