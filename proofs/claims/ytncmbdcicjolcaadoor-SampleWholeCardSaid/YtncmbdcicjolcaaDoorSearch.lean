/- Contract of slices.BinarySearch at slices of ints that are in strictly ascending order. -/
import Derived.Test.YtncmbdcicjolcaaDoorLib
namespace Go.Proofs.YtncmbdcicjolcaaDoor
open Go.RowKit

theorem cmpNaN_any (a : Int) (w : World) : Calls Tryd.prog 42 #[.int .i64 a] w fun e w' => e = .returned (.bool false) ∧ w = w' := by
  have d : (a != a) = false := by simp
  go_enter Tryd.func42, Tryd.ntmps42
  go_wp2
  go_ret
  exact ⟨rfl, rfl⟩
theorem slNaN_any (a : Int) (w : World) : Calls Tryd.prog 39 #[.int .i64 a] w fun e w' => e = .returned (.bool false) ∧ w = w' := by
  have d : (a != a) = false := by simp
  go_enter Tryd.func39, Tryd.ntmps39
  go_wp2
  go_ret
  exact ⟨rfl, rfl⟩
theorem cmpLess_any (a b : Int) (w : World) : Calls Tryd.prog 38 #[.int .i64 a, .int .i64 b] w fun e w' => e = .returned (.bool (decide (a < b))) ∧ w = w' := by
  go_enter Tryd.func38, Tryd.ntmps38
  go_wp2_with (go_at_call 42; refine (cmpNaN_any _ _).mono ?_; rintro e w1 ⟨rfl, rfl⟩)
  go_ret
  exact ⟨rfl, rfl⟩

/-- Strictly ascending. -/
def AscI (l : List Int) : Prop := ∀ i j (hi : i < l.length) (hj : j < l.length), i < j → l[i] < l[j]
/-- All before i are less than x, all from i on are not. -/
def Lower (l : List Int) (x : Int) (i : Nat) : Prop := ∀ k (h : k < l.length), k < i → l[k] < x
def Upper (l : List Int) (x : Int) (i : Nat) : Prop := ∀ k (h : k < l.length), i ≤ k → x ≤ l[k]
theorem mem_iff_at {l : List Int} {x : Int} {i : Nat} (h1 : Lower l x i) (h2 : Upper l x i) (ha : AscI l) : x ∈ l ↔ ∃ h : i < l.length, l[i] = x := by
  constructor
  · intro hx
    obtain ⟨k, hk, rfl⟩ := List.getElem_of_mem hx
    by_cases hki : k < i
    · have := h1 k hk hki; omega
    · by_cases e : k = i
      · subst e; exact ⟨hk, rfl⟩
      · have h3 := ha i k (by omega) hk (by omega)
        have h4 := h2 i (by omega) (Nat.le_refl _)
        omega
  · rintro ⟨h, rfl⟩
    exact List.getElem_mem _

def SearchRes (w : World) (l : List Int) (x : Int) (e : Ending) (w' : World) : Prop :=
  ∃ i : Nat, e = .returned (.tuple #[.int .i64 i, .bool (decide (x ∈ l))]) ∧ i ≤ l.length ∧ Lower l x i ∧ Upper l x i ∧ w = w'

set_option maxHeartbeats 400000 in
theorem bsearch_any (v : Value) (l : List Int) (x : Int) (w : World) (S : Nat → Prop) (h : Sl w S 1 v l.length (l.map (.int .i64))) (ha : AscI l) (hm : l.length ≤ 1000000) :
    Calls Tryd.prog 30 #[v, .int .i64 x] w (SearchRes w l x) := by
  obtain ⟨A, c, rfl, hc, h⟩ := h.form
  have HA := keep ha
  clear ha
  go_enter Tryd.func30, Tryd.ntmps30
  go_wp2_with fail
  go_loop [7, 8, 9] (fun i j _ => ∃ a b : Nat, a ≤ b ∧ b ≤ l.length ∧ i = .int .i64 a ∧ j = .int .i64 b ∧ Hid (Lower l x a) ∧ Hid (Upper l x b)) (fun i j _ => (intOf j).toNat - (intOf i).toNat)
  case atStart => exact ⟨0, l.length, Nat.zero_le _, Nat.le_refl _, rfl, rfl, keep (fun k _ h => absurd h (by omega)), keep (fun k h h' => absurd h' (by omega))⟩
  case round =>
    obtain ⟨a, b, hab, hbl, rfl, rfl, hL, hU⟩ := hrel
    by_cases hlt : a < b
    · have hmid : (a + b) / 2 < l.length := by omega
      have hm1 : a ≤ (a + b) / 2 := by omega
      have hm2 : (a + b) / 2 < b := by omega
      obtain ⟨b1, o1, u1, rfl, hb1, hx1, hc1⟩ := h.at_ hmid
      have hu : u1 = .int .i64 l[(a + b) / 2] := by simpa [hmid] using hx1.symm
      subst hu
      clear hx1
      have hi1 : (0 : Int) ≤ ((a : Int) + b) / 2 := by omega
      have hi2 : ((a : Int) + b) / 2 < (l.length : Int) := by omega
      go_wp2_with fail
      refine (cmpLess_any _ _ _).mono ?_
      rintro e w1 ⟨he, rfl⟩
      by_cases hcmp : l[(a + b) / 2] < x
      · have hd : decide (l[(a + b) / 2] < x) = true := by simpa using hcmp
        rw [hd] at he
        subst he
        go_wp2_with fail
        go_round
        case rel =>
          refine ⟨(a + b) / 2 + 1, b, by omega, hbl, by go_num, rfl, keep (fun k hk hka => ?_), hU⟩
          by_cases e : k = (a + b) / 2
          · subst e; exact hcmp
          · have := HA.out k ((a + b) / 2) hk hmid (by omega); omega
        case measure => simp [intOf]; omega
      · have hd : decide (l[(a + b) / 2] < x) = false := by simpa using hcmp
        rw [hd] at he
        subst he
        go_wp2_with fail
        go_round
        case rel =>
          refine ⟨a, (a + b) / 2, by omega, by omega, rfl, by go_num, hL, keep (fun k hk hka => ?_)⟩
          by_cases e : k = (a + b) / 2
          · subst e; omega
          · have := HA.out ((a + b) / 2) k hmid hk (by omega); omega
        case measure => simp [intOf]; omega
    · obtain rfl : a = b := by omega
      have hmem := mem_iff_at hL.out hU.out HA.out
      by_cases hal : a < l.length
      · obtain ⟨b1, o1, u1, rfl, hb1, hx1, hc1⟩ := h.at_ hal
        have hu : u1 = .int .i64 l[a] := by simpa [hal] using hx1.symm
        subst hu
        clear hx1
        by_cases he : l[a] = x
        · have hd : (l[a] == x) = true := by simpa using he
          have hD : decide (x ∈ l) = true := by rw [decide_eq_true_iff, hmem]; exact ⟨hal, he⟩
          have HD := keep hD
          clear hD hmem he
          go_wp2_with fail
          go_ret2
          exact ⟨a, by rw [HD.out]; rfl, hbl, hL.out, hU.out, rfl⟩
        · have hd : (l[a] == x) = false := by simpa using he
          have hD : decide (x ∈ l) = false := by rw [decide_eq_false_iff_not, hmem]; rintro ⟨_, h⟩; exact he h
          have HD := keep hD
          clear hD hmem he
          go_wp2_with (go_at_call 39; refine (slNaN_any _ _).mono ?_; rintro e w1 ⟨rfl, rfl⟩)
          go_ret2
          exact ⟨a, by rw [HD.out]; rfl, hbl, hL.out, hU.out, rfl⟩
      · have hD : decide (x ∈ l) = false := by rw [decide_eq_false_iff_not, hmem]; rintro ⟨h, _⟩; omega
        have HD := keep hD
        clear hD hmem
        go_wp2_with fail
        go_ret2
        exact ⟨a, by rw [HD.out]; rfl, hbl, hL.out, hU.out, rfl⟩
end Go.Proofs.YtncmbdcicjolcaaDoor
