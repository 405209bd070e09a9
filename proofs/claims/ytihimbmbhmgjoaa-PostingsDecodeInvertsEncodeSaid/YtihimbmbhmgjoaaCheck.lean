/- Contracts of Check of package postings and of the reference's Check. -/
import Derived.Test.YtihimbmbhmgjoaaMerge
import Derived.Test.YtihimbmbhmgjoaaSameInts
namespace Go.Proofs.Ytihimbmbhmgjoaa
open Go.RowKit

def bad (x : Int) : Bool := decide (x < 0) || decide (4096 ≤ x)
/-- Each element is greater than the one before, as far as k. -/
def UpTo (l : List Int) (k : Nat) : Prop := ∀ i, (h : i + 1 < l.length) → i + 1 < k → l[i] < l[i + 1]
theorem asc_of_up {l : List Int} (h : UpTo l l.length) : Asc l := by
  unfold Asc
  rw [List.pairwise_iff_getElem]
  intro i j hi hj hij
  obtain ⟨d, rfl⟩ : ∃ d, j = i + 1 + d := ⟨j - (i + 1), by omega⟩
  clear hij
  induction d with
  | zero => exact h i (by omega) (by omega)
  | succ d ih =>
    have h1 := ih (by omega)
    have h2 := h (i + 1 + d) (by omega) (by omega)
    have h3 : l[i + 1 + (d + 1)] = l[i + 1 + d + 1] := by congr 1
    omega
theorem up_of_asc {l : List Int} (h : Asc l) : UpTo l l.length := by
  unfold Asc at h
  rw [List.pairwise_iff_getElem] at h
  exact fun i hi _ => h i (i + 1) (by omega) hi (by omega)
instance (l : List Int) : Decidable (Asc l) := by unfold Asc; infer_instance
/-- The error number of a slice that should be a posting list. -/
def checkOf (l : List Int) : Int := if 4096 < l.length then 4 else if l.any bad then 2 else if Asc l then 0 else 19

theorem bad1 (x : Int) (W : World) : Calls Try.prog 43 #[.int .i64 x] W fun e w' => e = .returned (.bool (bad x)) ∧ W = w' := by
  go_enter Try.func43, Try.ntmps43
  by_cases h : x < 0
  · have hd : decide (x < 0) = true := by simpa using h
    go_wp2
    go_ret
    exact ⟨ret_bool (by simp [bad, h]), rfl⟩
  · have hd : decide (x < 0) = false := by simpa using h
    go_wp2
    go_ret
    exact ⟨ret_bool (by rw [bad, hd]; rfl), rfl⟩

theorem any_take {p : Int → Bool} {l : List Int} {k : Nat} (hlt : k < l.length) (h : (l.take k).any p = false) (hp : p l[k] = false) : (l.take (k + 1)).any p = false := by
  rw [List.take_add_one, List.any_append, h, List.getElem?_eq_getElem hlt]
  simp [hp]

theorem indexFunc_any (p : Int → Bool) (fn : Nat) (hen : ∀ (args : Array Value) (W : World), (callFunc fn args).run Try.prog W = .ok (.enter fn args) W) (hfn : ∀ (x : Int) (W : World), Calls Try.prog fn #[.int .i64 x] W fun e w' => e = .returned (.bool (p x)) ∧ W = w')
    (v : Value) (l : List Int) (w : World) (h1 : Sl w (lt w.heap.size) 1 v l.length (l.map (.int .i64))) (hm : l.length ≤ maxLen) :
    Calls Try.prog 57 #[v, .func (.func fn) #[] #[]] w fun e w' => ∃ r : Int, e = .returned (.int .i64 r) ∧ decide (0 ≤ r) = l.any p ∧ Below w.heap.size w w' := by
  have hFn := keep hfn
  clear hfn
  unfold maxLen at hm
  obtain ⟨A, c, rfl, hc, h1⟩ := h1.form
  go_enter Try.func57, Try.ntmps57
  go_wp2_with fail
  go_loopw [8] (fun i wr => ∃ k : Nat, k ≤ l.length ∧ i = .int .i64 k ∧ Hid ((l.take k).any p = false) ∧ wr = w) (fun i _ => l.length - (intOf i).toNat)
  case atStart => exact ⟨0, Nat.zero_le _, rfl, keep (by simp), rfl⟩
  case round =>
    obtain ⟨k, hk, rfl, hnot, rfl⟩ := hrel
    by_cases hlt : k < l.length
    · obtain ⟨b1, o1, u1, rfl, hb1, hx1, hc1⟩ := h1.at_ hlt
      have hu : u1 = .int .i64 l[k] := by simpa [hlt] using hx1.symm
      subst hu
      have hi1 : (0 : Int) ≤ (k : Int) := by omega
      have hi2 : (k : Int) < (l.length : Int) := by omega
      clear hx1
      go_wp2_with fail
      refine (hFn.out _ _).mono ?_
      rintro e w1 ⟨rfl, rfl⟩
      by_cases hp : p l[k] = true
      · go_wp2_with fail
        go_ret
        refine ⟨_, rfl, ?_, Below.refl _ _⟩
        have : l.any p = true := List.any_eq_true.2 ⟨l[k], List.getElem_mem _, hp⟩
        rw [this]; simp
      · have hp : p l[k] = false := by simpa using hp
        go_wp2_with fail
        go_roundw
        case rel => exact ⟨k + 1, by omega, by go_num, keep (any_take hlt hnot.out hp), trivial⟩
        case measure => simp [intOf]; omega
    · obtain rfl : k = l.length := by omega
      go_wp2_with fail
      go_ret
      refine ⟨_, rfl, ?_, Below.refl _ _⟩
      have := hnot.out
      rw [List.take_length] at this
      rw [this]; rfl

theorem contains_bad (v : Value) (l : List Int) (w : World) (h1 : Sl w (lt w.heap.size) 1 v l.length (l.map (.int .i64))) (hm : l.length ≤ maxLen) :
    Calls Try.prog 42 #[v, .func (.func 43) #[] #[]] w fun e w' => e = .returned (.bool (l.any bad)) ∧ Below w.heap.size w w' := by
  go_enter Try.func42, Try.ntmps42
  go_wp2_with fail
  refine (indexFunc_any bad 43 (fun _ _ => rfl) bad1 v l _ h1 hm).mono ?_
  rintro e w1 ⟨r, rfl, hr, hb⟩
  have hR := keep hr
  clear hr
  go_wp2_with fail
  go_ret
  exact ⟨ret_bool hR.out, hb⟩

theorem check_any (v : Value) (l : List Int) (w : World) (h1 : Sl w (lt w.heap.size) 1 v l.length (l.map (.int .i64))) (hm : l.length ≤ maxLen) :
    Calls Try.prog 16 #[v] w fun e w' => e = .returned (.int .i64 (checkOf l)) ∧ Below w.heap.size w w' := by
  have hc0 := hm
  unfold maxLen at hm
  obtain ⟨A, c, rfl, hc, h1⟩ := h1.form
  go_enter Try.func16, Try.ntmps16
  by_cases hL : 4096 < l.length
  · have hd : decide ((4096 : Int) < l.length) = true := by simp; omega
    go_wp2_with fail
    go_ret
    exact ⟨by simp [checkOf, hL], Below.refl _ _⟩
  have hd : decide ((4096 : Int) < l.length) = false := by simp; omega
  go_wp2_with fail
  refine (contains_bad _ l _ h1 hc0).mono ?_
  rintro e w1 ⟨he, hb1⟩
  by_cases hB : l.any bad = true
  · rw [hB] at he
    subst he
    go_wp2_with fail
    go_ret
    exact ⟨by simp only [checkOf, if_neg hL, if_pos hB]; rfl, hb1⟩
  rw [show l.any bad = false by simpa using hB] at he
  subst he
  go_wp2_with fail
  go_loopw [3] (fun i wr => ∃ k : Nat, 1 ≤ k ∧ k ≤ max 1 l.length ∧ i = .int .i64 k ∧ Hid (UpTo l k) ∧ Below w.heap.size w wr) (fun i _ => 1 + l.length - (intOf i).toNat)
  case atStart => exact ⟨1, by omega, by omega, rfl, keep (fun i _ h => by omega), hb1⟩
  case round =>
    obtain ⟨k, hk1, hk, rfl, hup, hb⟩ := hrel
    by_cases hlt : k < l.length
    · obtain ⟨j, rfl⟩ : ∃ j, k = j + 1 := ⟨k - 1, by omega⟩
      have hlt' : j < l.length := by omega
      have hS := h1.below hb (Nat.le_refl _)
      obtain ⟨b1, o1, u1, rfl, hb1', hx1, hc1⟩ := hS.at_ hlt
      obtain ⟨b2, o2, u2, hA, hb2', hx2, hc2⟩ := hS.at_ hlt'
      have hu : u1 = .int .i64 l[j + 1] := by simpa [hlt] using hx1.symm
      have hu2 : u2 = .int .i64 l[j] := by simpa [hlt'] using hx2.symm
      subst hu hu2
      injection hA with hA; injection hA with hA1 hA2
      subst hA1 hA2
      have e1 : ((j + 1 : Nat) : Int) - 1 = (j : Int) := by omega
      have hi1 : (0 : Int) ≤ ((j + 1 : Nat) : Int) := by omega
      have hi2 : ((j + 1 : Nat) : Int) < (l.length : Int) := by omega
      have hi3 : (0 : Int) ≤ ((j + 1 : Nat) : Int) - 1 := by omega
      have hi4 : ((j + 1 : Nat) : Int) - 1 < (l.length : Int) := by omega
      clear hx1 hx2 hS
      by_cases hle : l[j + 1] ≤ l[j]
      · have hdl : decide (l[j + 1] ≤ l[j]) = true := by simpa using hle
        go_wp2_with fail
        go_quiet (fail)
        go_wp2_with fail
        go_ret
        refine ⟨?_, below_drewN hb _⟩
        have hna : ¬ Asc l := fun h => by have := up_of_asc h j (by omega) (by omega); omega
        simp only [checkOf, if_neg hL, if_neg hB, if_neg hna]
        rfl
      · have hdl : decide (l[j + 1] ≤ l[j]) = false := by simpa using hle
        go_wp2_with fail
        go_quiet (fail)
        go_wp2_with fail
        go_roundw
        case rel =>
          refine ⟨j + 2, by omega, by omega, by go_num, keep (fun i hi h => ?_), below_drewN hb _⟩
          by_cases hij : i = j
          · subst hij; omega
          · exact hup.out i hi (by omega)
        case measure => simp [intOf]; omega
    · have hdk : decide ((k : Int) < l.length) = false := by simp; omega
      go_wp2_with fail
      go_ret
      refine ⟨?_, hb⟩
      have ha : Asc l := asc_of_up (fun i hi h => hup.out i hi (by omega))
      simp only [checkOf, if_neg hL, if_neg hB, if_pos ha]
      rfl

theorem refCheck_any (v : Value) (l : List Int) (w : World) (h1 : Sl w (lt w.heap.size) 1 v l.length (l.map (.int .i64))) (hm : l.length ≤ maxLen) :
    Calls Try.prog 17 #[v] w fun e w' => e = .returned (.int .i64 (checkOf l)) ∧ Below w.heap.size w w' := by
  unfold maxLen at hm
  obtain ⟨A, c, rfl, hc, h1⟩ := h1.form
  go_enter Try.func17, Try.ntmps17
  by_cases hL : 4096 < l.length
  · have hd : decide ((4096 : Int) < l.length) = true := by simp; omega
    go_wp2_with fail
    go_ret
    exact ⟨by simp [checkOf, hL], Below.refl _ _⟩
  have hd : decide ((4096 : Int) < l.length) = false := by simp; omega
  go_wp2_with fail
  go_loopw [3] (fun i wr => ∃ k : Nat, k ≤ l.length ∧ i = .int .i64 k ∧ Hid ((l.take k).any bad = false) ∧ Below w.heap.size w wr) (fun i _ => l.length - (intOf i).toNat)
  case atStart => exact ⟨0, Nat.zero_le _, rfl, keep (by simp), Below.refl _ _⟩
  case round =>
    obtain ⟨k, hk, rfl, hnot, hb⟩ := hrel
    by_cases hlt : k < l.length
    · have hS := h1.below hb (Nat.le_refl _)
      obtain ⟨b1, o1, u1, rfl, hb1, hx1, hc1⟩ := hS.at_ hlt
      have hu : u1 = .int .i64 l[k] := by simpa [hlt] using hx1.symm
      subst hu
      have hi1 : (0 : Int) ≤ (k : Int) := by omega
      have hi2 : (k : Int) < (l.length : Int) := by omega
      have hdk : decide ((k : Int) < l.length) = true := by simp; omega
      clear hx1 hS
      by_cases hneg : l[k] < 0
      · have dn : decide (l[k] < 0) = true := by simpa using hneg
        have hB : l.any bad = true := List.any_eq_true.2 ⟨l[k], List.getElem_mem _, by simp [bad, dn]⟩
        have HB := keep hB
        clear hB
        go_wp2_with fail
        go_ret
        exact ⟨by simp only [checkOf, if_neg hL, if_pos HB.out]; rfl, hb⟩
      · have dn : decide (l[k] < 0) = false := by simpa using hneg
        by_cases hbig : 4096 ≤ l[k]
        · have dg : decide (4096 ≤ l[k]) = true := by simpa using hbig
          have hB : l.any bad = true := List.any_eq_true.2 ⟨l[k], List.getElem_mem _, by simp [bad, dg]⟩
          have HB := keep hB
          clear hB
          go_wp2_with fail
          go_ret
          exact ⟨by simp only [checkOf, if_neg hL, if_pos HB.out]; rfl, hb⟩
        · have dg : decide (4096 ≤ l[k]) = false := by simpa using hbig
          have HN := keep (any_take hlt hnot.out (by rw [bad, dn, dg]; rfl))
          clear hnot
          go_wp2_with fail
          go_roundw
          case rel => exact ⟨k + 1, by omega, by go_num, HN, hb⟩
          case measure => simp [intOf]; omega
    · obtain rfl : k = l.length := by omega
      have hB : ¬ l.any bad = true := by
        have := hnot.out
        rw [List.take_length] at this
        rw [this]; simp
      clear hnot
      have HB := keep hB
      clear hB
      have hb1 := hb
      clear hb
      go_wp2_with fail
      go_loopw [4] (fun i wr => ∃ k : Nat, 1 ≤ k ∧ k ≤ max 1 l.length ∧ i = .int .i64 k ∧ Hid (UpTo l k) ∧ Below w.heap.size w wr) (fun i _ => 1 + l.length - (intOf i).toNat)
      case atStart => exact ⟨1, by omega, by omega, rfl, keep (fun i _ h => by omega), hb1⟩
      case round =>
        obtain ⟨k, hk1, hk, rfl, hup, hb⟩ := hrel
        by_cases hlt : k < l.length
        · obtain ⟨j, rfl⟩ : ∃ j, k = j + 1 := ⟨k - 1, by omega⟩
          have hlt' : j < l.length := by omega
          have hS := h1.below hb (Nat.le_refl _)
          obtain ⟨b1, o1, u1, rfl, hb1', hx1, hc1⟩ := hS.at_ hlt
          obtain ⟨b2, o2, u2, hA, hb2', hx2, hc2⟩ := hS.at_ hlt'
          have hu : u1 = .int .i64 l[j + 1] := by simpa [hlt] using hx1.symm
          have hu2 : u2 = .int .i64 l[j] := by simpa [hlt'] using hx2.symm
          subst hu hu2
          injection hA with hA; injection hA with hA1 hA2
          subst hA1 hA2
          have e1 : ((j + 1 : Nat) : Int) - 1 = (j : Int) := by omega
          have hi1 : (0 : Int) ≤ ((j + 1 : Nat) : Int) := by omega
          have hi2 : ((j + 1 : Nat) : Int) < (l.length : Int) := by omega
          have hi3 : (0 : Int) ≤ ((j + 1 : Nat) : Int) - 1 := by omega
          have hi4 : ((j + 1 : Nat) : Int) - 1 < (l.length : Int) := by omega
          clear hx1 hx2 hS
          by_cases hle : l[j + 1] ≤ l[j]
          · have hdl : decide (l[j + 1] ≤ l[j]) = true := by simpa using hle
            go_wp2_with fail
            go_quiet (fail)
            go_wp2_with fail
            go_ret
            refine ⟨?_, below_drewN hb _⟩
            have hna : ¬ Asc l := fun h => by have := up_of_asc h j (by omega) (by omega); omega
            simp only [checkOf, if_neg hL, if_neg HB.out, if_neg hna]
            rfl
          · have hdl : decide (l[j + 1] ≤ l[j]) = false := by simpa using hle
            go_wp2_with fail
            go_quiet (fail)
            go_wp2_with fail
            go_roundw
            case rel =>
              refine ⟨j + 2, by omega, by omega, by go_num, keep (fun i hi h => ?_), below_drewN hb _⟩
              by_cases hij : i = j
              · subst hij; omega
              · exact hup.out i hi (by omega)
            case measure => simp [intOf]; omega
        · have hdk : decide ((k : Int) < l.length) = false := by simp; omega
          go_wp2_with fail
          go_ret
          refine ⟨?_, hb⟩
          have ha : Asc l := asc_of_up (fun i hi h => hup.out i hi (by omega))
          simp only [checkOf, if_neg hL, if_neg HB.out, if_pos ha]
          rfl
end Go.Proofs.Ytihimbmbhmgjoaa
