/- Contracts of the reference's pick, And, Or and Without (its lines are printed by wip/gen/pick.py). -/
import Derived.Test.YtihimbmbhmgjoaaMerge
import Derived.Test.YtihimbmbhmgjoaaSameInts
namespace Go.Proofs.Ytihimbmbhmgjoaa
open Go.RowKit

set_option maxRecDepth 100000 in
set_option maxHeartbeats 2000000 in
theorem pick_any (want : Bool → Bool → Bool)
    (va vb : Value) (a b : List Int) (w : World) (ha : Sl w (lt w.heap.size) 1 va a.length (a.map (.int .i64))) (hb : Sl w (lt w.heap.size) 1 vb b.length (b.map (.int .i64))) (hl : a.length + b.length ≤ 1000000000) :
    Calls Try.prog 44 #[va, vb, .bool (want true true), .bool (want true false), .bool (want false true)] w (NewInts w (merged want a b)) := by
  obtain ⟨A1, c1, rfl, _, ha⟩ := ha.form
  obtain ⟨A2, c2, rfl, _, hb⟩ := hb.form
  go_enter Try.func44, Try.ntmps44
  go_wp2_with fail
  go_loopw [11, 12, 13] (fun vo vi vk wr => ∃ (i k : Nat) (acc : List Int) (f : Nat), vi = .int .i64 i ∧ vk = .int .i64 k ∧ i ≤ a.length ∧ k ≤ b.length ∧ (a.drop i).length + (b.drop k).length ≤ f ∧ acc ++ mg want f (a.drop i) (b.drop k) = merged want a b ∧
      acc.length ≤ i + k ∧ wr.ownsRow w.heap.size 3 1 vo acc.length (acc.map (.int .i64)) ∧ Below w.heap.size w wr) (fun _ vi vk _ => a.length + b.length - ((intOf vi).toNat + (intOf vk).toNat))
  case atStart => exact ⟨0, 0, [], _, rfl, rfl, Nat.zero_le _, Nat.zero_le _, Nat.le_refl _, rfl, by simp, World.ownsRow_nil _ _ _ _, Below.refl _ _⟩
  case round =>
    obtain ⟨i, k, acc, f, rfl, rfl, hi, hk, hf, hacc, hlen, hown, hbw⟩ := hrel
    have hAcc := keep hacc
    have hF := keep hf
    clear hacc hf
    have hzw := hbw.size
    have hsa := ha.below hbw (Nat.le_refl _)
    have hsb := hb.below hbw (Nat.le_refl _)
    by_cases hi2 : i < a.length
    · have di : decide ((i : Int) < a.length) = true := by simp; omega
      have ei : ((i : Int) == a.length) = false := by simp; omega
      have ri1 : (0 : Int) ≤ (i : Int) := by omega
      have ri2 : (i : Int) < (a.length : Int) := by omega
      obtain ⟨b1, o1, u1, rfl, hb1, hx1, hc1⟩ := hsa.at_ hi2
      have hu : u1 = .int .i64 a[i] := by simpa [hi2] using hx1.symm
      subst hu
      clear hx1
      by_cases hk2 : k < b.length
      · have dk : decide ((k : Int) < b.length) = true := by simp; omega
        have ek : ((k : Int) == b.length) = false := by simp; omega
        have rk1 : (0 : Int) ≤ (k : Int) := by omega
        have rk2 : (k : Int) < (b.length : Int) := by omega
        obtain ⟨b2, o2, u2, rfl, hb2, hx2, hc2⟩ := hsb.at_ hk2
        have hu2 : u2 = .int .i64 b[k] := by simpa [hk2] using hx2.symm
        subst hu2
        clear hx2
        by_cases hab : a[i] < b[k]
        · have l1 : decide (a[i] < b[k]) = true := by simpa using hab
          obtain ⟨f', rfl⟩ : ∃ f', f = f' + 1 := ⟨f - 1, by have := hF.out; simp only [List.length_drop] at this; omega⟩
          have hf' := hF.out
          simp only [List.length_drop] at hf'
          have HM := keep (p := acc ++ ((if want true false then [a[i]] else []) ++ mg want f' (a.drop (i + 1)) (b.drop k)) = merged want a b) (by have h := hAcc.out; rw [List.drop_eq_getElem_cons hi2, List.drop_eq_getElem_cons hk2] at h; simp only [mg, if_pos hab] at h; rw [← List.drop_eq_getElem_cons hk2] at h; exact h)
          clear hAcc hF
          by_cases hw : want true false = true
          · have HA := keep (p := (acc ++ [a[i]]) ++ mg want f' (a.drop (i + 1)) (b.drop k) = merged want a b) (by have h := HM.out; rw [if_pos hw] at h; simpa using h)
            rw [hw]
            clear HM hw
            go_wp2_with fail
            go_quiet (fail)
            go_wp2_with (refine wpList_push1 el26 rfl rfl _ _ _ rfl rfl rfl w.heap.size _ _ _ _ rfl (fun _ => rfl) (fun _ => rfl) hown rfl (by unfold maxLen; omega) (by omega) hzw ?_; intro g cap w2 hown2 hb2 _ _ _)
            go_roundw
            case rel => exact ⟨(i + 1), k, acc ++ [a[i]], f', by go_num, by go_num, by omega, by omega, by simp only [List.length_drop]; omega, HA.out, by simp only [List.length_append, List.length_cons, List.length_nil]; omega, own_snoc (Value.int .i64) acc _ hown2, hbw.trans (undrewN hb2)⟩
            case measure => simp [intOf]; omega
          · have hw' : want true false = false := by simpa using hw
            have HA := keep (p := acc ++ mg want f' (a.drop (i + 1)) (b.drop k) = merged want a b) (by have h := HM.out; rw [if_neg hw] at h; simpa using h)
            rw [hw']
            clear HM hw hw'
            go_wp2_with fail
            go_quiet (fail)
            go_wp2_with fail
            go_roundw
            case rel => exact ⟨(i + 1), k, acc, f', by go_num, by go_num, by omega, by omega, by simp only [List.length_drop]; omega, HA.out, by omega, hown, below_drewN hbw _⟩
            case measure => simp [intOf]; omega
        · have l1 : decide (a[i] < b[k]) = false := by simpa using hab
          by_cases hba : b[k] < a[i]
          · have l2 : decide (b[k] < a[i]) = true := by simpa using hba
            obtain ⟨f', rfl⟩ : ∃ f', f = f' + 1 := ⟨f - 1, by have := hF.out; simp only [List.length_drop] at this; omega⟩
            have hf' := hF.out
            simp only [List.length_drop] at hf'
            have HM := keep (p := acc ++ ((if want false true then [b[k]] else []) ++ mg want f' (a.drop i) (b.drop (k + 1))) = merged want a b) (by have h := hAcc.out; rw [List.drop_eq_getElem_cons hi2, List.drop_eq_getElem_cons hk2] at h; simp only [mg, if_neg hab, if_pos hba] at h; rw [← List.drop_eq_getElem_cons hi2] at h; exact h)
            clear hAcc hF
            by_cases hw : want false true = true
            · have HA := keep (p := (acc ++ [b[k]]) ++ mg want f' (a.drop i) (b.drop (k + 1)) = merged want a b) (by have h := HM.out; rw [if_pos hw] at h; simpa using h)
              rw [hw]
              clear HM hw
              go_wp2_with fail
              go_quiet (fail)
              go_wp2_with fail
              go_quiet (fail)
              go_wp2_with (refine wpList_push1 el26 rfl rfl _ _ _ rfl rfl rfl w.heap.size _ _ _ _ rfl (fun _ => rfl) (fun _ => rfl) hown rfl (by unfold maxLen; omega) (by omega) hzw ?_; intro g cap w2 hown2 hb2 _ _ _)
              go_roundw
              case rel => exact ⟨i, (k + 1), acc ++ [b[k]], f', by go_num, by go_num, by omega, by omega, by simp only [List.length_drop]; omega, HA.out, by simp only [List.length_append, List.length_cons, List.length_nil]; omega, own_snoc (Value.int .i64) acc _ hown2, hbw.trans (undrewN hb2)⟩
              case measure => simp [intOf]; omega
            · have hw' : want false true = false := by simpa using hw
              have HA := keep (p := acc ++ mg want f' (a.drop i) (b.drop (k + 1)) = merged want a b) (by have h := HM.out; rw [if_neg hw] at h; simpa using h)
              rw [hw']
              clear HM hw hw'
              go_wp2_with fail
              go_quiet (fail)
              go_wp2_with fail
              go_quiet (fail)
              go_wp2_with fail
              go_roundw
              case rel => exact ⟨i, (k + 1), acc, f', by go_num, by go_num, by omega, by omega, by simp only [List.length_drop]; omega, HA.out, by omega, hown, below_drewN hbw _⟩
              case measure => simp [intOf]; omega
          · have l2 : decide (b[k] < a[i]) = false := by simpa using hba
            have hE : b[k] = a[i] := by omega
            obtain ⟨f', rfl⟩ : ∃ f', f = f' + 1 := ⟨f - 1, by have := hF.out; simp only [List.length_drop] at this; omega⟩
            have hf' := hF.out
            simp only [List.length_drop] at hf'
            have HM := keep (p := acc ++ ((if want true true then [a[i]] else []) ++ mg want f' (a.drop (i + 1)) (b.drop (k + 1))) = merged want a b) (by have h := hAcc.out; rw [List.drop_eq_getElem_cons hi2, List.drop_eq_getElem_cons hk2] at h; simp only [mg, if_neg hab, if_neg hba] at h; rw [hE] at h; exact h)
            clear hAcc hF
            by_cases hw : want true true = true
            · have HA := keep (p := (acc ++ [a[i]]) ++ mg want f' (a.drop (i + 1)) (b.drop (k + 1)) = merged want a b) (by have h := HM.out; rw [if_pos hw] at h; simpa using h)
              rw [hw]
              clear HM hw
              go_wp2_with fail
              go_quiet (fail)
              go_wp2_with fail
              go_quiet (fail)
              go_wp2_with (refine wpList_push1 el26 rfl rfl _ _ _ rfl rfl rfl w.heap.size _ _ _ _ rfl (fun _ => rfl) (fun _ => rfl) hown rfl (by unfold maxLen; omega) (by omega) hzw ?_; intro g cap w2 hown2 hb2 _ _ _)
              go_roundw
              case rel => exact ⟨(i + 1), (k + 1), acc ++ [a[i]], f', by go_num, by go_num, by omega, by omega, by simp only [List.length_drop]; omega, HA.out, by simp only [List.length_append, List.length_cons, List.length_nil]; omega, own_snoc (Value.int .i64) acc _ hown2, hbw.trans (undrewN hb2)⟩
              case measure => simp [intOf]; omega
            · have hw' : want true true = false := by simpa using hw
              have HA := keep (p := acc ++ mg want f' (a.drop (i + 1)) (b.drop (k + 1)) = merged want a b) (by have h := HM.out; rw [if_neg hw] at h; simpa using h)
              rw [hw']
              clear HM hw hw'
              go_wp2_with fail
              go_quiet (fail)
              go_wp2_with fail
              go_quiet (fail)
              go_wp2_with fail
              go_roundw
              case rel => exact ⟨(i + 1), (k + 1), acc, f', by go_num, by go_num, by omega, by omega, by simp only [List.length_drop]; omega, HA.out, by omega, hown, below_drewN hbw _⟩
              case measure => simp [intOf]; omega
      · obtain rfl : k = b.length := by omega
        have dk : decide ((b.length : Int) < b.length) = false := by simp
        have ek : ((b.length : Int) == b.length) = true := by simp
        obtain ⟨f', rfl⟩ : ∃ f', f = f' + 1 := ⟨f - 1, by have := hF.out; simp only [List.length_drop] at this; omega⟩
        have hf' := hF.out
        simp only [List.length_drop] at hf'
        have HM := keep (p := acc ++ ((if want true false then [a[i]] else []) ++ mg want f' (a.drop (i + 1)) (b.drop b.length)) = merged want a b) (by have h := hAcc.out; rw [List.drop_eq_getElem_cons hi2, List.drop_length] at h; simp only [mg] at h; rw [List.drop_length]; exact h)
        clear hAcc hF
        by_cases hw : want true false = true
        · have HA := keep (p := (acc ++ [a[i]]) ++ mg want f' (a.drop (i + 1)) (b.drop b.length) = merged want a b) (by have h := HM.out; rw [if_pos hw] at h; simpa using h)
          rw [hw]
          clear HM hw
          go_wp2_with fail
          go_quiet (fail)
          go_wp2_with (refine wpList_push1 el26 rfl rfl _ _ _ rfl rfl rfl w.heap.size _ _ _ _ rfl (fun _ => rfl) (fun _ => rfl) hown rfl (by unfold maxLen; omega) (by omega) hzw ?_; intro g cap w2 hown2 hb2 _ _ _)
          go_roundw
          case rel => exact ⟨(i + 1), b.length, acc ++ [a[i]], f', by go_num, by go_num, by omega, by omega, by simp only [List.length_drop]; omega, HA.out, by simp only [List.length_append, List.length_cons, List.length_nil]; omega, own_snoc (Value.int .i64) acc _ hown2, hbw.trans (undrewN hb2)⟩
          case measure => simp [intOf]; omega
        · have hw' : want true false = false := by simpa using hw
          have HA := keep (p := acc ++ mg want f' (a.drop (i + 1)) (b.drop b.length) = merged want a b) (by have h := HM.out; rw [if_neg hw] at h; simpa using h)
          rw [hw']
          clear HM hw hw'
          go_wp2_with fail
          go_quiet (fail)
          go_wp2_with fail
          go_roundw
          case rel => exact ⟨(i + 1), b.length, acc, f', by go_num, by go_num, by omega, by omega, by simp only [List.length_drop]; omega, HA.out, by omega, hown, below_drewN hbw _⟩
          case measure => simp [intOf]; omega
    · obtain rfl : i = a.length := by omega
      have di : decide ((a.length : Int) < a.length) = false := by simp
      have ei : ((a.length : Int) == a.length) = true := by simp
      by_cases hk2 : k < b.length
      · have dk : decide ((k : Int) < b.length) = true := by simp; omega
        have ek : ((k : Int) == b.length) = false := by simp; omega
        have rk1 : (0 : Int) ≤ (k : Int) := by omega
        have rk2 : (k : Int) < (b.length : Int) := by omega
        obtain ⟨b2, o2, u2, rfl, hb2, hx2, hc2⟩ := hsb.at_ hk2
        have hu2 : u2 = .int .i64 b[k] := by simpa [hk2] using hx2.symm
        subst hu2
        clear hx2
        obtain ⟨f', rfl⟩ : ∃ f', f = f' + 1 := ⟨f - 1, by have := hF.out; simp only [List.length_drop] at this; omega⟩
        have hf' := hF.out
        simp only [List.length_drop] at hf'
        have HM := keep (p := acc ++ ((if want false true then [b[k]] else []) ++ mg want f' (a.drop a.length) (b.drop (k + 1))) = merged want a b) (by have h := hAcc.out; rw [List.drop_eq_getElem_cons hk2, List.drop_length] at h; simp only [mg] at h; rw [List.drop_length]; exact h)
        clear hAcc hF
        by_cases hw : want false true = true
        · have HA := keep (p := (acc ++ [b[k]]) ++ mg want f' (a.drop a.length) (b.drop (k + 1)) = merged want a b) (by have h := HM.out; rw [if_pos hw] at h; simpa using h)
          rw [hw]
          clear HM hw
          go_wp2_with fail
          go_quiet (fail)
          go_wp2_with fail
          go_quiet (fail)
          go_wp2_with (refine wpList_push1 el26 rfl rfl _ _ _ rfl rfl rfl w.heap.size _ _ _ _ rfl (fun _ => rfl) (fun _ => rfl) hown rfl (by unfold maxLen; omega) (by omega) hzw ?_; intro g cap w2 hown2 hb2 _ _ _)
          go_roundw
          case rel => exact ⟨a.length, (k + 1), acc ++ [b[k]], f', by go_num, by go_num, by omega, by omega, by simp only [List.length_drop]; omega, HA.out, by simp only [List.length_append, List.length_cons, List.length_nil]; omega, own_snoc (Value.int .i64) acc _ hown2, hbw.trans (undrewN hb2)⟩
          case measure => simp [intOf]; omega
        · have hw' : want false true = false := by simpa using hw
          have HA := keep (p := acc ++ mg want f' (a.drop a.length) (b.drop (k + 1)) = merged want a b) (by have h := HM.out; rw [if_neg hw] at h; simpa using h)
          rw [hw']
          clear HM hw hw'
          go_wp2_with fail
          go_quiet (fail)
          go_wp2_with fail
          go_quiet (fail)
          go_wp2_with fail
          go_roundw
          case rel => exact ⟨a.length, (k + 1), acc, f', by go_num, by go_num, by omega, by omega, by simp only [List.length_drop]; omega, HA.out, by omega, hown, below_drewN hbw _⟩
          case measure => simp [intOf]; omega
      · obtain rfl : k = b.length := by omega
        have dk : decide ((b.length : Int) < b.length) = false := by simp
        have hac := hAcc.out
        have hmg : mg want f [] [] = [] := by cases f <;> rfl
        rw [List.drop_length, List.drop_length, hmg, List.append_nil] at hac
        subst hac
        clear hAcc hF hmg
        go_wp2_with fail
        go_ret
        exact ⟨_, rfl, hown, hbw⟩

section
variable (va vb : Value) (a b : List Int) (w : World) (ha : Sl w (lt w.heap.size) 1 va a.length (a.map (.int .i64))) (hb : Sl w (lt w.heap.size) 1 vb b.length (b.map (.int .i64))) (hl : a.length + b.length ≤ 1000000000)
include ha hb hl
theorem refAnd_any : Calls Try.prog 18 #[va, vb] w (NewInts w (andL a b)) := by
  go_enter Try.func18, Try.ntmps18
  go_wp2_with fail
  refine (pick_any (fun x y => x && y) _ _ a b _ ha hb hl).mono ?_
  rintro e w1 ⟨v, rfl, hown, hbw⟩
  go_wp2_with fail
  go_ret
  exact ⟨v, rfl, hown, hbw⟩
theorem refOr_any : Calls Try.prog 19 #[va, vb] w (NewInts w (orL a b)) := by
  go_enter Try.func19, Try.ntmps19
  go_wp2_with fail
  refine (pick_any (fun _ _ => true) _ _ a b _ ha hb hl).mono ?_
  rintro e w1 ⟨v, rfl, hown, hbw⟩
  go_wp2_with fail
  go_ret
  exact ⟨v, rfl, hown, hbw⟩
theorem refWithout_any : Calls Try.prog 20 #[va, vb] w (NewInts w (withoutL a b)) := by
  go_enter Try.func20, Try.ntmps20
  go_wp2_with fail
  refine (pick_any (fun x y => x && !y) _ _ a b _ ha hb hl).mono ?_
  rintro e w1 ⟨v, rfl, hown, hbw⟩
  go_wp2_with fail
  go_ret
  exact ⟨v, rfl, hown, hbw⟩
end
end Go.Proofs.Ytihimbmbhmgjoaa
