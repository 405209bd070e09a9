/- Contracts of merge, And, Or and Without of package postings. -/
import Derived.Test.YtihimbmbhmgjoaaLibTwo
import Derived.Test.YtihimbmbhmgjoaaSets
namespace Go.Proofs.Ytihimbmbhmgjoaa
open Go.RowKit

theorem el26 : Elem Try.prog 26 3 1 8 (.int .i64 0) := ⟨Try.underlying26, by kernel_rfl, rfl, by decide⟩

theorem undrewN {B n : Nat} {w w' : World} (h : Below B (w.drewN n) w') : Below B w w' := ⟨h.os, h.tape, h.output, h.size, h.block⟩

/-- What the loop of merge has still to do: the lists that are left, and what was put out. -/
def MergeLeft (want : Bool → Bool → Bool) (a b : List Int) (w : World) (va vb vo : Value) (wr : World) : Prop :=
  ∃ (la lb acc : List Int) (f : Nat), la.length + lb.length ≤ f ∧ acc ++ mg want f la lb = merged want a b ∧ acc.length + la.length + lb.length ≤ a.length + b.length ∧
    Sl wr (lt w.heap.size) 1 va la.length (la.map (.int .i64)) ∧ Sl wr (lt w.heap.size) 1 vb lb.length (lb.map (.int .i64)) ∧
    wr.ownsRow w.heap.size 3 1 vo acc.length (acc.map (.int .i64)) ∧ Below w.heap.size w wr
def lenOf : Value → Nat | .slice _ n _ => n | _ => 0

set_option maxHeartbeats 1000000 in
theorem merge_any (want : Bool → Bool → Bool) (fn : Nat) (hen : ∀ (args : Array Value) (W : World), (callFunc fn args).run Try.prog W = .ok (.enter fn args) W) (hfn : ∀ (x y : Bool) (W : World), Calls Try.prog fn #[.bool x, .bool y] W fun e w' => e = .returned (.bool (want x y)) ∧ W = w')
    (va vb : Value) (a b : List Int) (w : World) (ha : Sl w (lt w.heap.size) 1 va a.length (a.map (.int .i64))) (hb : Sl w (lt w.heap.size) 1 vb b.length (b.map (.int .i64))) (hl : a.length + b.length ≤ 1000000000) :
    Calls Try.prog 38 #[va, vb, .func (.func fn) #[] #[]] w fun e w' => ∃ v, e = .returned v ∧ w'.ownsRow w.heap.size 3 1 v (merged want a b).length ((merged want a b).map (.int .i64)) ∧ Below w.heap.size w w' := by
  have hFn := keep hfn
  clear hfn
  go_enter Try.func38, Try.ntmps38
  go_wp2_with fail
  go_loopw [0, 1, 7] (fun va vb vo wr => MergeLeft want a b w va vb vo wr) (fun va vb _ _ => lenOf va + lenOf vb)
  case atStart => exact ⟨a, b, [], _, Nat.le_refl _, rfl, by simp, ha, hb, World.ownsRow_nil _ _ _ _, Below.refl _ _⟩
  case round =>
    clear ha hb
    obtain ⟨la, lb, acc, f, hf, hacc, hlen, hsa, hsb, hown, hbw⟩ := hrel
    have hAcc := keep hacc
    have hF := keep hf
    clear hacc hf
    have hzw := hbw.size
    match la, lb with
    | [], [] =>
      obtain ⟨A1, c1, rfl, _, hsa⟩ := hsa.form
      obtain ⟨A2, c2, rfl, _, hsb⟩ := hsb.form
      have hmg : mg want f [] [] = [] := by cases f <;> rfl
      have hac := hAcc.out
      rw [hmg, List.append_nil] at hac
      subst hac
      go_wp2_with fail
      go_ret
      exact ⟨_, rfl, hown, hbw⟩
    | x :: xs, [] =>
      simp only [List.length_cons, List.length_nil] at hsa hsb hlen
      obtain ⟨A1, c1, rfl, _, hsa⟩ := hsa.form
      obtain ⟨A2, c2, rfl, _, hsb⟩ := hsb.form
      obtain ⟨b1, o1, u1, rfl, hb1, hx1, hc1⟩ := hsa.at_ (k := 0) (by omega)
      simp at hx1
      rw [Nat.add_zero] at hc1
      subst hx1
      obtain ⟨A3, hcut, hA3, hsa'⟩ := cut_one el26 hsa
      have d1 : decide ((0 : Int) < (xs.length : Int) + 1) = true := by simp <;> omega
      have i1 : (0 : Int) < (xs.length : Int) + 1 := by omega
      have z1 : (((xs.length : Int) + 1) == 0) = false := by simp; omega
      obtain ⟨f', rfl⟩ : ∃ f', f = f' + 1 := ⟨f - 1, by have := hF.out; simp only [List.length_cons] at this; omega⟩
      have hf' := hF.out
      have HM := keep (p := acc ++ ((if want true false then [x] else []) ++ mg want f' xs []) = merged want a b) (by have h := hAcc.out; simp only [mg] at h; exact h)
      simp only [List.length_cons] at hf'
      clear hAcc hF
      go_wp2_with fail
      go_quiet (fail)
      go_wp2_with fail
      go_quiet (fail)
      go_wp2_with fail
      go_quiet (fail)
      go_wp2_with fail
      refine (hFn.out _ _ _).mono ?_
      rintro e w1 ⟨rfl, rfl⟩
      by_cases hw : want true false = true
      · have HA := keep (p := (acc ++ [x]) ++ mg want f' xs [] = merged want a b) (by have h := HM.out; rw [if_pos hw] at h; simpa using h)
        clear HM
        go_wp2_with (refine wpList_push1 el26 rfl rfl _ _ _ rfl rfl rfl w.heap.size _ _ _ _ rfl (fun _ => rfl) (fun _ => rfl) hown rfl (by unfold maxLen; omega) (by omega) hzw ?_; intro g cap w2 hown2 hb2 _ _ _)
        go_roundw
        case rel => exact ⟨xs, [], acc ++ [x], f', by (try simp); omega, HA.out, by (try simp); omega, hsa'.under (undrewN hb2) (fun _ h => h), hsb.under (undrewN hb2) (fun _ h => h), own_snoc (Value.int .i64) acc x hown2, (below_drewN hbw _).trans hb2⟩
        case measure => (simp [lenOf] <;> omega)
      · have hw' : want true false = false := by simpa using hw
        have HA := keep (p := acc ++ mg want f' xs [] = merged want a b) (by have h := HM.out; rw [if_neg hw] at h; simpa using h)
        clear HM hw
        go_wp2_with fail
        go_roundw
        case rel => exact ⟨xs, [], acc, f', by (try simp); omega, HA.out, by (try simp); omega, hsa', hsb, hown, below_drewN hbw _⟩
        case measure => (simp [lenOf] <;> omega)
    | [], y :: ys =>
      simp only [List.length_cons, List.length_nil] at hsa hsb hlen
      obtain ⟨A1, c1, rfl, _, hsa⟩ := hsa.form
      obtain ⟨A2, c2, rfl, _, hsb⟩ := hsb.form
      obtain ⟨b2, o2, u2, rfl, hb2, hx2, hc2⟩ := hsb.at_ (k := 0) (by omega)
      simp at hx2
      rw [Nat.add_zero] at hc2
      subst hx2
      obtain ⟨A4, hcut2, hA4, hsb'⟩ := cut_one el26 hsb
      have d2 : decide ((0 : Int) < (ys.length : Int) + 1) = true := by simp <;> omega
      have i2 : (0 : Int) < (ys.length : Int) + 1 := by omega
      have z2 : (((ys.length : Int) + 1) == 0) = false := by simp; omega
      obtain ⟨f', rfl⟩ : ∃ f', f = f' + 1 := ⟨f - 1, by have := hF.out; simp only [List.length_cons] at this; omega⟩
      have hf' := hF.out
      have HM := keep (p := acc ++ ((if want false true then [y] else []) ++ mg want f' [] ys) = merged want a b) (by have h := hAcc.out; simp only [mg] at h; exact h)
      simp only [List.length_cons] at hf'
      clear hAcc hF
      go_wp2_with fail
      go_quiet (fail)
      go_wp2_with fail
      go_quiet (fail)
      go_wp2_with fail
      go_quiet (fail)
      go_wp2_with fail
      refine (hFn.out _ _ _).mono ?_
      rintro e w1 ⟨rfl, rfl⟩
      by_cases hw : want false true = true
      · have HA := keep (p := (acc ++ [y]) ++ mg want f' [] ys = merged want a b) (by have h := HM.out; rw [if_pos hw] at h; simpa using h)
        clear HM
        go_wp2_with (refine wpList_push1 el26 rfl rfl _ _ _ rfl rfl rfl w.heap.size _ _ _ _ rfl (fun _ => rfl) (fun _ => rfl) hown rfl (by unfold maxLen; omega) (by omega) hzw ?_; intro g cap w2 hown2 hb2 _ _ _)
        go_roundw
        case rel => exact ⟨[], ys, acc ++ [y], f', by (try simp); omega, HA.out, by (try simp); omega, hsa.under (undrewN hb2) (fun _ h => h), hsb'.under (undrewN hb2) (fun _ h => h), own_snoc (Value.int .i64) acc y hown2, (below_drewN hbw _).trans hb2⟩
        case measure => (simp [lenOf] <;> omega)
      · have hw' : want false true = false := by simpa using hw
        have HA := keep (p := acc ++ mg want f' [] ys = merged want a b) (by have h := HM.out; rw [if_neg hw] at h; simpa using h)
        clear HM hw
        go_wp2_with fail
        go_roundw
        case rel => exact ⟨[], ys, acc, f', by (try simp); omega, HA.out, by (try simp); omega, hsa, hsb', hown, below_drewN hbw _⟩
        case measure => (simp [lenOf] <;> omega)
    | x :: xs, y :: ys =>
      simp only [List.length_cons] at hsa hsb hlen
      obtain ⟨A1, c1, rfl, _, hsa⟩ := hsa.form
      obtain ⟨A2, c2, rfl, _, hsb⟩ := hsb.form
      obtain ⟨b1, o1, u1, rfl, hb1, hx1, hc1⟩ := hsa.at_ (k := 0) (by omega)
      simp at hx1
      rw [Nat.add_zero] at hc1
      subst hx1
      obtain ⟨A3, hcut, hA3, hsa'⟩ := cut_one el26 hsa
      have d1 : decide ((0 : Int) < (xs.length : Int) + 1) = true := by simp <;> omega
      have i1 : (0 : Int) < (xs.length : Int) + 1 := by omega
      have z1 : (((xs.length : Int) + 1) == 0) = false := by simp; omega
      obtain ⟨b2, o2, u2, rfl, hb2, hx2, hc2⟩ := hsb.at_ (k := 0) (by omega)
      simp at hx2
      rw [Nat.add_zero] at hc2
      subst hx2
      obtain ⟨A4, hcut2, hA4, hsb'⟩ := cut_one el26 hsb
      have d2 : decide ((0 : Int) < (ys.length : Int) + 1) = true := by simp <;> omega
      have i2 : (0 : Int) < (ys.length : Int) + 1 := by omega
      have z2 : (((ys.length : Int) + 1) == 0) = false := by simp; omega
      by_cases hxy : x < y
      · have e1 : decide (x ≤ y) = true := by simp; omega
        have e2 : decide (y ≤ x) = false := by simp; omega
        obtain ⟨f', rfl⟩ : ∃ f', f = f' + 1 := ⟨f - 1, by have := hF.out; simp only [List.length_cons] at this; omega⟩
        have hf' := hF.out
        have HM := keep (p := acc ++ ((if want true false then [x] else []) ++ mg want f' xs (y :: ys)) = merged want a b) (by have h := hAcc.out; simp only [mg] at h; rw [if_pos hxy] at h; exact h)
        simp only [List.length_cons] at hf'
        clear hAcc hF
        go_wp2_with fail
        go_quiet (fail)
        go_wp2_with fail
        go_quiet (fail)
        go_wp2_with fail
        go_quiet (fail)
        go_wp2_with fail
        refine (hFn.out _ _ _).mono ?_
        rintro e w1 ⟨rfl, rfl⟩
        by_cases hw : want true false = true
        · have HA := keep (p := (acc ++ [x]) ++ mg want f' xs (y :: ys) = merged want a b) (by have h := HM.out; rw [if_pos hw] at h; simpa using h)
          clear HM
          go_wp2_with (refine wpList_push1 el26 rfl rfl _ _ _ rfl rfl rfl w.heap.size _ _ _ _ rfl (fun _ => rfl) (fun _ => rfl) hown rfl (by unfold maxLen; omega) (by omega) hzw ?_; intro g cap w2 hown2 hb2 _ _ _)
          go_roundw
          case rel => exact ⟨xs, (y :: ys), acc ++ [x], f', by (try simp); omega, HA.out, by (try simp); omega, hsa'.under (undrewN hb2) (fun _ h => h), hsb.under (undrewN hb2) (fun _ h => h), own_snoc (Value.int .i64) acc x hown2, (below_drewN hbw _).trans hb2⟩
          case measure => (simp [lenOf] <;> omega)
        · have hw' : want true false = false := by simpa using hw
          have HA := keep (p := acc ++ mg want f' xs (y :: ys) = merged want a b) (by have h := HM.out; rw [if_neg hw] at h; simpa using h)
          clear HM hw
          go_wp2_with fail
          go_roundw
          case rel => exact ⟨xs, (y :: ys), acc, f', by (try simp); omega, HA.out, by (try simp); omega, hsa', hsb, hown, below_drewN hbw _⟩
          case measure => (simp [lenOf] <;> omega)
      · by_cases hyx : y < x
        · have e1 : decide (x ≤ y) = false := by simp; omega
          have e2 : decide (y ≤ x) = true := by simp; omega
          obtain ⟨f', rfl⟩ : ∃ f', f = f' + 1 := ⟨f - 1, by have := hF.out; simp only [List.length_cons] at this; omega⟩
          have hf' := hF.out
          have HM := keep (p := acc ++ ((if want false true then [y] else []) ++ mg want f' (x :: xs) ys) = merged want a b) (by have h := hAcc.out; simp only [mg] at h; rw [if_neg hxy, if_pos hyx] at h; exact h)
          simp only [List.length_cons] at hf'
          clear hAcc hF
          go_wp2_with fail
          go_quiet (fail)
          go_wp2_with fail
          go_quiet (fail)
          go_wp2_with fail
          go_quiet (fail)
          go_wp2_with fail
          refine (hFn.out _ _ _).mono ?_
          rintro e w1 ⟨rfl, rfl⟩
          by_cases hw : want false true = true
          · have HA := keep (p := (acc ++ [y]) ++ mg want f' (x :: xs) ys = merged want a b) (by have h := HM.out; rw [if_pos hw] at h; simpa using h)
            clear HM
            go_wp2_with (refine wpList_push1 el26 rfl rfl _ _ _ rfl rfl rfl w.heap.size _ _ _ _ rfl (fun _ => rfl) (fun _ => rfl) hown rfl (by unfold maxLen; omega) (by omega) hzw ?_; intro g cap w2 hown2 hb2 _ _ _)
            go_roundw
            case rel => exact ⟨(x :: xs), ys, acc ++ [y], f', by (try simp); omega, HA.out, by (try simp); omega, hsa.under (undrewN hb2) (fun _ h => h), hsb'.under (undrewN hb2) (fun _ h => h), own_snoc (Value.int .i64) acc y hown2, (below_drewN hbw _).trans hb2⟩
            case measure => (simp [lenOf] <;> omega)
          · have hw' : want false true = false := by simpa using hw
            have HA := keep (p := acc ++ mg want f' (x :: xs) ys = merged want a b) (by have h := HM.out; rw [if_neg hw] at h; simpa using h)
            clear HM hw
            go_wp2_with fail
            go_roundw
            case rel => exact ⟨(x :: xs), ys, acc, f', by (try simp); omega, HA.out, by (try simp); omega, hsa, hsb', hown, below_drewN hbw _⟩
            case measure => (simp [lenOf] <;> omega)
        · obtain rfl : x = y := by omega
          have e1 : decide (x ≤ x) = true := by simp
          obtain ⟨f', rfl⟩ : ∃ f', f = f' + 1 := ⟨f - 1, by have := hF.out; simp only [List.length_cons] at this; omega⟩
          have hf' := hF.out
          have HM := keep (p := acc ++ ((if want true true then [x] else []) ++ mg want f' xs ys) = merged want a b) (by have h := hAcc.out; simp only [mg] at h; rw [if_neg hxy, if_neg hyx] at h; exact h)
          simp only [List.length_cons] at hf'
          clear hAcc hF
          go_wp2_with fail
          go_quiet (fail)
          go_wp2_with fail
          go_quiet (fail)
          go_wp2_with fail
          go_quiet (fail)
          go_wp2_with fail
          go_quiet (fail)
          go_wp2_with fail
          refine (hFn.out _ _ _).mono ?_
          rintro e w1 ⟨rfl, rfl⟩
          by_cases hw : want true true = true
          · have HA := keep (p := (acc ++ [x]) ++ mg want f' xs ys = merged want a b) (by have h := HM.out; rw [if_pos hw] at h; simpa using h)
            clear HM
            go_wp2_with (refine wpList_push1 el26 rfl rfl _ _ _ rfl rfl rfl w.heap.size _ _ _ _ rfl (fun _ => rfl) (fun _ => rfl) hown rfl (by unfold maxLen; omega) (by omega) hzw ?_; intro g cap w2 hown2 hb2 _ _ _)
            go_roundw
            case rel => exact ⟨xs, ys, acc ++ [x], f', by (try simp); omega, HA.out, by (try simp); omega, hsa'.under (undrewN hb2) (fun _ h => h), hsb'.under (undrewN hb2) (fun _ h => h), own_snoc (Value.int .i64) acc x hown2, (below_drewN hbw _).trans hb2⟩
            case measure => (simp [lenOf] <;> omega)
          · have hw' : want true true = false := by simpa using hw
            have HA := keep (p := acc ++ mg want f' xs ys = merged want a b) (by have h := HM.out; rw [if_neg hw] at h; simpa using h)
            clear HM hw
            go_wp2_with fail
            go_roundw
            case rel => exact ⟨xs, ys, acc, f', by (try simp); omega, HA.out, by (try simp); omega, hsa', hsb', hown, below_drewN hbw _⟩
            case measure => (simp [lenOf] <;> omega)

theorem and1 (x y : Bool) (W : World) : Calls Try.prog 39 #[.bool x, .bool y] W fun e w' => e = .returned (.bool (x && y)) ∧ W = w' := by
  cases x <;> cases y <;> (go_enter Try.func39, Try.ntmps39; go_wp2; go_ret; exact ⟨rfl, rfl⟩)
theorem or1 (x y : Bool) (W : World) : Calls Try.prog 40 #[.bool x, .bool y] W fun e w' => e = .returned (.bool true) ∧ W = w' := by
  go_enter Try.func40, Try.ntmps40
  go_wp2
  go_ret
  exact ⟨rfl, rfl⟩
theorem without1 (x y : Bool) (W : World) : Calls Try.prog 41 #[.bool x, .bool y] W fun e w' => e = .returned (.bool (x && !y)) ∧ W = w' := by
  cases x <;> cases y <;> (go_enter Try.func41, Try.ntmps41; go_wp2; go_ret; exact ⟨rfl, rfl⟩)

/-- A new slice of ints with these elements. -/
def NewInts (w : World) (l : List Int) (e : Ending) (w' : World) : Prop := ∃ v, e = .returned v ∧ w'.ownsRow w.heap.size 3 1 v l.length (l.map (.int .i64)) ∧ Below w.heap.size w w'

section
variable (va vb : Value) (a b : List Int) (w : World) (ha : Sl w (lt w.heap.size) 1 va a.length (a.map (.int .i64))) (hb : Sl w (lt w.heap.size) 1 vb b.length (b.map (.int .i64))) (hl : a.length + b.length ≤ 1000000000)
include ha hb hl
theorem and_any : Calls Try.prog 13 #[va, vb] w (NewInts w (andL a b)) := by
  go_enter Try.func13, Try.ntmps13
  go_wp2_with fail
  refine (merge_any _ 39 (fun _ _ => rfl) and1 _ _ a b _ ha hb hl).mono ?_
  rintro e w1 ⟨v, rfl, hown, hbw⟩
  go_wp2_with fail
  go_ret
  exact ⟨v, rfl, hown, hbw⟩
theorem or_any : Calls Try.prog 14 #[va, vb] w (NewInts w (orL a b)) := by
  go_enter Try.func14, Try.ntmps14
  go_wp2_with fail
  refine (merge_any _ 40 (fun _ _ => rfl) or1 _ _ a b _ ha hb hl).mono ?_
  rintro e w1 ⟨v, rfl, hown, hbw⟩
  go_wp2_with fail
  go_ret
  exact ⟨v, rfl, hown, hbw⟩
theorem without_any : Calls Try.prog 15 #[va, vb] w (NewInts w (withoutL a b)) := by
  go_enter Try.func15, Try.ntmps15
  go_wp2_with fail
  refine (merge_any _ 41 (fun _ _ => rfl) without1 _ _ a b _ ha hb hl).mono ?_
  rintro e w1 ⟨v, rfl, hown, hbw⟩
  go_wp2_with fail
  go_ret
  exact ⟨v, rfl, hown, hbw⟩
end
end Go.Proofs.Ytihimbmbhmgjoaa
