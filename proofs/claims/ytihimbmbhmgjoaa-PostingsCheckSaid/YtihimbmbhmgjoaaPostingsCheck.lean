/- PostingsCheck: for every slice of ints and every int8 the statement's function returns true, and the arguments read as before. No condition. -/
import Derived.Test.YtihimbmbhmgjoaaLattice
import Derived.Test.YtihimbmbhmgjoaaCheck
import Derived.Test.YtihimbmbhmgjoaaOpen
import Derived.Test.YtihimbmbhmgjoaaLaw
namespace Go.Proofs.Ytihimbmbhmgjoaa.postingsCheck
open Go.ChangeShapes Go.WideShapes Go.ChangeAt Go.RowKit Go.Joins

/-- The first n numbers. -/
def upL (n : Nat) : List Int := (List.range n).map Int.ofNat
theorem upL_len (n : Nat) : (upL n).length = n := by simp [upL]
theorem upL_succ (n : Nat) : upL (n + 1) = upL n ++ [(n : Int)] := by simp [upL, List.range_succ]
theorem check_upL (n : Nat) : checkOf (upL n) = if 4096 < n then 4 else 0 := by
  unfold checkOf
  rw [upL_len]
  by_cases h : 4096 < n
  · simp [h]
  · have h1 : ¬ (upL n).any bad = true := by
      simp [upL, bad]
      omega
    have h2 : Asc (upL n) := by
      unfold Asc upL
      rw [List.pairwise_map]
      exact List.pairwise_lt_range.imp (fun h => by simpa using h)
    rw [if_neg h, if_neg h, if_neg h1, if_pos h2]

set_option maxHeartbeats 1000000 in
theorem walk (v : Value) (l : List Int) (x : Int) (w : World) (hs : Sl w (lt w.heap.size) 1 v l.length (l.map (.int .i64))) (hx0 : -128 ≤ x) (hx1 : x ≤ 127) :
    Calls Try.prog 4 #[v, .int .i8 x] w fun e w' => e = .returned (.bool true) ∧ Below w.heap.size w w' := by
  obtain ⟨A, c, rfl, hc, hs⟩ := hs.form
  go_enter Try.func4, Try.ntmps4
  go_wp2_with fail
  refine (awake_true _).mono ?_
  rintro e w1 ⟨rfl, hb1⟩
  by_cases hlen : 500 < l.length
  · have hd : decide ((500 : Int) < l.length) = true := by simp; omega
    go_wp2_with fail
    go_ret
    exact ⟨rfl, hb1⟩
  have hd : decide ((500 : Int) < l.length) = false := by simp; omega
  have ht1 := Int.tmod_lt_of_pos x (by decide : (0 : Int) < 2)
  have ht2 := Int.lt_tmod_of_pos x (by decide : (0 : Int) < 2)
  obtain ⟨m, hm, hm1, hm2⟩ : ∃ m : Nat, (4096 : Int) + x.tmod 2 = m ∧ 4095 ≤ m ∧ m ≤ 4097 := ⟨(4096 + x.tmod 2).toNat, by omega, by omega, by omega⟩
  go_wp2_with fail
  go_loopw [5, 6] (fun v i wr => ∃ k : Nat, k ≤ m ∧ i = .int .i64 k ∧ wr.ownsRow w.heap.size 3 1 v (upL k).length ((upL k).map (.int .i64)) ∧ Below w.heap.size w wr) (fun _ i _ => m - (intOf i).toNat)
  case atStart => exact ⟨0, Nat.zero_le _, rfl, World.ownsRow_nil _ _ _ _, hb1⟩
  case round =>
    obtain ⟨k, hk, rfl, hown, hb⟩ := hrel
    have hz := hb.size
    rw [upL_len] at hown
    by_cases hlt : k < m
    · have hdk : decide ((k : Int) < m) = true := by simp; omega
      go_wp2_with (refine wpList_push1 el26 rfl rfl _ _ _ rfl rfl rfl w.heap.size _ _ _ _ rfl (fun _ => rfl) (fun _ => rfl) hown rfl (by unfold maxLen; omega) (by omega) hz ?_; intro g cap w6 hown6 hb6 _ _ _)
      go_roundw
      case rel =>
        refine ⟨k + 1, by omega, by go_num, ?_, hb.trans (hb6.mono (by omega))⟩
        rw [upL_len, upL_succ, List.map_append]
        exact hown6
      case measure => simp [intOf]; omega
    · obtain rfl : k = m := by omega
      have hdk : decide ((k : Int) < k) = false := by simp
      have hS := Sl.of_own hown
      obtain ⟨A2, c2, rfl, _, hS⟩ := hS.form
      have hl0 := hs.below hb (Nat.le_refl _)
      have hl1 : Sl wr (lt wr.heap.size) 1 (.slice A l.length c) l.length (l.map (.int .i64)) := hl0.more hz
      have hS : Sl wr (lt wr.heap.size) 1 (.slice A2 k c2) (upL k).length ((upL k).map (.int .i64)) := by rw [upL_len]; exact hS
      have hkm : (upL k).length ≤ maxLen := by rw [upL_len]; unfold maxLen; omega
      have hlm : l.length ≤ maxLen := by unfold maxLen; omega
      clear hown hl0 hs
      go_wp2_with fail
      refine (check_any _ l _ hl1 hlm).mono ?_
      rintro e w2 ⟨rfl, hb2⟩
      go_wp2_with fail
      refine (refCheck_any _ l _ (hl1.up hb2) hlm).mono ?_
      rintro e w3 ⟨rfl, hb3⟩
      have heq : (checkOf l == checkOf l) = true := by simp
      go_wp2_with fail
      refine (check_any _ (upL k) _ ((hS.up hb2).up hb3) hkm).mono ?_
      rintro e w4 ⟨rfl, hb4⟩
      go_wp2_with fail
      refine (refCheck_any _ (upL k) _ (((hS.up hb2).up hb3).up hb4) hkm).mono ?_
      rintro e w5 ⟨rfl, hb5⟩
      have heq2 : (checkOf (upL k) == checkOf (upL k)) = true := by simp
      go_wp2_with fail
      refine (check_any _ (upL k) _ ((((hS.up hb2).up hb3).up hb4).up hb5) hkm).mono ?_
      rintro e w6 ⟨rfl, hb6⟩
      rw [check_upL]
      have hB : Below w.heap.size w w6 := hb.trans ((hb2.trans ((hb3.trans ((hb4.trans ((hb5.trans (hb6.mono hb5.size)).mono hb4.size)).mono hb3.size)).mono hb2.size)).mono hz)
      by_cases h4 : 4096 < k
      · rw [if_pos h4]
        have hd4 : decide ((k : Int) ≤ 4096) = false := by simp; omega
        go_wp2_with fail
        go_ret
        exact ⟨rfl, hB⟩
      · rw [if_neg h4]
        have hd4 : decide ((k : Int) ≤ 4096) = true := by simp; omega
        go_wp2_with fail
        go_ret
        exact ⟨rfl, hB⟩

set_option maxRecDepth 100000 in
theorem lifted (os : Os) (started : os.Started) (H : Type) (enc : TypeId × Value → H) :
    ReturnsInHanded {} Try.checked os 4 .any (Rows.postingsCheckSpec.pre6 enc Try.prog Try.f4 Rows.postingsCheckRow.domain false) (Rows.postingsCheckSpec.post enc Try.prog Try.f4 false true false false) := by
  refine returnsInHanded_of_change (C := Try.checked) knob started (by kernel_rfl) Try.func4
    (ChangeSpec.witness6 (enc := enc) (C := Try.checked) false ⟨#[], #[.slice none 0 0, .int .i8 0], []⟩ 8 (by kernel_rfl) (by kernel_rfl) (by kernel_rfl) (by kernel_rfl)) ?_
  intro W base args ds gs before hval0 hW hcnd _
  have hval : ∀ (j : Nat) t v, Try.f4.params[j]? = some t → args[j]? = some v → Value.okWide Try.prog W .any base t v := hval0
  have hW' := hW
  obtain ⟨p, q, hA0, hV, rfl, hfz, hnd⟩ := hW
  have hA : DataW.TrodAll enc Try.prog W 0 (fun _ => true) true Try.f4.params.toList args.toList ds p := hA0
  rw [Try.params4] at hA hval
  obtain ⟨v0, vs0, d0, ds0, p0, q0, hargs, rfl, rfl, h0, r0⟩ := trodAll_cons hA
  obtain ⟨v1, vs1, d1, ds1, p1, q1, rfl, rfl, rfl, h1, r1⟩ := trodAll_cons r0
  obtain ⟨rfl, rfl, rfl⟩ := trodAll_nil r1
  obtain rfl : args = #[v0, v1] := by cases args; simp_all
  obtain ⟨a0, len0, cap0, rfl⟩ := okWide_slice Try.underlying26 (hval 0 26 v0 rfl rfl)
  obtain ⟨m0, hm0⟩ := h0
  obtain ⟨l, hsl, _, _⟩ := sl_ints Try.underlying26 Try.underlying3 (by kernel_rfl) hm0
  obtain ⟨a1, rfl, rfl, rfl, w1⟩ := open_int Try.underlying30 (hval 1 30 v1 rfl rfl) h1
  have hr : -128 ≤ a1 ∧ a1 ≤ 127 := by simpa [Lit.wf, IntKind.min, IntKind.max, IntKind.signed, IntKind.bits] using w1
  refine (walk _ l a1 W hsl hr.1 hr.2).mono fun e W' ⟨he, hb⟩ => ?_
  subst he
  exact ⟨_, rfl, law_post laidOut (by kernel_rfl) rfl rfl Try.underlying4 hW' rfl hb⟩

theorem proved : Rows.PostingsCheckSaid :=
  OpenClaim.holds_of_wide 4 Try.f4 rfl rfl rfl rfl rfl rfl rfl ⟨rfl, rfl, rfl, rfl, rfl⟩ rfl rfl rfl rfl rfl (by kernel_rfl) Try.func4 (by kernel_rfl)
    (of_decide_eq_true (by kernel_rfl)) (by unfold Func.isWrapper; first | (rw [if_pos (by decide +kernel)]; kernel_rfl) | (rw [if_neg (by decide +kernel)]; exact ⟨rfl, rfl⟩))
    (fun os started H enc _ => lifted os started H enc)

end Go.Proofs.Ytihimbmbhmgjoaa.postingsCheck
