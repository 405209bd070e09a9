/- The reference's comparisons of tokens. -/
import Derived.Test.YtigogjlbemkhdaaGreatRefTok
import Derived.Test.YtigogjlbemkhdaaGreatTmLine
namespace Go.Proofs.YtigogjlbemkhdaaGreat
open Go.RowKit
variable {oB : Nat}
theorem strs_inj {T S : List ByteArray} (h : strs T = strs S) : T = S := by
  unfold strs at h
  have hf : Function.Injective (fun s : ByteArray => lb s) := fun a b e => lb_inj e
  exact (List.map_inj_right (fun a b e => lb_inj e)).1 h
set_option maxHeartbeats 2000000 in
theorem sameStr_any (v1 v2 : Value) (T S : List ByteArray) (w : World) (h1 : Sl w (lt w.heap.size) 1 v1 T.length (T.map .string)) (h2 : Sl w (lt w.heap.size) 1 v2 S.length (S.map .string)) (hT : T.length ≤ 1048576) :
    Calls Tryz.prog 52 #[v1, v2] w fun e w' => e = .returned (.bool (decide (T = S))) ∧ Below w.heap.size w w' := by
  obtain ⟨A1, c1, rfl, hc1, h1⟩ := h1.form
  obtain ⟨A2, c2, rfl, hc2, h2⟩ := h2.form
  by_cases hl : T.length = S.length
  · have hl' : ((T.length : Int) != (S.length : Int)) = false := by simp [hl]
    obtain ⟨q, hq⟩ : ∃ q, decide (T = S) = q := ⟨_, rfl⟩
    rw [hq]
    have HQ := keep hq
    have HL := keep hl
    clear hq hl
    go_enter Tryz.func52, Tryz.ntmps52
    go_wp2_with fail
    clear hl'
    go_loopw [5] (fun i wr => ∃ k : Nat, k ≤ T.length ∧ i = .int .i64 k ∧ Hid (T.take k = S.take k) ∧ Hid (Below w.heap.size w wr)) (fun i _ => T.length - (intOf i).toNat)
    case atStart => exact ⟨0, Nat.zero_le _, rfl, keep rfl, keep (Below.refl _ _)⟩
    case round =>
      obtain ⟨k, hk, rfl, hI, hB⟩ := hrel
      by_cases hlt : k < T.length
      · have hlt2 : k < S.length := by rw [← HL.out]; exact hlt
        obtain ⟨b, o, rfl, _, c0⟩ := str_at (h1.below hB.out (Nat.le_refl _)) hlt
        obtain ⟨b2, o2, rfl, _, d0⟩ := str_at (h2.below hB.out (Nat.le_refl _)) hlt2
        have hst : T[k] = S[k] → T.take (k + 1) = S.take (k + 1) := fun e => by rw [List.take_succ_eq_append_getElem hlt, List.take_succ_eq_append_getElem hlt2, hI.out, e]
        have hne : T[k] ≠ S[k] → T ≠ S := fun e h => e (by subst h; rfl)
        have hbb := beq_lb T[k] S[k]
        have hinj : lb T[k] = lb S[k] → T[k] = S[k] := lb_inj
        generalize T[k] = t at c0 hst hne hbb hinj
        generalize S[k] = s at d0 hst hne hbb hinj
        have HST := keep hst
        have HNE := keep hne
        have i1 : (k : Int) < (T.length : Int) := by omega
        have i2 : (k : Int) < (S.length : Int) := by omega
        have i3 : (k : Int) ≤ 1048576 := by omega
        clear hst hne
        by_cases he : t = s
        · subst he
          have HM := keep (HST.out rfl)
          clear hbb hinj HST HNE
          go_wp2_with fail
          go_region
          all_goals go_wp2_with fail
          all_goals go_roundw
          case rel => exact ⟨k + 1, by omega, by go_num, HM, keep hB.out.drew⟩
          case measure => simp [intOf]; omega
        · have hq2 : (t.toList == s.toList) = false := by rw [hbb]; exact decide_eq_false fun e => he (hinj e)
          have HM := keep (HNE.out he)
          clear hbb hinj HST HNE he
          go_wp2_with fail
          go_region
          all_goals go_wp2_with fail
          all_goals go_ret
          all_goals exact ⟨ret_bool (by rw [← HQ.out]; exact (decide_eq_false HM.out).symm), hB.out.drew⟩
      · obtain rfl : k = T.length := by omega
        have hz : T = S := by
          have := hI.out
          rw [List.take_length, HL.out, List.take_length] at this
          exact this
        have HZ := keep hz
        clear hz
        go_wp2_with fail
        go_ret
        exact ⟨ret_bool (by rw [← HQ.out]; exact (decide_eq_true HZ.out).symm), hB.out⟩
  · have hl' : ((T.length : Int) != (S.length : Int)) = true := by simp; omega
    rw [show decide (T = S) = false from decide_eq_false fun e => hl (by rw [e])]
    clear hl
    go_enter Tryz.func52, Tryz.ntmps52
    go_wp2_with fail
    go_ret
    exact ⟨rfl, Below.refl _ _⟩
theorem sameTok_any (t u : Tm) (w : World) (h1 : TkR oB w t) (h2 : TkR oB w u) :
    Calls Tryz.prog 31 #[.agg (tmV t).toArray, .agg (tmV u).toArray] w fun e w' => e = .returned (.bool (decide (t.tk = u.tk))) ∧ Below w.heap.size w w' := by
  obtain ⟨A, n, c, hv⟩ := h1.form
  obtain ⟨A2, n2, c2, hv2⟩ := h2.form
  obtain ⟨tv, tk, ct⟩ := t
  obtain ⟨uv, uk, cu⟩ := u
  simp only at hv hv2
  subst hv
  subst hv2
  simp only [tmV]
  have hbA : Below w.heap.size w ((w.alloc (.cells #[.slice A n c, .int .i64 ct] 32)).alloc (.cells #[.slice A2 n2 c2, .int .i64 cu] 32)) := ((Below.refl _ w).alloc (Nat.le_refl _) _).alloc (by simp) _
  have hB1 : Blk ((w.alloc (.cells #[.slice A n c, .int .i64 ct] 32)).alloc (.cells #[.slice A2 n2 c2, .int .i64 cu] 32)) w.heap.size 32 #[.slice A n c, .int .i64 ct] := (Blk.new w _ _).alloc _
  have hB2 : Blk ((w.alloc (.cells #[.slice A n c, .int .i64 ct] 32)).alloc (.cells #[.slice A2 n2 c2, .int .i64 cu] 32)) (w.heap.size + 1) 32 #[.slice A2 n2 c2, .int .i64 cu] := by
    have := Blk.new (w.alloc (.cells #[.slice A n c, .int .i64 ct] 32)) 32 #[.slice A2 n2 c2, .int .i64 cu]
    simpa using this
  have hcall := sameStr_any (.slice A n c) (.slice A2 n2 c2) tk uk _ (h1.1.strUp hbA).str (h2.1.strUp hbA).str h1.2
  have HC := keep hcall
  have HBA := keep hbA
  have HB1 := keep hB1
  have HB2 := keep hB2
  clear hcall hbA hB1 hB2 h1 h2
  go_enter Tryz.func31, Tryz.ntmps31
  go_wp2_with fail
  refine HC.out.mono ?_
  rintro e w1 ⟨rfl, hb1⟩
  go_wp2_with fail
  go_ret
  exact ⟨rfl, bchain HBA.out hb1⟩
theorem refSum_any (a b : Int) (w : World) (ha : 0 ≤ a) (hb : 0 ≤ b) (ha1 : a ≤ 1000000000) (hb1 : b ≤ 1000000000) : Calls Tryz.prog 37 #[.int .i64 a, .int .i64 b] w fun e w' => e = .returned (.int .i64 (a + b)) ∧ w' = w := by
  have h1 : IntKind.i64.wrap (9223372036854775807 - b) = 9223372036854775807 - b := IntWalk.i64_in _ (by omega)
  have h2 : ¬ (9223372036854775807 - b < a) := by omega
  go_enter Tryz.func37, Tryz.ntmps37
  go_wp2_with fail
  go_ret
  exact ⟨rfl, rfl⟩
end Go.Proofs.YtigogjlbemkhdaaGreat
