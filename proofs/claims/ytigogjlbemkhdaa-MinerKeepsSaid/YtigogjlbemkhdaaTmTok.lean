/- miner.token: whether a string can be a token of a state; slices.ContainsFunc over strings; miner.Size. -/
import Derived.Test.YtigogjlbemkhdaaTmMineL
import Derived.Test.YtigogjlbemkhdaaTokEq
import Derived.Test.YtigogjlbemkhdaaTmLine
namespace Go.Proofs.Ytigogjlbemkhdaa
open Go.RowKit Go.Lib

def tkR (r : Nat) : Bool := spR r || dgR r
theorem isTk (w : World) : PredAt Try.prog 51 #[] encR tkR w := fun W r _ => by
  unfold FnGives
  by_cases h32 : r = 32
  · subst h32
    go_enter Try.func51, Try.ntmps51
    go_wp2
    go_ret
    exact ⟨rfl, 0, rfl⟩
  · by_cases h9 : r = 9
    · subst h9
      go_enter Try.func51, Try.ntmps51
      go_wp2
      go_ret
      exact ⟨rfl, 0, rfl⟩
    · have e1 : ((r : Int) == 32) = false := by simp; omega
      have e2 : ((r : Int) == 9) = false := by simp; omega
      by_cases h1 : 48 ≤ r <;> by_cases h2 : r ≤ 57
      all_goals
        have e3 : tkR r = (decide (48 ≤ r) && decide (r ≤ 57)) := by simp [tkR, spR, dgR, h32, h9]
        have z1 : (48 : Int) ≤ (r : Int) ↔ 48 ≤ r := by omega
        have z2 : (r : Int) ≤ 57 ↔ r ≤ 57 := by omega
        simp only [h1, h2, decide_true, decide_false, Bool.and_true, Bool.and_false] at e3
        rw [e3]
        clear e3
        go_enter Try.func51, Try.ntmps51
        go_wp2
        all_goals first | (exfalso; omega) | (go_ret; exact ⟨by first | rfl | simp, 0, rfl⟩)
/-- Whether a string can be a token. -/
def okS (s : ByteArray) : Bool := decide (Lib.idxFunc tkR true s < 0)
theorem token_any (s : ByteArray) (w : World) : Calls Try.prog 33 #[.string s] w fun x w' => x = .returned (.bool (okS s)) ∧ Below w.heap.size w w' := by
  have hc := Try.strings_IndexFunc 51 #[] (fun args w => by kernel_rfl) tkR s w (isTk w)
  obtain ⟨n, hn⟩ : ∃ n, Lib.idxFunc tkR true s = n := ⟨_, rfl⟩
  have hv : okS s = decide (n < 0) := by unfold okS; rw [hn]
  rw [hn] at hc
  rw [hv]
  have HC := keep hc
  clear hc hv hn
  go_enter Try.func33, Try.ntmps33
  go_wp2_with fail
  refine HC.out.mono ?_
  rintro e w1 ⟨rfl, hb⟩
  go_wp2_with fail
  go_ret
  exact ⟨by first | rfl | simp, hb⟩
theorem notok_any (s : ByteArray) (w : World) : Calls Try.prog 32 #[.string s] w fun x w' => x = .returned (.bool (!okS s)) ∧ Below w.heap.size w w' := by
  have HC := keep (token_any s w)
  go_enter Try.func32, Try.ntmps32
  go_wp2_with fail
  refine HC.out.mono ?_
  rintro e w1 ⟨rfl, hb⟩
  go_wp2_with fail
  go_ret
  exact ⟨by first | rfl | simp, hb⟩
def FstS (p : ByteArray → Bool) (L : List ByteArray) (r : Int) : Prop := (r = -1 ∧ ∀ t ∈ L, p t = false) ∨ ∃ i : Nat, r = (i : Int) ∧ ∃ h : i < L.length, p L[i] = true ∧ ∀ j, (hj : j < i) → p (L[j]'(by omega)) = false
set_option maxHeartbeats 4000000 in
set_option maxRecDepth 100000 in
theorem indexS_any (g : FuncId) (v : Value) (cb : Array Value) (p : ByteArray → Bool) (L : List ByteArray) (w : World) (eg : ∀ args w, (callFunc g args).run Try.prog w = .ok (.enter g args) w) (hs : Sl w (lt w.heap.size) 1 v L.length (L.map .string))
    (hc : ∀ t ∈ L, ∀ W, Below w.heap.size w W → Calls Try.prog g (#[.string t] ++ cb) W fun e W' => e = .returned (.bool (p t)) ∧ Below W.heap.size W W') (hm : L.length ≤ 1000000) :
    Calls Try.prog 50 #[v, .func (.func g) #[] cb] w fun x w' => ∃ r : Int, x = .returned (.int .i64 r) ∧ FstS p L r ∧ Below w.heap.size w w' := by
  obtain ⟨A, c, rfl, _, hs⟩ := hs.form
  have HC := keep hc
  have HS := keep hs
  clear hc hs
  go_enter Try.func50, Try.ntmps50
  go_wp2_with fail
  go_loopw [5, 8] (fun _ i wr => ∃ k : Nat, k ≤ L.length ∧ i = .int .i64 k ∧ Hid (∀ j, (hj : j < k) → (h : j < L.length) → p L[j] = false) ∧ Hid (Below w.heap.size w wr)) (fun _ i _ => L.length - (intOf i).toNat)
  case atStart => exact ⟨0, Nat.zero_le _, rfl, keep (fun j hj _ => absurd hj (by omega)), keep (Below.refl _ _)⟩
  case round =>
    obtain ⟨k, hk, rfl, hP, hB⟩ := hrel
    obtain ⟨wo, rfl⟩ : ∃ wo : World, wo = wr := ⟨_, rfl⟩
    by_cases hlt : k < L.length
    · obtain ⟨b1, o1, rfl, _, c0⟩ := str_at (HS.out.below hB.out (Nat.le_refl _)) hlt
      have hcl := HC.out _ (List.getElem_mem hlt) wo hB.out
      obtain ⟨t, ht⟩ : ∃ t, L[k] = t := ⟨_, rfl⟩
      rw [ht] at hcl c0
      have HT := keep ht
      have HCL := keep hcl
      clear hcl ht
      have i1 : (k : Int) < (L.length : Int) := by omega
      have i2 : (k : Int) ≤ 1000000 := by omega
      go_wp2_with fail
      refine (HCL.out).mono ?_
      rintro e w1 ⟨rfl, hb1⟩
      have hBn := hB.out.trans (hb1.mono hB.out.size)
      cases hp : p t with
      | true =>
        have HP := keep hp
        clear hp
        go_wp2_with fail
        go_ret
        exact ⟨k, rfl, .inr ⟨k, rfl, hlt, by rw [HT.out]; exact HP.out, fun j hj => hP.out j hj (by omega)⟩, hBn⟩
      | false =>
        have HP := keep hp
        clear hp
        go_wp2_with fail
        go_roundw
        case rel =>
          refine ⟨k + 1, by omega, by go_num, keep (fun j hj h => ?_), keep hBn⟩
          by_cases e : j = k
          · subst e; rw [HT.out]; exact HP.out
          · exact hP.out j (by omega) h
        case measure => simp [intOf]; omega
    · go_wp2_with fail
      go_ret
      exact ⟨-1, rfl, .inl ⟨rfl, fun t ht => by obtain ⟨j, hj, rfl⟩ := List.getElem_of_mem ht; exact hP.out j (by omega) hj⟩, hB.out⟩
theorem fstS_any {p : ByteArray → Bool} {L : List ByteArray} {r : Int} (h : FstS p L r) : decide (0 ≤ r) = L.any p := by
  rcases h with ⟨rfl, h⟩ | ⟨i, rfl, hi, h1, _⟩
  · have : L.any p = false := by rw [List.any_eq_false]; intro x hx; rw [h x hx]; simp
    rw [this]; rfl
  · have : L.any p = true := List.any_eq_true.2 ⟨_, List.getElem_mem hi, h1⟩
    rw [this]; simp
set_option maxHeartbeats 4000000 in
theorem containsS_any (g : FuncId) (v : Value) (cb : Array Value) (p : ByteArray → Bool) (L : List ByteArray) (w : World) (eg : ∀ args w, (callFunc g args).run Try.prog w = .ok (.enter g args) w) (hs : Sl w (lt w.heap.size) 1 v L.length (L.map .string))
    (hc : ∀ t ∈ L, ∀ W, Below w.heap.size w W → Calls Try.prog g (#[.string t] ++ cb) W fun e W' => e = .returned (.bool (p t)) ∧ Below W.heap.size W W') (hm : L.length ≤ 1000000) :
    Calls Try.prog 31 #[v, .func (.func g) #[] cb] w fun e w' => e = .returned (.bool (L.any p)) ∧ Below w.heap.size w w' := by
  have H := keep (indexS_any g v cb p L w eg hs hc hm)
  clear hs hc hm eg
  go_enter Try.func31, Try.ntmps31
  go_wp2_with fail
  refine H.out.mono ?_
  rintro e w1 ⟨r, rfl, hf, hb⟩
  have HF := keep (fstS_any hf)
  clear hf H
  go_wp2_with fail
  go_ret
  exact ⟨by rw [← HF.out]; first | rfl | simp, hb⟩
/-- The tokens of an element, as Check looks at them. -/
theorem tokens_ok (t : Tm) (w : World) (h : TkR w t) : Calls Try.prog 31 #[t.tv, .func (.func 32) #[] #[]] w fun e w' => e = .returned (.bool (t.tk.any fun s => !okS s)) ∧ Below w.heap.size w w' :=
  containsS_any 32 t.tv #[] (fun s => !okS s) t.tk w (enters_of Try.func32 (by kernel_rfl) rfl) h.1.str (fun s _ W _ => notok_any s W) h.2
theorem st_take_sum {L : List Tm} {j : Nat} (h : j < L.length) : sumP (st (L.take (j + 1))) = sumP (st (L.take j)) + L[j].ct := by
  rw [List.take_succ_eq_append_getElem h, st_append, sumP_append]
  simp [st, sumP]
theorem st_take_le {L : List Tm} (hp : Pos (st L)) (j : Nat) : 0 ≤ sumP (st (L.take j)) ∧ sumP (st (L.take j)) ≤ sumP (st L) := by
  have e : sumP (st L) = sumP (st (L.take j)) + sumP (st (L.drop j)) := by rw [← sumP_append, ← st_append, List.take_append_drop]
  have key : ∀ M : List Tm, (∀ t ∈ M, t ∈ L) → 0 ≤ sumP (st M) := fun M hM => by
    have hpM : Pos (st M) := fun t ht => by
      obtain ⟨u, hu, rfl⟩ := List.mem_map.1 ht
      exact hp _ (List.mem_map.2 ⟨u, hM u hu, rfl⟩)
    have := sumP_len hpM
    omega
  have h1 := key (L.take j) fun t ht => List.mem_of_mem_take ht
  have h2 := key (L.drop j) fun t ht => List.mem_of_mem_drop ht
  exact ⟨h1, by omega⟩
/-- Size: the sum of the counts. -/
theorem size_any (v : Value) (L : List Tm) (w : World) (h : MS w v L) (hg : Good (st L) 1000000) : Calls Try.prog 19 #[v] w fun e w' => e = .returned (.int .i64 (sumP (st L))) ∧ Below w.heap.size w w' := by
  obtain ⟨A, c, rfl, _, hs⟩ := h.1.form
  have HS := keep hs
  have HG := keep hg
  have HT := keep h.2
  have hlm := hg.len (by omega)
  clear h hs hg
  go_enter Try.func19, Try.ntmps19
  go_wp2_with fail
  go_loopw [3, 8] (fun u3 i wr => ∃ (k : Nat) (n : Int), k ≤ L.length ∧ i = .int .i64 k ∧ u3 = .int .i64 n ∧ Hid (n = sumP (st (L.take k))) ∧ Hid (Below w.heap.size w wr)) (fun _ i _ => L.length - (intOf i).toNat)
  case atStart => exact ⟨0, 0, Nat.zero_le _, rfl, rfl, keep rfl, keep (Below.refl _ _)⟩
  case round =>
    obtain ⟨k, n, hk, rfl, rfl, hn, hB⟩ := hrel
    obtain ⟨wo, rfl⟩ : ∃ wo : World, wo = wr := ⟨_, rfl⟩
    by_cases hlt : k < L.length
    · obtain ⟨b1, o1, rfl, _, c0, c1⟩ := tm_cells (HS.out.below hB.out (Nat.le_refl _)) hlt
      have hs1 := st_take_sum hlt
      obtain ⟨ct, hct⟩ : ∃ x, x = L[k].ct := ⟨_, rfl⟩
      have hb1 := st_take_le HG.out.p k
      have hb2 := st_take_le HG.out.p (k + 1)
      have hb3 := HG.out.b
      have hc1 : 1 ≤ ct := by rw [hct]; exact HG.out.p _ (List.mem_map.2 ⟨L[k], List.getElem_mem hlt, rfl⟩)
      rw [← hct] at c1 hs1
      rw [← hn.out] at hs1 hb1
      have HS1 := keep hs1
      have HSUM := keep (sum_any n ct (wo.alloc (.cells #[L[k].tv, .int .i64 ct] 49)) (by omega) (by omega) (by omega) (by omega))
      have hB2 := hB.out.trans (((Below.refl wo.heap.size wo).alloc (Nat.le_refl _) (.cells #[L[k].tv, .int .i64 ct] 49)).mono hB.out.size)
      have HB2 := keep hB2
      have i1 : (k : Int) < (L.length : Int) := by omega
      have i2 : (k : Int) ≤ 1000000 := by omega
      clear hs1 hb1 hb2 hb3 hc1 hct hB2
      obtain ⟨ya, yn, yc, hyv⟩ := (HT.out _ (List.getElem_mem hlt)).form
      rw [hyv] at c0 HSUM HB2
      clear hyv
      go_wp2_with fail
      refine HSUM.out.mono ?_
      rintro e w2 ⟨rfl, rfl⟩
      go_wp2_with fail
      go_roundw
      case rel => exact ⟨k + 1, n + ct, by omega, by go_num, rfl, keep HS1.out.symm, HB2⟩
      case measure => simp [intOf]; omega
    · obtain rfl : k = L.length := by omega
      have HN : Hid (n = sumP (st L)) := keep (by have h := hn.out; rwa [List.take_length] at h)
      clear hn
      go_wp2_with fail
      go_ret
      exact ⟨by rw [HN.out]; rfl, hB.out⟩
end Go.Proofs.Ytigogjlbemkhdaa
