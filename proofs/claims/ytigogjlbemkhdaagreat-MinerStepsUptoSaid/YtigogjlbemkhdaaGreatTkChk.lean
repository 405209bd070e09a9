/- miner.token: whether a string can be a token of a state; slices.ContainsFunc over strings; miner.Size. miner.Check: whether a list is a state. -/
import Derived.Test.YtigogjlbemkhdaaGreatTmOf
import Derived.Test.YtigogjlbemkhdaaGreatTokens
import Derived.Test.YtigogjlbemkhdaaGreatTokEq
import Derived.Test.YtigogjlbemkhdaaGreatTmLine
import Derived.StillTailTactics
namespace Go.Proofs.YtigogjlbemkhdaaGreat
open Go.RowKit Go.Lib
variable {oB : Nat}
def tkR (r : Nat) : Bool := spR r || dgR r
theorem isTk (w : World) : PredAt Tryz.prog 62 #[] encR tkR w := fun W r _ => by
  unfold FnGives
  by_cases h32 : r = 32
  · subst h32
    go_enter Tryz.func62, Tryz.ntmps62
    go_wp2
    go_ret
    exact ⟨rfl, 0, rfl⟩
  · by_cases h9 : r = 9
    · subst h9
      go_enter Tryz.func62, Tryz.ntmps62
      go_wp2
      go_ret
      exact ⟨rfl, 0, rfl⟩
    · have e1 : ((r : Int) == 32) = false := by simp; omega
      have e2 : ((r : Int) == 9) = false := by simp; omega
      by_cases h1 : 48 ≤ r <;> by_cases h2 : r ≤ 57
      all_goals
        have e3 : tkR r = (decide (48 ≤ r) && decide (r ≤ 57)) := by simp [tkR, spR, dgR, h32, h9]
        have z1 : (48 : Int) ≤ (r : Int) ↔ 48 ≤ r := by omega
        have z2 : (r : Int) ≤ 57 ↔ r ≤ 57 := by omega
        simp only [h1, h2, decide_true, decide_false, Bool.and_true, Bool.and_false] at e3
        rw [e3]
        clear e3
        go_enter Tryz.func62, Tryz.ntmps62
        go_wp2
        all_goals first | (exfalso; omega) | (go_ret; exact ⟨by first | rfl | simp, 0, rfl⟩)
/-- Whether a string can be a token. -/
def okS (s : ByteArray) : Bool := decide (Lib.idxFunc tkR true s < 0)
theorem token_any (s : ByteArray) (w : World) : Calls Tryz.prog 40 #[.string s] w fun x w' => x = .returned (.bool (okS s)) ∧ Below w.heap.size w w' := by
  have hc := Tryz.strings_IndexFunc 62 #[] (fun args w => by kernel_rfl) tkR s w (isTk w)
  obtain ⟨n, hn⟩ : ∃ n, Lib.idxFunc tkR true s = n := ⟨_, rfl⟩
  have hv : okS s = decide (n < 0) := by unfold okS; rw [hn]
  rw [hn] at hc
  rw [hv]
  have HC := keep hc
  clear hc hv hn
  go_enter Tryz.func40, Tryz.ntmps40
  go_wp2_with fail
  refine HC.out.mono ?_
  rintro e w1 ⟨rfl, hb⟩
  go_wp2_with fail
  go_ret
  exact ⟨by first | rfl | simp, hb⟩
theorem notok_any (s : ByteArray) (w : World) : Calls Tryz.prog 39 #[.string s] w fun x w' => x = .returned (.bool (!okS s)) ∧ Below w.heap.size w w' := by
  have HC := keep (token_any s w)
  go_enter Tryz.func39, Tryz.ntmps39
  go_wp2_with fail
  refine HC.out.mono ?_
  rintro e w1 ⟨rfl, hb⟩
  go_wp2_with fail
  go_ret
  exact ⟨by first | rfl | simp, hb⟩
def FstS (p : ByteArray → Bool) (L : List ByteArray) (r : Int) : Prop := (r = -1 ∧ ∀ t ∈ L, p t = false) ∨ ∃ i : Nat, r = (i : Int) ∧ ∃ h : i < L.length, p L[i] = true ∧ ∀ j, (hj : j < i) → p (L[j]'(by omega)) = false
set_option maxHeartbeats 4000000 in
set_option maxRecDepth 100000 in
theorem indexS_any (g : FuncId) (v : Value) (cb : Array Value) (p : ByteArray → Bool) (L : List ByteArray) (w : World) (eg : ∀ args w, (callFunc g args).run Tryz.prog w = .ok (.enter g args) w) (hs : Sl w (lt w.heap.size) 1 v L.length (L.map .string))
    (hc : ∀ t ∈ L, ∀ W, Below w.heap.size w W → Calls Tryz.prog g (#[.string t] ++ cb) W fun e W' => e = .returned (.bool (p t)) ∧ Below W.heap.size W W') (hm : L.length ≤ 1048576) :
    Calls Tryz.prog 60 #[v, .func (.func g) #[] cb] w fun x w' => ∃ r : Int, x = .returned (.int .i64 r) ∧ FstS p L r ∧ Below w.heap.size w w' := by
  obtain ⟨A, c, rfl, _, hs⟩ := hs.form
  have HC := keep hc
  have HS := keep hs
  clear hc hs
  go_enter Tryz.func60, Tryz.ntmps60
  go_wp2_with fail
  go_loopw [5, 8] (fun _ i wr => ∃ k : Nat, k ≤ L.length ∧ i = .int .i64 k ∧ Hid (∀ j, (hj : j < k) → (h : j < L.length) → p L[j] = false) ∧ Hid (Below w.heap.size w wr)) (fun _ i _ => L.length - (intOf i).toNat)
  case atStart => exact ⟨0, Nat.zero_le _, rfl, keep (fun j hj _ => absurd hj (by omega)), keep (Below.refl _ _)⟩
  case round =>
    obtain ⟨k, hk, rfl, hP, hB⟩ := hrel
    obtain ⟨wo, rfl⟩ : ∃ wo : World, wo = wr := ⟨_, rfl⟩
    by_cases hlt : k < L.length
    · obtain ⟨b1, o1, rfl, _, c0⟩ := str_at (HS.out.below hB.out (Nat.le_refl _)) hlt
      have hcl := HC.out _ (List.getElem_mem hlt) wo hB.out
      obtain ⟨t, ht⟩ : ∃ t, L[k] = t := ⟨_, rfl⟩
      rw [ht] at hcl c0
      have HT := keep ht
      have HCL := keep hcl
      clear hcl ht
      have i1 : (k : Int) < (L.length : Int) := by omega
      have i2 : (k : Int) ≤ 1048576 := by omega
      go_wp2_with fail
      refine (HCL.out).mono ?_
      rintro e w1 ⟨rfl, hb1⟩
      have hBn := hB.out.trans (hb1.mono hB.out.size)
      cases hp : p t with
      | true =>
        have HP := keep hp
        clear hp
        go_wp2_with fail
        go_ret
        exact ⟨k, rfl, .inr ⟨k, rfl, hlt, by rw [HT.out]; exact HP.out, fun j hj => hP.out j hj (by omega)⟩, hBn⟩
      | false =>
        have HP := keep hp
        clear hp
        go_wp2_with fail
        go_roundw
        case rel =>
          refine ⟨k + 1, by omega, by go_num, keep (fun j hj h => ?_), keep hBn⟩
          by_cases e : j = k
          · subst e; rw [HT.out]; exact HP.out
          · exact hP.out j (by omega) h
        case measure => simp [intOf]; omega
    · go_wp2_with fail
      go_ret
      exact ⟨-1, rfl, .inl ⟨rfl, fun t ht => by obtain ⟨j, hj, rfl⟩ := List.getElem_of_mem ht; exact hP.out j (by omega) hj⟩, hB.out⟩
theorem fstS_any {p : ByteArray → Bool} {L : List ByteArray} {r : Int} (h : FstS p L r) : decide (0 ≤ r) = L.any p := by
  rcases h with ⟨rfl, h⟩ | ⟨i, rfl, hi, h1, _⟩
  · have : L.any p = false := by rw [List.any_eq_false]; intro x hx; rw [h x hx]; simp
    rw [this]; rfl
  · have : L.any p = true := List.any_eq_true.2 ⟨_, List.getElem_mem hi, h1⟩
    rw [this]; simp
set_option maxHeartbeats 4000000 in
theorem containsS_any (g : FuncId) (v : Value) (cb : Array Value) (p : ByteArray → Bool) (L : List ByteArray) (w : World) (eg : ∀ args w, (callFunc g args).run Tryz.prog w = .ok (.enter g args) w) (hs : Sl w (lt w.heap.size) 1 v L.length (L.map .string))
    (hc : ∀ t ∈ L, ∀ W, Below w.heap.size w W → Calls Tryz.prog g (#[.string t] ++ cb) W fun e W' => e = .returned (.bool (p t)) ∧ Below W.heap.size W W') (hm : L.length ≤ 1048576) :
    Calls Tryz.prog 38 #[v, .func (.func g) #[] cb] w fun e w' => e = .returned (.bool (L.any p)) ∧ Below w.heap.size w w' := by
  have H := keep (indexS_any g v cb p L w eg hs hc hm)
  clear hs hc hm eg
  go_enter Tryz.func38, Tryz.ntmps38
  go_wp2_with fail
  refine H.out.mono ?_
  rintro e w1 ⟨r, rfl, hf, hb⟩
  have HF := keep (fstS_any hf)
  clear hf H
  go_wp2_with fail
  go_ret
  exact ⟨by rw [← HF.out]; first | rfl | simp, hb⟩
/-- The tokens of an element, as Check looks at them. -/
theorem tokens_ok (t : Tm) (w : World) (h : TkR oB w t) : Calls Tryz.prog 38 #[t.tv, .func (.func 39) #[] #[]] w fun e w' => e = .returned (.bool (t.tk.any fun s => !okS s)) ∧ Below w.heap.size w w' :=
  containsS_any 39 t.tv #[] (fun s => !okS s) t.tk w (enters_of Tryz.func39 (by kernel_rfl) rfl) h.1.str (fun s _ W _ => notok_any s W) h.2
theorem st_take_sum {L : List Tm} {j : Nat} (h : j < L.length) : sumP (st (L.take (j + 1))) = sumP (st (L.take j)) + L[j].ct := by
  rw [List.take_succ_eq_append_getElem h, st_append, sumP_append]
  simp [st, sumP]
theorem st_take_le {L : List Tm} (hp : Pos (st L)) (j : Nat) : 0 ≤ sumP (st (L.take j)) ∧ sumP (st (L.take j)) ≤ sumP (st L) := by
  have e : sumP (st L) = sumP (st (L.take j)) + sumP (st (L.drop j)) := by rw [← sumP_append, ← st_append, List.take_append_drop]
  have key : ∀ M : List Tm, (∀ t ∈ M, t ∈ L) → 0 ≤ sumP (st M) := fun M hM => by
    have hpM : Pos (st M) := fun t ht => by
      obtain ⟨u, hu, rfl⟩ := List.mem_map.1 ht
      exact hp _ (List.mem_map.2 ⟨u, hM u hu, rfl⟩)
    have := sumP_len hpM
    omega
  have h1 := key (L.take j) fun t ht => List.mem_of_mem_take ht
  have h2 := key (L.drop j) fun t ht => List.mem_of_mem_drop ht
  exact ⟨h1, by omega⟩
/-- Size: the sum of the counts. -/
theorem size_any (v : Value) (L : List Tm) (w : World) (h : MS oB w v L) (hg : Good (st L) 1048576) : Calls Tryz.prog 18 #[v] w fun e w' => e = .returned (.int .i64 (sumP (st L))) ∧ Below w.heap.size w w' := by
  obtain ⟨A, c, rfl, _, hs⟩ := h.1.form
  have HS := keep hs
  have HG := keep hg
  have HT := keep h.2
  have hlm := hg.len (by omega)
  clear h hs hg
  go_enter Tryz.func18, Tryz.ntmps18
  go_wp2_with fail
  go_loopw [3, 8] (fun u3 i wr => ∃ (k : Nat) (n : Int), k ≤ L.length ∧ i = .int .i64 k ∧ u3 = .int .i64 n ∧ Hid (n = sumP (st (L.take k))) ∧ Hid (Below w.heap.size w wr)) (fun _ i _ => L.length - (intOf i).toNat)
  case atStart => exact ⟨0, 0, Nat.zero_le _, rfl, rfl, keep rfl, keep (Below.refl _ _)⟩
  case round =>
    obtain ⟨k, n, hk, rfl, rfl, hn, hB⟩ := hrel
    obtain ⟨wo, rfl⟩ : ∃ wo : World, wo = wr := ⟨_, rfl⟩
    by_cases hlt : k < L.length
    · obtain ⟨b1, o1, rfl, _, c0, c1⟩ := tm_cells (HS.out.below hB.out (Nat.le_refl _)) hlt
      have hs1 := st_take_sum hlt
      obtain ⟨ct, hct⟩ : ∃ x, x = L[k].ct := ⟨_, rfl⟩
      have hb1 := st_take_le HG.out.p k
      have hb2 := st_take_le HG.out.p (k + 1)
      have hb3 := HG.out.b
      have hc1 : 1 ≤ ct := by rw [hct]; exact HG.out.p _ (List.mem_map.2 ⟨L[k], List.getElem_mem hlt, rfl⟩)
      rw [← hct] at c1 hs1
      rw [← hn.out] at hs1 hb1
      have HS1 := keep hs1
      have HSUM := keep (sum_any n ct (wo.alloc (.cells #[L[k].tv, .int .i64 ct] 32)) (by omega) (by omega) (by omega) (by omega))
      have hB2 := hB.out.trans (((Below.refl wo.heap.size wo).alloc (Nat.le_refl _) (.cells #[L[k].tv, .int .i64 ct] 32)).mono hB.out.size)
      have HB2 := keep hB2
      have i1 : (k : Int) < (L.length : Int) := by omega
      have i2 : (k : Int) ≤ 1048576 := by omega
      clear hs1 hb1 hb2 hb3 hc1 hct hB2
      obtain ⟨ya, yn, yc, hyv⟩ := (HT.out _ (List.getElem_mem hlt)).form
      rw [hyv] at c0 HSUM HB2
      clear hyv
      go_wp2_with fail
      refine HSUM.out.mono ?_
      rintro e w2 ⟨rfl, rfl⟩
      go_wp2_with fail
      go_roundw
      case rel => exact ⟨k + 1, n + ct, by omega, by go_num, rfl, keep HS1.out.symm, HB2⟩
      case measure => simp [intOf]; omega
    · obtain rfl : k = L.length := by omega
      have HN : Hid (n = sumP (st L)) := keep (by have h := hn.out; rwa [List.take_length] at h)
      clear hn
      go_wp2_with fail
      go_ret
      exact ⟨by rw [HN.out]; rfl, hB.out⟩
end Go.Proofs.YtigogjlbemkhdaaGreat
namespace Go.Proofs.YtigogjlbemkhdaaGreat
open Go.RowKit
variable {oB : Nat}
theorem wpStill_want {P : Program} {ops : Array Oper} {w : World} {Q : Act → Prop} {a : Act} {o : Oper} {rest : List Oper} (hw : Region.wanted o (yielded ops a.tmps) = true) (h : ∀ K : Act → Prop, (∀ a, wpStill P ops w Q rest a → K a) → o.still P a w K) : wpStill P ops w Q (o :: rest) a :=
  wpStill_step fun K hK => by rw [if_pos hw]; exact h K hK
def chkT (t : Tm) : Bool := decide (1 ≤ t.ct) && decide (1 ≤ t.tk.length) && decide (t.tk.length ≤ 60) && !(t.tk.any fun s => !okS s)
/-- What Check asks. -/
def ChkL (L : List Tm) : Prop := (∀ i, (h : i < L.length) → chkT L[i] = true) ∧ ∀ i, (h : i + 1 < L.length) → cmpT (strs (L[i]'(by omega)).tk) (strs L[i + 1].tk) < 0
def ChkP (L : List Tm) (k : Nat) : Prop := (∀ i, (h : i < L.length) → i < k → chkT L[i] = true) ∧ ∀ i, (h : i + 1 < L.length) → i + 1 < k → cmpT (strs (L[i]'(by omega)).tk) (strs L[i + 1].tk) < 0
def ChkOut (L : List Tm) (w : World) (x : Ending) (w' : World) : Prop := ∃ b, x = .returned (.bool b) ∧ (b = true ↔ ChkL L) ∧ Below w.heap.size w w'
theorem chk_no {L : List Tm} {k : Nat} (h : k < L.length) (hc : chkT L[k] = false) : ¬ ChkL L := fun hk => by
  rw [hk.1 k h] at hc
  cases hc
theorem chkP_step {L : List Tm} {k : Nat} (h : k < L.length) (hP : ChkP L k) (hc : chkT L[k] = true) (hs : ∀ j, (hj : j + 1 = k) → cmpT (strs (L[j]'(by omega)).tk) (strs L[k].tk) < 0) : ChkP L (k + 1) := by
  refine ⟨fun i hi hk => ?_, fun i hi hk => ?_⟩
  · by_cases e : i = k
    · subst e; exact hc
    · exact hP.1 i hi (by omega)
  · by_cases e : i + 1 = k
    · subst e
      exact hs i rfl
    · exact hP.2 i hi (by omega)
set_option maxHeartbeats 8000000 in
set_option maxRecDepth 100000 in
theorem check_any (v : Value) (L : List Tm) (w : World) (hs : Sl w (lt w.heap.size) 2 v L.length (tms L)) (hT : ∀ t ∈ L, TkR oB w t) (hm : L.length ≤ 1048576) :
    Calls Tryz.prog 20 #[v] w (ChkOut L w) := by
  obtain ⟨A0, c0, rfl, _, hs⟩ := hs.form
  have HS := keep hs
  have HT := keep hT
  clear hs hT
  go_enter Tryz.func20, Tryz.ntmps20
  go_wp2_with fail
  go_loopw [7] (fun i wr => ∃ k : Nat, k ≤ L.length ∧ i = .int .i64 k ∧ Hid (ChkP L k) ∧ Hid (Below w.heap.size w wr)) (fun i _ => L.length - (intOf i).toNat)
  case atStart => exact ⟨0, Nat.zero_le _, rfl, keep ⟨fun i _ h => absurd h (by omega), fun i _ h => absurd h (by omega)⟩, keep (Below.refl _ _)⟩
  case round =>
    obtain ⟨k, hk, rfl, hP, hB⟩ := hrel
    obtain ⟨wo, rfl⟩ : ∃ wo : World, wo = wr := ⟨_, rfl⟩
    by_cases hlt : k < L.length
    · obtain ⟨b1, o1, rfl, _, d0, d1⟩ := tm_cells (HS.out.below hB.out (Nat.le_refl _)) hlt
      have hT1 := (HT.out _ (List.getElem_mem hlt)).up hB.out
      obtain ⟨ya, yn, yc, hyv⟩ := hT1.form
      obtain ⟨ct, hct⟩ : ∃ x, x = L[k].ct := ⟨_, rfl⟩
      have hyn : yn = L[k].tk.length := by
        have h := hT1.1
        rw [hyv] at h
        obtain ⟨_, _, _, hv, _⟩ := h
        injection hv
      have hyl : yn ≤ 1048576 := by rw [hyn]; exact hT1.2
      rw [hyv] at d0
      rw [← hct] at d1
      have hal : Below wo.heap.size wo (wo.alloc (.cells #[.slice ya yn yc, .int .i64 ct] 32)) := (Below.refl _ wo).alloc (Nat.le_refl _) _
      have hct2 : ∀ t, chkT L[k] = t → chkT L[k] = t := fun _ h => h
      have HTA := keep (tokens_ok L[k] _ (hT1.up hal))
      rw [hyv] at HTA
      have HBa := keep (hB.out.trans (hal.mono hB.out.size))
      have HCK : Hid (chkT L[k] = (decide (1 ≤ ct) && decide (1 ≤ yn) && decide (yn ≤ 60) && !(L[k].tk.any fun s => !okS s))) := keep (by rw [hct, hyn]; rfl)
      have HYV := keep hyv
      have HYN := keep hyn
      have HAL := keep hal
      have HT1 := keep hT1
      have i1 : (k : Int) < (L.length : Int) := by omega
      have i2 : (k : Int) ≤ 1048576 := by omega
      have i3 : (yn : Int) ≤ 1048576 := by omega
      clear hyv hyn hct hT1 hal hct2
      by_cases g1 : ct < 1
      · have HNO := keep (chk_no hlt (by rw [HCK.out]; simp; omega))
        go_wp2_with fail
        go_ret
        exact ⟨false, rfl, by simp [HNO.out], HBa.out⟩
      · by_cases g2 : (yn : Int) < 1
        · have HNO := keep (chk_no hlt (by rw [HCK.out]; simp; omega))
          go_wp2_with fail
          go_ret
          exact ⟨false, rfl, by simp [HNO.out], HBa.out⟩
        · by_cases g3 : (60 : Int) < (yn : Int)
          · have HNO := keep (chk_no hlt (by rw [HCK.out]; simp; omega))
            go_wp2_with fail
            go_ret
            exact ⟨false, rfl, by simp [HNO.out], HBa.out⟩
          · go_wp2_with fail
            refine HTA.out.mono ?_
            rintro e w1 ⟨rfl, hb1⟩
            obtain ⟨bb, hbb⟩ : ∃ bb, (L[k].tk.any fun s => !okS s) = bb := ⟨_, rfl⟩
            rw [hbb] at HCK ⊢
            have hal := HAL.out
            have HX1 := keep ((Blk.new wo 32 #[.slice ya yn yc, .int .i64 ct]).below hb1 (Blk.lt (Blk.new wo 32 #[.slice ya yn yc, .int .i64 ct])))
            have HB1 := keep (HBa.out.trans (hb1.mono HBa.out.size))
            have HU1 := keep (((HT1.out.up hal).up hb1))
            clear hbb hb1 hal HTA d0 d1
            cases bb with
            | true =>
              have HNO := keep (chk_no hlt (by rw [HCK.out]; simp))
              go_wp2_with fail
              go_ret
              exact ⟨false, rfl, by simp [HNO.out], HB1.out⟩
            | false =>
              have HOK : Hid (chkT L[k] = true) := keep (by rw [HCK.out]; simp; omega)
              by_cases hk0 : k = 0
              · subst hk0
                have HP1 := keep (chkP_step hlt hP.out HOK.out (fun j hj => absurd hj (by omega)))
                obtain ⟨e0, e1⟩ := HX1.out.cell2
                go_upto_region 6 with fail
                go_cut [58] (fun q wd => q = .bool false ∧ Hid (Below w1.heap.size w1 wd))
                case first =>
                  go_quiet (fail)
                  go_wp2_with fail
                  go_meet
                  case rel => exact ⟨rfl, keep (below_drewN (Below.refl _ w1) nq)⟩
                case rest =>
                  obtain ⟨rfl, hcb⟩ := hcut
                  have HB2 := keep (HB1.out.trans (hcb.out.mono HB1.out.size))
                  go_wp2_with fail
                  go_roundw
                  case rel => exact ⟨1, by omega, by go_num, HP1, HB2⟩
                  case measure => simp [intOf]; omega
              · obtain ⟨j, hj⟩ : ∃ j, j + 1 = k := ⟨k - 1, by omega⟩
                have hjl : j < L.length := by omega
                obtain ⟨b2, o2, hA2, _, p0, p1⟩ := tm_cells (HS.out.below HB1.out (Nat.le_refl _)) hjl
                injection hA2 with hA2
                injection hA2 with q1 q2
                subst q1
                subst q2
                have hV1 := (HT.out _ (List.getElem_mem hjl)).up HB1.out
                obtain ⟨za, zn, zc, hzv⟩ := hV1.form
                obtain ⟨x, hx⟩ : ∃ x, cmpI (L[j].tk.length : Int) (L[k].tk.length : Int) = x := ⟨_, rfl⟩
                obtain ⟨y, hy⟩ : ∃ y, cmpL (strs L[j].tk) (strs L[k].tk) = y := ⟨_, rfl⟩
                have hzn : zn = L[j].tk.length := by
                  have h := hV1.1
                  rw [hzv] at h
                  obtain ⟨_, _, _, hv, _⟩ := h
                  injection hv
                rw [hzv] at p0
                have hq2 := cmp_strs _ _ L[j].tk L[k].tk w1.drew _ _ hV1.1 HU1.out.1 hV1.2
                rw [hy, hzv, HYV.out] at hq2
                have hr : cmpT (strs L[j].tk) (strs L[k].tk) = orL [x, y] := by
                  rw [orL_two, ← hx, ← hy]
                  unfold cmpT
                  rw [strs_len, strs_len]
                rw [← hzn, ← HYN.out] at hx
                have HQ1 := keep (cmp_intQ _ _ x w1.drew hx)
                have HQ2 := keep hq2
                have HR := keep hr
                have hzl : zn ≤ 1048576 := by rw [hzn]; exact hV1.2
                have hkj : (k : Int) - 1 = (j : Int) := by omega
                have hk1 : (0 : Int) < (k : Int) := by omega
                have hk2 : 0 < k := by omega
                have hjw : IntKind.i64.wrap (j : Int) = (j : Int) := IntWalk.i64_in _ (by omega)
                have hjI : (j : Int) < (L.length : Int) := by omega
                have hjn : (0 : Int) ≤ (j : Int) := by omega
                obtain ⟨e0, e1⟩ := HX1.out.cell2
                have HJ := keep hj
                obtain ⟨m, hm'⟩ : ∃ m, orL [x, y] = m := ⟨_, rfl⟩
                have hsl : Sl (w1.drew.alloc (.cells #[.int .i64 x, .int .i64 y] 3)) (fun b => b = w1.heap.size) 1 (.slice (some ⟨w1.heap.size, 0, none⟩) 2 2) 2 ([x, y].map (.int .i64)) :=
                  ⟨rfl, _, _, rfl, Nat.le_refl _, fun _ => ⟨_, 0, rfl, rfl, fun j u hu => by rw [Nat.zero_add]; exact (Blk.cell (Blk.new w1.drew 3 #[.int .i64 x, .int .i64 y]) j).trans (by simpa using hu)⟩⟩
                have hor := or_int _ [x, y] _ _ hsl (by simp)
                rw [hm'] at hor HR
                have HOR := keep hor
                have hbz : Below w1.heap.size w1 (w1.drew.alloc (.cells #[.int .i64 x, .int .i64 y] 3)) := (Below.refl _ w1).drew.alloc (Nat.le_refl _) _
                have HBZ := keep hbz
                clear hx hy hzv hzn hq2 hr hV1 hj hsl hor hm' hbz
                go_upto_region 6 with fail
                go_cut [58] (fun q wd => q = .bool (decide (0 ≤ m)) ∧ Hid (Below w1.heap.size w1 wd))
                case first =>
                  refine wp_region_still_tail 23 (by kernel_rfl) (by kernel_rfl) ?_
                  simp only [List.take_succ_cons, List.take_zero, List.drop_succ_cons, List.drop_zero]
                  iterate 13 (refine wpStill_want (by kernel_rfl) (fun K hK => ?_); go_simp; apply hK; clear hK K)
                  refine wpStill_want (by kernel_rfl) (fun K hK => ?_)
                  go_simp
                  refine ⟨_, HQ1.out, ?_⟩
                  apply hK
                  clear hK K
                  iterate 8 (refine wpStill_want (by kernel_rfl) (fun K hK => ?_); go_simp; apply hK; clear hK K)
                  refine wpStill_want (by kernel_rfl) (fun K hK => ?_)
                  go_simp
                  refine ⟨_, HQ2.out, ?_⟩
                  apply hK
                  clear hK K
                  refine wpStill_nil ?_
                  change wpList _ _ _ _ _ w1.drew
                  go_wp2_with fail
                  refine HOR.out.mono ?_
                  rintro e w5 ⟨rfl, rfl⟩
                  go_wp2_with fail
                  go_meet
                  case rel => exact ⟨rfl, HBZ⟩
                case rest =>
                  obtain ⟨rfl, hcb⟩ := hcut
                  have HB2 := keep (HB1.out.trans (hcb.out.mono HB1.out.size))
                  by_cases hcmp : m < 0
                  · have hd : decide (0 ≤ m) = false := decide_eq_false (by omega)
                    have HM := keep hcmp
                    clear hcmp
                    rw [hd]
                    have HP1 := keep (chkP_step hlt hP.out HOK.out (fun i hi => by
                      obtain rfl : i = j := by have := HJ.out; omega
                      rw [HR.out]; exact HM.out))
                    go_wp2_with fail
                    go_roundw
                    case rel => exact ⟨k + 1, by omega, by go_num, HP1, HB2⟩
                    case measure => simp [intOf]; omega
                  · have hd : decide (0 ≤ m) = true := decide_eq_true (by omega)
                    have HM := keep hcmp
                    clear hcmp
                    rw [hd]
                    have HNO : Hid (¬ ChkL L) := keep (fun h => by
                      have h1 := h.2 j (by have := HJ.out; omega)
                      have h2 : L[j + 1]'(by have := HJ.out; omega) = L[k] := by
                        have := HJ.out
                        subst this
                        rfl
                      rw [h2, HR.out] at h1
                      exact HM.out h1)
                    go_wp2_with fail
                    go_ret
                    exact ⟨false, rfl, by simp [HNO.out], HB2.out⟩
    · obtain rfl : k = L.length := by omega
      have HY : Hid (ChkL L) := keep ⟨fun i hi => hP.out.1 i hi hi, fun i hi => hP.out.2 i hi hi⟩
      go_wp2_with fail
      go_ret
      exact ⟨true, rfl, by simp [HY.out], hB.out⟩
end Go.Proofs.YtigogjlbemkhdaaGreat
