/- TemplateMines: the reference's Text, how long a template's text is. template.Find and Less. TemplateCounts: the reference's Less and Find at any templates. -/
import Derived.Test.YtibljgnajbblaaaR14W
import Derived.Test.YtibljgnajbblaaaRfAll
import Derived.Test.YtibljgnajbblaaaIxTm
import Derived.Test.YtibljgnajbblaaaPartP
import Derived.Laws.EntriesVeiled
namespace Go.Proofs.Ytibljgnajbblaaa
open Go.RowKit
variable {oB : Nat}

def joinP (T : List ByteArray) : List UInt8 := Lib.join ((T.map phB).map (·.data.toList)) [32]
theorem joinP_text (T : List ByteArray) : textB T = ⟨(joinP T).toArray⟩ := rfl
theorem joinP_snoc (T : List ByteArray) (s : ByteArray) : joinP (T ++ [s]) = joinP T ++ (if T = [] then [] else [32]) ++ (phB s).data.toList := by
  unfold joinP
  cases T with
  | nil => simp [Lib.join_nil, Lib.join_one]
  | cons a T =>
    rw [if_neg (by simp)]
    simp only [List.cons_append, List.map_cons, List.map_append, List.map_nil]
    rw [Lib.join_cons, Lib.join_cons]
    unfold Lib.joinTail
    simp
theorem text_of {x : ByteArray} {T : List ByteArray} (h : lb x = joinP T) : x = textB T := by
  rw [joinP_text]
  apply ByteArray.ext
  rw [← h]
theorem lb_append (a b : ByteArray) : lb (a ++ b) = lb a ++ lb b := by
  unfold lb
  rw [ByteArray.data_append, Array.toList_append]
theorem joinP_mono : ∀ (B A : List ByteArray), (joinP A).length ≤ (joinP (A ++ B)).length
  | [], A => by simp
  | b :: B, A => by
    have h1 := joinP_mono B (A ++ [b])
    rw [List.append_assoc, List.singleton_append] at h1
    have h2 := congrArg List.length (joinP_snoc A b)
    rw [List.length_append, List.length_append] at h2
    omega
set_option maxHeartbeats 4000000 in
theorem refText_any (t : Tm) (w : World) (h : TkR oB w t) (hz : (joinP t.tk).length ≤ 140737488355328) :
    Calls Try.prog 15 #[.agg (tmV t).toArray] w fun e w' => e = .returned (.string (textB t.tk)) ∧ Below w.heap.size w w' := by
  obtain ⟨tv, T, ct⟩ := t
  obtain ⟨A, n, c, hv⟩ := h.form
  simp only at hv hz
  subst hv
  have hn : n = T.length := by obtain ⟨_, _, _, hv, _⟩ := h.1; injection hv
  subst hn
  have hTl : T.length ≤ 1000000 := h.2
  obtain ⟨W, hW⟩ : ∃ W, W = w.alloc (.cells #[.slice A T.length c, .int .i64 ct] 33) := ⟨_, rfl⟩
  have hal : Below w.heap.size w W := hW ▸ (Below.refl _ w).alloc (Nat.le_refl _) _
  have hB : Blk W w.heap.size 33 #[.slice A T.length c, .int .i64 ct] := hW ▸ Blk.new w _ _
  have hT := h.up hal
  have HT := keep hT.1.str
  have HAL := keep hal
  have HZ := keep hz
  have HB := keep hB
  have hgl := hB.lt
  have c00 := (hB.cell2).1
  rw [hW] at c00
  simp only [tmV]
  clear h hal hB hT hz
  go_enter Try.func15, Try.ntmps15
  go_wp2_with fail
  rw [← hW]
  clear hW c00
  go_loopw [3, 4] (fun u3 u4 wr => ∃ (k : Nat) (x : ByteArray), k ≤ T.length ∧ u4 = .int .i64 k ∧ u3 = .string x ∧ Hid (lb x = joinP (T.take k)) ∧ Hid (Below W.heap.size W wr)) (fun _ u4 _ => T.length - (intOf u4).toNat)
  case atStart => exact ⟨0, ⟨#[]⟩, Nat.zero_le _, rfl, rfl, keep rfl, keep (Below.refl _ _)⟩
  case round =>
    obtain ⟨k, x, hk, rfl, rfl, hx, hR⟩ := hrel
    obtain ⟨wo, rfl⟩ : ∃ wo : World, wo = wr := ⟨_, rfl⟩
    have c0 : wo.cell? ⟨w.heap.size, 0, none⟩ = some (.slice A T.length c) := ((HB.out.below hR.out hgl).cell2).1
    by_cases hlt : k < T.length
    · obtain ⟨b, o, rfl, _, q0⟩ := str_at (HT.out.below hR.out (Nat.le_refl _)) hlt
      have htake : joinP (T.take (k + 1)) = joinP (T.take k) ++ (if k = 0 then [] else [32]) ++ (phB T[k]).data.toList := by
        rw [List.take_succ_eq_append_getElem hlt, joinP_snoc]
        congr 2
        by_cases e : k = 0
        · subst e; simp
        · rw [if_neg e, if_neg]
          intro h
          have := congrArg List.length h
          rw [List.length_take, List.length_nil] at this
          omega
      obtain ⟨s, hs⟩ : ∃ s, T[k] = s := ⟨_, rfl⟩
      rw [hs] at q0 htake
      rw [← hx.out] at htake
      have hxs : x.size ≤ 140737488355328 := by
        have h1 := joinP_mono (T.drop k) (T.take k)
        rw [List.take_append_drop, ← hx.out] at h1
        exact Nat.le_trans h1 HZ.out
      have hss : s.size ≤ 140737488355328 := by
        have h1 := joinP_mono (T.drop (k + 1)) (T.take (k + 1))
        rw [List.take_append_drop, htake, List.length_append] at h1
        have h2 : s.size ≤ (phB s).data.toList.length := by
          unfold phB
          split
          · rename_i h
            have h0 : lb s = [] := by rw [Lib.toList_data] at h; exact h
            have h3 : (lb s).length = s.size := rfl
            rw [h0] at h3
            rw [← h3]
            exact Nat.zero_le _
          · exact Nat.le_refl _
        exact Nat.le_trans (by omega) HZ.out
      have HTAKE := keep htake
      have i1 : (k : Int) < (T.length : Int) := by omega
      have i2 : (k : Int) ≤ 1000000 := by omega
      clear htake hs
      by_cases hk0 : k = 0
      · have k0 : ¬ 0 < k := by omega
        have kd : decide (0 < k) = false := decide_eq_false k0
        have HK0 := keep hk0
        clear hk0
        cases hq : (s.toList == ([] : List UInt8)) with
        | true =>
          have hp : phB s = ⟨#[60, 42, 62]⟩ := by unfold phB; rw [if_pos (by simpa using hq)]
          have hs0 : lb s = [] := by have h := eq_of_beq hq; rwa [Lib.toList_data] at h
          have HX : Hid (lb (x ++ ⟨#[60, 42, 62]⟩ ++ s) = joinP (T.take (k + 1))) := keep (by
            rw [HTAKE.out, if_pos HK0.out, hp, lb_append, lb_append, hs0]
            simp [lb])
          clear hp hs0
          go_wp2_with fail
          go_roundw
          case rel => exact ⟨k + 1, _, by omega, by go_num, rfl, HX, hR⟩
          case measure => simp [intOf]; omega
        | false =>
          have hp : phB s = s := by unfold phB; rw [if_neg (by simpa using hq)]
          have HX : Hid (lb (x ++ s) = joinP (T.take (k + 1))) := keep (by
            rw [HTAKE.out, if_pos HK0.out, hp, lb_append]
            simp [lb])
          clear hp
          go_wp2_with fail
          go_roundw
          case rel => exact ⟨k + 1, _, by omega, by go_num, rfl, HX, hR⟩
          case measure => simp [intOf]; omega
      · have k0 : 0 < k := by omega
        have kd : decide (0 < k) = true := decide_eq_true k0
        cases hq : (s.toList == ([] : List UInt8)) with
        | true =>
          have hp : phB s = ⟨#[60, 42, 62]⟩ := by unfold phB; rw [if_pos (by simpa using hq)]
          have hs0 : lb s = [] := by have h := eq_of_beq hq; rwa [Lib.toList_data] at h
          have HX : Hid (lb (x ++ ⟨#[32]⟩ ++ ⟨#[60, 42, 62]⟩ ++ s) = joinP (T.take (k + 1))) := keep (by
            rw [HTAKE.out, if_neg hk0, hp, lb_append, lb_append, lb_append, hs0]
            simp [lb])
          clear hp hs0
          go_wp2_with fail
          go_roundw
          case rel => exact ⟨k + 1, _, by omega, by go_num, rfl, HX, hR⟩
          case measure => simp [intOf]; omega
        | false =>
          have hp : phB s = s := by unfold phB; rw [if_neg (by simpa using hq)]
          have HX : Hid (lb (x ++ ⟨#[32]⟩ ++ s) = joinP (T.take (k + 1))) := keep (by
            rw [HTAKE.out, if_neg hk0, hp, lb_append, lb_append])
          clear hp
          go_wp2_with fail
          go_roundw
          case rel => exact ⟨k + 1, _, by omega, by go_num, rfl, HX, hR⟩
          case measure => simp [intOf]; omega
    · obtain rfl : k = T.length := by omega
      have HE : Hid (x = textB T) := keep (text_of (by have h := hx.out; rwa [List.take_length] at h))
      go_wp2_with fail
      go_ret
      exact ⟨by show Ending.returned (Value.string x) = _; rw [HE.out], HAL.out.trans (hR.out.mono HAL.out.size)⟩
theorem sp_len : ∀ (l cur : List UInt8), ∀ w ∈ sp l cur, w.length ≤ l.length + cur.length
  | [], cur, w, hw => by
    unfold sp at hw
    split at hw
    · cases hw
    · rw [List.mem_singleton.1 hw]; simp
  | x :: l, cur, w, hw => by
    unfold sp at hw
    rw [List.length_cons]
    split at hw
    · split at hw
      · have := sp_len l [] w hw
        simp at this
        omega
      · rcases List.mem_cons.1 hw with h | h
        · rw [h]; omega
        · have := sp_len l [] w h
          simp at this
          omega
    · have := sp_len l (cur ++ [x]) w hw
      rw [List.length_append] at this
      simp at this
      omega
theorem tokW_len {l : List UInt8} {U : List (List UInt8)} (h : tokW l = some U) : ∀ u ∈ U, u.length ≤ l.length := by
  intro u hu
  unfold tokW at h
  split at h
  · cases h
  · have hU : (words l).map vrL = U := Option.some.inj h
    subst hU
    obtain ⟨w, hw, rfl⟩ := List.mem_map.1 hu
    have h1 := sp_len l [] w hw
    unfold vrL
    split
    · simp
    · simpa using h1
/-- Where a template's tokens come from. -/
theorem tplF_from (n : Nat) : ∀ (f : Nat) (l : List TP), ∀ r ∈ tplF n f l, ∀ q, tkA q r = [] ∨ ∃ t ∈ l, tkA q t = tkA q r
  | 0, l, r, hr, q => by simp [tplF] at hr
  | f + 1, l, r, hr, q => by
    unfold tplF at hr
    split at hr
    · rw [List.mem_singleton.1 hr]
      unfold mrgA tkA
      simp only
      by_cases hq : q < n
      · have e : ((List.range n).map fun p => mrgT p l).getD q [] = mrgT q l := by simp [hq]
        rw [e]
        unfold mrgT oneW
        split
        · rename_i w hw
          right
          have hm : w ∈ tksA q l := by rw [hw]; simp
          obtain ⟨t, ht, e2⟩ := List.mem_map.1 (mem_dd.1 hm)
          exact ⟨t, ht, e2⟩
        · exact .inl rfl
      · left
        simp [hq]
    · obtain ⟨w, _, h⟩ := List.mem_flatMap.1 hr
      rcases tplF_from n f _ r h q with h2 | ⟨t, ht, e⟩
      · exact .inl h2
      · exact .inr ⟨t, (List.mem_filter.1 ht).1, e⟩
theorem of_from {l : List TP} {r : TP} (hr : r ∈ ofA l) (q : Nat) : tkA q r = [] ∨ ∃ t ∈ l, tkA q t = tkA q r := by
  obtain ⟨n, _, h⟩ := List.mem_flatMap.1 hr
  by_cases h0 : n = 0 ∨ grpA n l = []
  · rw [if_pos h0] at h; cases h
  · rw [if_neg h0] at h
    rcases tplF_from n _ _ r h q with h2 | ⟨t, ht, e⟩
    · exact .inl h2
    · exact .inr ⟨t, (List.mem_filter.1 ht).1, e⟩
theorem of_len {l : List TP} {r : TP} (hr : r ∈ ofA l) : 1 ≤ r.1.length ∧ r.1.length ≤ 60 := by
  obtain ⟨n, hn, h⟩ := List.mem_flatMap.1 hr
  rw [List.mem_range] at hn
  by_cases h0 : n = 0 ∨ grpA n l = []
  · rw [if_pos h0] at h; cases h
  · rw [if_neg h0] at h
    have := (tplF_tok n _ _ (fun e => h0 (.inr e)) r h).1
    have : ¬ n = 0 := fun e => h0 (.inl e)
    omega
theorem ln_tok {S : List ByteArray} {t : TP} (ht : t ∈ lnT S) (q : Nat) {m : Nat} (hS : ∀ s ∈ S, s.size ≤ m) : (tkA q t).length ≤ m := by
  unfold lnT at ht
  obtain ⟨s, hs, e⟩ := List.mem_filterMap.1 ht
  have he := toks_eq s
  cases hto : toks s with
  | none => rw [hto] at e; cases e
  | some W =>
    rw [hto] at e he
    have e' : (strs W, (1 : Int)) = t := Option.some.inj e
    subst e'
    have hw : tokW (lb s) = some (strs W) := he.symm
    unfold tkA
    simp only
    by_cases hq : q < (strs W).length
    · have h1 := tokW_len hw (strs W)[q] (List.getElem_mem hq)
      have h2 : (strs W).getD q [] = (strs W)[q] := by simp [hq]
      rw [h2]
      have h3 : (lb s).length = s.size := rfl
      have := hS s hs
      omega
    · have h2 : (strs W).getD q [] = [] := by simp [hq]
      rw [h2]
      exact Nat.zero_le _
theorem lens_le (m : Nat) : ∀ l : List (List UInt8), (∀ x ∈ l, x.length ≤ m) → Lib.lens l ≤ l.length * m
  | [], _ => by simp [Lib.lens]
  | x :: l, h => by
    have ih := lens_le m l fun y hy => h y (by simp [hy])
    have hx := h x (by simp)
    have e : Lib.lens (x :: l) = x.length + Lib.lens l := by simp [Lib.lens]
    rw [e, List.length_cons, Nat.succ_mul]
    omega
/-- The text of a template of lines that are not too long. -/
theorem text_len {S : List ByteArray} {R : List Tm} (hp : (tpL R).Perm (ofA (lnT S))) (hS : ∀ s ∈ S, s.size ≤ 1048576) {t : Tm} (ht : t ∈ R) : t.tk ≠ [] ∧ t.tk.length ≤ 60 ∧ (Lib.join ((t.tk.map phB).map (·.data.toList)) [32]).length ≤ 140737488355328 := by
  have hr : (strs t.tk, t.ct) ∈ ofA (lnT S) := hp.mem_iff.1 (List.mem_map.2 ⟨t, ht, rfl⟩)
  have hl := of_len hr
  have hl1 : 1 ≤ t.tk.length := by simpa [strs] using hl.1
  have hl2 : t.tk.length ≤ 60 := by simpa [strs] using hl.2
  refine ⟨fun e => by rw [e] at hl1; simp at hl1, hl2, ?_⟩
  have hb : ∀ x ∈ (t.tk.map phB).map (·.data.toList), x.length ≤ 1048579 := by
    intro x hx
    obtain ⟨y, hy, rfl⟩ := List.mem_map.1 hx
    obtain ⟨s, hs, rfl⟩ := List.mem_map.1 hy
    obtain ⟨q, hq, rfl⟩ := List.getElem_of_mem hs
    unfold phB
    split
    · decide
    · have e1 : tkA q (strs t.tk, t.ct) = lb t.tk[q] := tk_get hq
      have h2 : (tkA q (strs t.tk, t.ct)).length ≤ 1048576 := by
        rcases of_from hr q with h | ⟨u, hu, e⟩
        · rw [h]; simp
        · rw [← e]; exact ln_tok hu q hS
      rw [e1] at h2
      have h3 : (t.tk[q].data.toList).length = (lb t.tk[q]).length := rfl
      omega
  obtain ⟨x, r, e⟩ : ∃ x r, (t.tk.map phB).map (·.data.toList) = x :: r := by
    cases h : (t.tk.map phB).map (·.data.toList) with
    | nil => exfalso; have := congrArg List.length h; simp at this; rw [this] at hl1; simp at hl1
    | cons x r => exact ⟨x, r, rfl⟩
  have hlen : (x :: r).length = t.tk.length := by rw [← e]; simp
  rw [e] at hb ⊢
  rw [Lib.join_length]
  have := lens_le 1048579 (x :: r) hb
  rw [hlen] at this
  rw [List.length_cons] at hlen
  simp only [List.length_cons, List.length_nil]
  have h60 : t.tk.length * 1048579 ≤ 60 * 1048579 := Nat.mul_le_mul_right _ hl2
  omega
end Go.Proofs.Ytibljgnajbblaaa
namespace Go.Proofs.Ytibljgnajbblaaa
open Go.RowKit
variable {oB : Nat}

/-- A template's token and a line's. -/
def ef (x y : ByteArray) : Bool := (x.toList == ([] : List UInt8)) || (x.toList == y.toList)
theorem ef_iff {x y : ByteArray} : ef x y = true ↔ lb x = [] ∨ lb x = lb y := by
  unfold ef
  rw [beq_lb, Lib.toList_data, Bool.or_eq_true, beq_iff_eq, decide_eq_true_eq]
def fitN (T U : List ByteArray) (n : Nat) : Bool := decide (T.length = U.length) && (List.range n).all fun q => ef (T.getD q ⟨#[]⟩) (U.getD q ⟨#[]⟩)
def fitB (T U : List ByteArray) : Bool := fitN T U U.length
theorem fitN_zero (T U : List ByteArray) : fitN T U 0 = decide (T.length = U.length) := by simp [fitN]
theorem fitN_succ {T U : List ByteArray} {n : Nat} (h1 : n < T.length) (h2 : n < U.length) : fitN T U (n + 1) = (fitN T U n && ef T[n] U[n]) := by
  unfold fitN
  rw [List.range_succ, List.all_append, Bool.and_assoc]
  simp [h1, h2]
theorem fitN_mono {T U : List ByteArray} {n : Nat} (h : fitN T U n = false) (hn : n ≤ U.length) : fitB T U = false := by
  cases hb : fitB T U with
  | false => rfl
  | true =>
    exfalso
    unfold fitB fitN at hb
    rw [Bool.and_eq_true, List.all_eq_true] at hb
    have : fitN T U n = true := by
      unfold fitN
      rw [Bool.and_eq_true, List.all_eq_true]
      exact ⟨hb.1, fun q hq => hb.2 q (List.mem_range.2 (by have := List.mem_range.1 hq; omega))⟩
    rw [h] at this
    cases this
theorem fitB_fitA (t : Tm) (U : List ByteArray) : fitB t.tk U = fitA (strs t.tk, t.ct) (strs U) := by
  rw [Bool.eq_iff_iff, fitA_iff]
  unfold fitB fitN
  rw [Bool.and_eq_true, decide_eq_true_eq, List.all_eq_true]
  simp only [strs_len, List.mem_range]
  constructor
  · rintro ⟨h1, h2⟩
    refine ⟨h1, fun q hq => ?_⟩
    have h3 := ef_iff.1 (h2 q hq)
    have hq2 : q < t.tk.length := by omega
    simpa [strs, hq, hq2] using h3
  · rintro ⟨h1, h2⟩
    refine ⟨h1, fun q hq => ef_iff.2 ?_⟩
    have h3 := h2 q hq
    have hq2 : q < t.tk.length := by omega
    simpa [strs, hq, hq2] using h3
theorem ef_any (x y : ByteArray) (w : World) : Calls Try.prog 43 #[.string x, .string y] w fun e w' => e = .returned (.bool (ef x y)) ∧ w' = w := by
  cases h1 : (x.toList == ([] : List UInt8)) with
  | true =>
    have e : ef x y = true := by unfold ef; rw [h1]; rfl
    rw [e]
    clear e
    go_enter Try.func43, Try.ntmps43
    go_wp2_with fail
    go_ret
    exact ⟨rfl, rfl⟩
  | false =>
    have e : ef x y = (x.toList == y.toList) := by unfold ef; rw [h1]; rfl
    rw [e]
    clear e
    go_enter Try.func43, Try.ntmps43
    go_wp2_with fail
    go_ret
    exact ⟨by first | rfl | simp, rfl⟩
set_option maxHeartbeats 4000000 in
theorem equalF_any (v1 v2 : Value) (T U : List ByteArray) (w : World) (h1 : Sl w (lt w.heap.size) 1 v1 T.length (T.map .string)) (h2 : Sl w (lt w.heap.size) 1 v2 U.length (U.map .string)) (hT : T.length ≤ 1000000) :
    Calls Try.prog 42 #[v1, v2, .func (.func 43) #[] #[]] w fun e w' => e = .returned (.bool (fitB T U)) ∧ w' = w := by
  obtain ⟨A1, c1, rfl, _, h1⟩ := h1.form
  obtain ⟨A2, c2, rfl, _, h2⟩ := h2.form
  have H1 := keep h1
  have H2 := keep h2
  clear h1 h2
  by_cases hl : T.length = U.length
  · have hbn : ((T.length : Int) != (U.length : Int)) = false := by simp [hl]
    have HL := keep hl
    have hF0 : fitN T U 0 = true := by rw [fitN_zero]; exact decide_eq_true hl
    have HF0 := keep hF0
    clear hl hF0
    go_enter Try.func42, Try.ntmps42
    go_wp2_with fail
    go_loopw [17] (fun i wr => ∃ k : Nat, k ≤ T.length ∧ i = .int .i64 k ∧ Hid (fitN T U k = true) ∧ wr = w) (fun i _ => T.length - (intOf i).toNat)
    case atStart => exact ⟨0, Nat.zero_le _, rfl, HF0, rfl⟩
    case round =>
      obtain ⟨k, hk, rfl, hF, rfl⟩ := hrel
      by_cases hlt : k < T.length
      · have hltU : k < U.length := by have := HL.out; omega
        obtain ⟨b1, o1, rfl, _, q1⟩ := str_at H1.out hlt
        obtain ⟨b2, o2, rfl, _, q2⟩ := str_at H2.out hltU
        have HS := keep (fitN_succ hlt hltU)
        obtain ⟨x, hx⟩ : ∃ x, T[k] = x := ⟨_, rfl⟩
        obtain ⟨y, hy⟩ : ∃ y, U[k] = y := ⟨_, rfl⟩
        rw [hx] at q1 HS
        rw [hy] at q2 HS
        have i1 : (k : Int) < (T.length : Int) := by omega
        have i3 : (k : Int) < (U.length : Int) := by omega
        have i2 : (k : Int) ≤ 1000000 := by omega
        clear hx hy
        go_wp2_with fail
        refine (ef_any x y _).mono ?_
        rintro e w1 ⟨rfl, rfl⟩
        obtain ⟨bb, hbb⟩ : ∃ bb, ef x y = bb := ⟨_, rfl⟩
        rw [hbb] at HS ⊢
        clear hbb
        cases bb with
        | true =>
          have HF1 : Hid (fitN T U (k + 1) = true) := keep (by rw [HS.out, hF.out]; rfl)
          go_wp2_with fail
          go_roundw
          case rel => exact ⟨k + 1, by omega, by go_num, HF1, trivial⟩
          case measure => simp [intOf]; omega
        | false =>
          have HN : Hid (fitB T U = false) := keep (fitN_mono (n := k + 1) (by rw [HS.out]; simp) (by omega))
          go_wp2_with fail
          go_ret
          exact ⟨by rw [HN.out]; rfl, rfl⟩
      · have HY : Hid (fitB T U = true) := keep (by
          have : k = U.length := by have := HL.out; omega
          unfold fitB
          rw [← this]
          exact hF.out)
        go_wp2_with fail
        go_ret
        exact ⟨by rw [HY.out]; rfl, rfl⟩
  · have hbn : ((T.length : Int) != (U.length : Int)) = true := by
      have : ¬ (T.length : Int) = (U.length : Int) := by omega
      simpa using this
    have HN : Hid (fitB T U = false) := keep (by unfold fitB fitN; simp [hl])
    clear hl
    go_enter Try.func42, Try.ntmps42
    go_wp2_with fail
    go_ret
    exact ⟨by rw [HN.out]; rfl, rfl⟩
/-- Find's closure, its box holding the line's tokens. -/
theorem fits_any (t : Tm) (U : List ByteArray) (bx : Nat) (uv : Value) (w : World) (h : TkR oB w t) (hb : Blk w bx 22 #[uv]) (hu : Sl w (lt w.heap.size) 1 uv U.length (U.map .string)) :
    Calls Try.prog 41 #[.agg (tmV t).toArray, .pointer (some ⟨bx, 0, none⟩)] w fun e w' => e = .returned (.bool (fitB t.tk U)) ∧ Below w.heap.size w w' := by
  obtain ⟨tv, T, ct⟩ := t
  obtain ⟨A, n, c, hv⟩ := h.form
  simp only at hv
  subst hv
  obtain ⟨A2, c2, rfl, _, hu⟩ := hu.form
  have hal : Below w.heap.size w (w.alloc (.cells #[.slice A n c, .int .i64 ct] 33)) := (Below.refl _ w).alloc (Nat.le_refl _) _
  have HEQ := keep (equalF_any (.slice A n c) (.slice A2 U.length c2) T U _ (h.1.strUp hal).str (hu.upW hal) h.2)
  have c0 : (w.alloc (.cells #[.slice A n c, .int .i64 ct] 33)).cell? ⟨bx, 0, none⟩ = some (.slice A2 U.length c2) := ((hb.alloc _).cell 0).trans rfl
  have HAL := keep hal
  simp only [tmV]
  clear h hb hu hal
  go_enter Try.func41, Try.ntmps41
  go_wp2_with fail
  refine HEQ.out.mono ?_
  rintro e w1 ⟨rfl, rfl⟩
  go_wp2_with fail
  go_ret
  exact ⟨rfl, HAL.out⟩
def FindOut (L : List Tm) (o : Option (List ByteArray)) (w : World) (x : Ending) (w' : World) : Prop :=
  ∃ (k : Nat) (ok : Bool), x = .returned (.tuple #[.int .i64 k, .bool ok]) ∧ Below w.heap.size w w' ∧ (ok = false → k = 0) ∧ match o with
    | none => ok = false
    | some U => (ok = false ∧ ∀ t ∈ L, fitB t.tk U = false) ∨ (ok = true ∧ ∃ h : k < L.length, fitB L[k].tk U = true ∧ ∀ j, (hj : j < k) → fitB (L[j]'(by omega)).tk U = false)
set_option maxHeartbeats 4000000 in
theorem pfind_any (v : Value) (L : List Tm) (s : ByteArray) (w : World) (h : MS oB w v L) (hs : s.size ≤ 4294967296) (hm : L.length ≤ 1000000) : Calls Try.prog 25 #[v, .string s] w (FindOut L (toks s) w) := by
  have HTK := keep (tokens_any s w hs)
  obtain ⟨A, c, rfl, _, _⟩ := h.1.form
  have H := keep h
  generalize toks s = o at HTK
  clear h
  go_enter Try.func25, Try.ntmps25
  go_wp2_with fail
  refine HTK.out.mono ?_
  rintro e w1 ⟨tv, U, rfl, hU, hU6, hown, hb1⟩
  obtain ⟨A2, c2, rfl, _⟩ := own_sl hown
  have HO := keep hown
  have HB1 := keep hb1
  clear hown hb1 HTK
  cases o with
  | none =>
    clear hU
    simp only [Option.isSome]
    go_wp2_with fail
    go_ret2
    exact ⟨0, false, rfl, (HB1.out).alloc HB1.out.size _, fun _ => rfl, rfl⟩
  | some U' =>
    obtain rfl : U = U' := hU
    simp only [Option.isSome]
    obtain ⟨W, hW⟩ : ∃ W, W = w1.alloc (.cells #[.slice A2 U.length c2] 22) := ⟨_, rfl⟩
    have hbx : Blk W w1.heap.size 22 #[.slice A2 U.length c2] := hW ▸ Blk.new w1 _ _
    have hbW : Below w1.heap.size w1 W := hW ▸ (Below.refl _ w1).alloc (Nat.le_refl _) _
    have huW := (own_str (oB := 0) (own_bel HO.out hbW)).str
    have hMW := (H.out.up HB1.out).up hbW
    have HIX := keep (index_tm 41 (.slice A L.length c) #[.pointer (some ⟨w1.heap.size, 0, none⟩)] (fun t => fitB t.tk U) L W (enters_of Try.func41 (by kernel_rfl) rfl) hMW.1
      (fun t ht W' hb' => fits_any t U w1.heap.size (.slice A2 U.length c2) W' ((hMW.2 t ht).up hb') (hbx.below hb' hbx.lt) (huW.upW hb')) hm)
    have HBW := keep (HB1.out.trans (hbW.mono HB1.out.size))
    have HW := keep hW
    clear hbx hbW huW hMW hW
    go_wp2_with fail
    rw [← HW.out]
    refine HIX.out.mono ?_
    rintro e w2 ⟨r, rfl, hf, hb2⟩
    have HB2 := keep (HBW.out.trans (hb2.mono HBW.out.size))
    clear hb2
    rcases hf with ⟨rfl, hno⟩ | ⟨i, rfl, hi, h1, h2⟩
    · have HNO := keep hno
      clear hno
      go_wp2_with fail
      go_ret2
      exact ⟨0, false, rfl, HB2.out, fun _ => rfl, .inl ⟨rfl, HNO.out⟩⟩
    · have H1 := keep h1
      have H2 := keep h2
      clear h1 h2
      have hi0 : (0 : Int) ≤ (i : Int) := by omega
      go_wp2_with fail
      go_ret2
      exact ⟨i, true, rfl, HB2.out, (fun h => by cases h), .inr ⟨rfl, hi, H1.out, H2.out⟩⟩
theorem pless_any (t u : Tm) (w : World) (h1 : TkR oB w t) (h2 : TkR oB w u) : Calls Try.prog 22 #[.agg (tmV t).toArray, .agg (tmV u).toArray] w fun e w' => e = .returned (.bool (decide (cmpO t u < 0))) ∧ Below w.heap.size w w' := by
  obtain ⟨A1, n1, c1, hv1⟩ := h1.form
  obtain ⟨A2, n2, c2, hv2⟩ := h2.form
  obtain ⟨tv, T, ct⟩ := t
  obtain ⟨uv, U, cu⟩ := u
  simp only at hv1 hv2
  subst hv1
  subst hv2
  obtain ⟨W, hW⟩ : ∃ W, W = (w.alloc (.cells #[.slice A1 n1 c1, .int .i64 ct] 33)).alloc (.cells #[.slice A2 n2 c2, .int .i64 cu] 33) := ⟨_, rfl⟩
  have hbW : Below w.heap.size w W := hW ▸ ((Below.refl _ w).alloc (Nat.le_refl _) _).alloc (by simp) _
  have HC := keep (compare_any ⟨.slice A1 n1 c1, T, ct⟩ ⟨.slice A2 n2 c2, U, cu⟩ W (h1.up hbW) (h2.up hbW))
  obtain ⟨z, hz⟩ : ∃ z, cmpO ⟨.slice A1 n1 c1, T, ct⟩ ⟨.slice A2 n2 c2, U, cu⟩ = z := ⟨_, rfl⟩
  rw [hz] at HC ⊢
  have HBW := keep hbW
  have HW := keep hW
  simp only [tmV] at HC ⊢
  clear h1 h2 hbW hW hz
  go_enter Try.func22, Try.ntmps22
  go_wp2_with fail
  rw [← HW.out]
  refine HC.out.mono ?_
  rintro e w1 ⟨rfl, q, os, rfl⟩
  go_wp2_with fail
  go_ret
  exact ⟨rfl, HBW.out.trans ⟨rfl, rfl, rfl, by simp [Go.Sort.grow], fun i hi => by
    have : (Go.Sort.grow (W.drewN q) os).heap[i]? = W.heap[i]? := Go.Sort.heap_grow_old _ _ (by have := HBW.out.size; simp; omega)
    exact this⟩⟩
end Go.Proofs.Ytibljgnajbblaaa
namespace Go.Proofs.Ytibljgnajbblaaa
open Go.RowKit
variable {oB : Nat}

/-- The order of templates with the same tokens. -/
theorem toks_same (s : ByteArray) : (toks s).isSome = (tokW (lb s)).isSome ∧ ∀ T : List ByteArray, strs T = (tokW (lb s)).getD [] → T = (toks s).getD [] := by
  have h := toks_eq s
  rw [← h]
  refine ⟨by cases toks s <;> rfl, fun T hT => strs_inj (hT.trans ?_)⟩
  cases toks s <;> rfl
set_option maxHeartbeats 4000000 in
set_option maxRecDepth 100000 in
theorem rless_eq (t u : Tm) (w : World) (h1 : TkR oB w t) (h2 : TkR oB w u) (he : t.tk = u.tk) :
    Calls Try.prog 23 #[.agg (tmV t).toArray, .agg (tmV u).toArray] w fun e w' => e = .returned (.bool (decide (t.ct < u.ct))) ∧ Below w.heap.size w w' := by
  obtain ⟨A, n, c, hv⟩ := h1.form
  obtain ⟨A2, n2, c2, hv2⟩ := h2.form
  obtain ⟨tv, tk, ct⟩ := t
  obtain ⟨uv, uk, cu⟩ := u
  simp only at hv hv2 he
  subst hv
  subst hv2
  subst he
  have hl1 := h1.2
  obtain rfl : n = tk.length := by obtain ⟨_, _, _, hv, _⟩ := h1.1; injection hv
  obtain rfl : n2 = tk.length := by obtain ⟨_, _, _, hv, _⟩ := h2.1; injection hv
  simp only at hl1
  simp only [tmV]
  have hbA : Below w.heap.size w ((w.alloc (.cells #[.slice A tk.length c, .int .i64 ct] 33)).alloc (.cells #[.slice A2 tk.length c2, .int .i64 cu] 33)) := ((Below.refl _ w).alloc (Nat.le_refl _) _).alloc (by simp) _
  have hB1 : Blk ((w.alloc (.cells #[.slice A tk.length c, .int .i64 ct] 33)).alloc (.cells #[.slice A2 tk.length c2, .int .i64 cu] 33)) w.heap.size 33 #[.slice A tk.length c, .int .i64 ct] := (Blk.new w _ _).alloc _
  have hB2 : Blk ((w.alloc (.cells #[.slice A tk.length c, .int .i64 ct] 33)).alloc (.cells #[.slice A2 tk.length c2, .int .i64 cu] 33)) (w.heap.size + 1) 33 #[.slice A2 tk.length c2, .int .i64 cu] := by
    have := Blk.new (w.alloc (.cells #[.slice A tk.length c, .int .i64 ct] 33)) 33 #[.slice A2 tk.length c2, .int .i64 cu]
    simpa using this
  have hs1 := (h1.1.strUp hbA).str
  have hs2 := (h2.1.strUp hbA).str
  simp only at hs1 hs2
  obtain ⟨w1, hw1⟩ : ∃ w1, w1 = (w.alloc (.cells #[.slice A tk.length c, .int .i64 ct] 33)).alloc (.cells #[.slice A2 tk.length c2, .int .i64 cu] 33) := ⟨_, rfl⟩
  rw [← hw1] at hbA hB1 hB2 hs1 hs2
  obtain ⟨q, hq⟩ : ∃ q, decide (ct < cu) = q := ⟨_, rfl⟩
  rw [hq]
  have l1 := hB1.lt
  have l2 := hB2.lt
  have HW := keep hw1
  have HB := keep hbA
  have HQ := keep hq
  clear h1 h2 hw1 hbA hq
  have hl' : ((tk.length : Int) != (tk.length : Int)) = false := by simp
  have c0 : w1.cell? ⟨w.heap.size, 0, none⟩ = some (.slice A tk.length c) := (hB1.cell 0).trans rfl
  have d0 : w1.cell? ⟨w.heap.size + 1, 0, none⟩ = some (.slice A2 tk.length c2) := (hB2.cell 0).trans rfl
  have c00 := c0
  rw [HW.out] at c0 d0
  go_enter Try.func23, Try.ntmps23
  go_wp2_with fail
  rw [← HW.out]
  clear hl' c0 d0 c00
  go_loopw [5] (fun i wr => ∃ k : Nat, k ≤ tk.length ∧ i = .int .i64 k ∧ Hid (Below w1.heap.size w1 wr)) (fun i _ => tk.length - (intOf i).toNat)
  case atStart => exact ⟨0, Nat.zero_le _, rfl, keep (Below.refl _ _)⟩
  case round =>
    obtain ⟨k, hk, rfl, hR⟩ := hrel
    obtain ⟨wo, rfl⟩ : ∃ wo : World, wo = wr := ⟨_, rfl⟩
    have c0 : wo.cell? ⟨w.heap.size, 0, none⟩ = some (.slice A tk.length c) := ((hB1.below hR.out l1).cell 0).trans rfl
    have d0 : wo.cell? ⟨w.heap.size + 1, 0, none⟩ = some (.slice A2 tk.length c2) := ((hB2.below hR.out l2).cell 0).trans rfl
    by_cases hlt : k < tk.length
    · obtain ⟨b, o, rfl, _, c1⟩ := str_at (hs1.below hR.out (Nat.le_refl _)) hlt
      obtain ⟨b2, o2, rfl, _, d1⟩ := str_at (hs2.below hR.out (Nat.le_refl _)) hlt
      generalize tk[k] = x at c1 d1
      have hxx : (x.toList != x.toList) = false := by simp [bne]
      have i1 : (k : Int) < (tk.length : Int) := by omega
      have i3 : (k : Int) ≤ 1000000 := by omega
      go_wp2_with fail
      go_region
      all_goals go_wp2_with fail
      all_goals go_roundw
      case rel => exact ⟨k + 1, by omega, by go_num, keep hR.out.drew⟩
      case measure => simp [intOf]; omega
    · obtain rfl : k = tk.length := by omega
      have c1 : wo.cell? ⟨w.heap.size, 1, none⟩ = some (.int .i64 ct) := ((hB1.below hR.out l1).cell 1).trans rfl
      have d1 : wo.cell? ⟨w.heap.size + 1, 1, none⟩ = some (.int .i64 cu) := ((hB2.below hR.out l2).cell 1).trans rfl
      go_wp2_with fail
      go_ret
      exact ⟨ret_bool HQ.out, HB.out.trans (hR.out.mono HB.out.size)⟩
theorem rless_any (t u : Tm) (w : World) (h1 : TkR oB w t) (h2 : TkR oB w u) :
    Calls Try.prog 23 #[.agg (tmV t).toArray, .agg (tmV u).toArray] w fun e w' => e = .returned (.bool (decide (cmpO t u < 0))) ∧ Below w.heap.size w w' := by
  by_cases he : t.tk = u.tk
  · have e : decide (cmpO t u < 0) = decide (t.ct < u.ct) := by
      rw [cmpO_cmpT, if_pos (cmpT_eq.2 (by rw [he]))]
      simp [cmpI_lt]
    rw [e]
    exact rless_eq t u w h1 h2 he
  · have e : decide (cmpO t u < 0) = decide (cmpT (strs t.tk) (strs u.tk) < 0) := by
      rw [cmpO_cmpT, if_neg (fun h => he (strs_inj (cmpT_eq.1 h)))]
    rw [e]
    exact less_any t u w h1 h2 he
set_option maxHeartbeats 4000000 in
set_option maxRecDepth 100000 in
theorem rfind_any (v : Value) (L : List Tm) (s : ByteArray) (w : World) (h : MS oB w v L) (hs : s.size ≤ 4294967296) (hm : L.length ≤ 1000000) : Calls Try.prog 26 #[v, .string s] w (FindOut L (toks s) w) := by
  have HTK := keep (refTok_any s w hs)
  have HTS := keep (toks_same s).2
  obtain ⟨q, hq⟩ : ∃ q, (tokW (lb s)).isSome = q := ⟨_, rfl⟩
  have hq' := (toks_same s).1.trans hq
  obtain ⟨A, c, rfl, _, _⟩ := h.1.form
  have H := keep h
  clear h
  go_enter Try.func26, Try.ntmps26
  go_wp2_with fail
  refine HTK.out.mono ?_
  rintro e w1 ⟨tv, U, rfl, hU, hU6, hown, hb1⟩
  rw [hq]
  obtain ⟨A2, c2, rfl, _⟩ := own_sl hown
  have HO := keep (Sl.of_own hown)
  have HB1 := keep hb1
  have HUT := keep (HTS.out U hU)
  have HQ := keep hq'
  clear hown hb1 HTK hU HTS hq hq'
  cases q with
  | false =>
    go_wp2_with fail
    go_ret2
    refine ⟨0, false, rfl, HB1.out, fun _ => rfl, ?_⟩
    have := HQ.out
    cases ht : toks s with
    | none => rfl
    | some x => rw [ht] at this; cases this
  | true =>
    have HTO : Hid (toks s = some U) := keep (by
      have h1 := HQ.out
      have h2 := HUT.out
      cases ht : toks s with
      | none => rw [ht] at h1; cases h1
      | some x => rw [ht] at h2; rw [h2]; rfl)
    clear HQ HUT
    go_wp2_with fail
    go_loopw [8, 9, 10] (fun u8 _ _ wr => ∃ i : Nat, i ≤ L.length ∧ u8 = .int .i64 i ∧ Hid (∀ j, (hj : j < L.length) → j < i → fitB L[j].tk U = false) ∧ Hid (Below w1.heap.size w1 wr)) (fun u8 _ _ _ => L.length - (intOf u8).toNat)
    case atStart => exact ⟨0, Nat.zero_le _, rfl, keep (fun j _ h => absurd h (by omega)), keep (Below.refl _ _)⟩
    case round =>
      obtain ⟨i, hi, rfl, hno, hB⟩ := hrel
      obtain ⟨wo, rfl⟩ : ∃ wo : World, wo = wr := ⟨_, rfl⟩
      have HBo := keep (HB1.out.trans (hB.out.mono HB1.out.size))
      have HMo := keep (H.out.up HBo.out)
      by_cases hlt : i < L.length
      · obtain ⟨b1, o1, rfl, hbl1, d0, _⟩ := tm_cells HMo.out.1 hlt
        have htr := HMo.out.2 _ (List.getElem_mem hlt)
        obtain ⟨t, ht⟩ : ∃ t, L[i] = t := ⟨_, rfl⟩
        rw [ht] at d0 htr
        obtain ⟨tv, T, ct⟩ := t
        simp only at d0
        obtain ⟨ya, yn, yc, hyv⟩ := htr.form
        simp only at hyv
        subst hyv
        have hyn : yn = T.length := by obtain ⟨_, _, _, hv, _⟩ := htr.1; injection hv
        subst hyn
        have HLT : Hid (L[i].tk = T) := keep (by rw [ht])
        have HTR := keep htr.1.str
        have htl := htr.2
        simp only at htl
        have i1 : (i : Int) < (L.length : Int) := by omega
        have i2 : (i : Int) ≤ 1000000 := by omega
        have hf0 : ((T.length : Int) == (U.length : Int)) = fitN T U 0 := by
          rw [fitN_zero, Bool.eq_iff_iff, beq_iff_eq, decide_eq_true_iff]
          omega
        have HF0 := keep hf0
        clear ht htr hf0
        go_wp2_with fail
        go_loopw [9, 10] (fun u9 u10 wr => ∃ (k : Nat) (b : Bool), k ≤ U.length ∧ u10 = .int .i64 k ∧ u9 = .bool b ∧ Hid (b = fitN T U k) ∧ Hid (Below wo.heap.size wo wr)) (fun _ u10 _ => U.length - (intOf u10).toNat)
        case atStart => exact ⟨0, _, Nat.zero_le _, rfl, rfl, HF0, keep (Below.refl _ _)⟩
        case round =>
          obtain ⟨k, b, hk, rfl, rfl, hb, hBk⟩ := hrel
          obtain ⟨wp, rfl⟩ : ∃ wp : World, wp = wr := ⟨_, rfl⟩
          have e0 : wp.cell? ⟨b1, o1 + i * 2, none⟩ = some (.slice ya T.length yc) := (hBk.out.cell hbl1).trans d0
          have HBp := keep (hB.out.trans (hBk.out.mono hB.out.size))
          cases b with
          | false =>
            have HNO : Hid (∀ j, (hj : j < L.length) → j < i + 1 → fitB L[j].tk U = false) := keep (fun j hj hji => by
              by_cases e : j = i
              · subst e
                rw [HLT.out]
                exact fitN_mono hb.out.symm hk
              · exact hno.out j hj (by omega))
            go_wp2_with fail
            go_roundw
            case rel => exact ⟨i + 1, by omega, by go_num, HNO, HBp⟩
            case measure => simp [intOf]; omega
          | true =>
            by_cases hkl : k < U.length
            · have hTU : T.length = U.length := by
                have h := hb.out.symm
                unfold fitN at h
                simp only [Bool.and_eq_true, decide_eq_true_eq] at h
                exact h.1
              have hkT : k < T.length := by omega
              obtain ⟨b2, o2, rfl, _, q0⟩ := str_at (HTR.out.upW hBk.out) hkT
              obtain ⟨b3, o3, rfl, _, q1⟩ := str_at (HO.out.upW HBp.out) hkl
              have hs := fitN_succ hkT hkl
              rw [← hb.out, Bool.true_and] at hs
              obtain ⟨x, hx⟩ : ∃ x, T[k] = x := ⟨_, rfl⟩
              obtain ⟨y, hy⟩ : ∃ y, U[k] = y := ⟨_, rfl⟩
              rw [hx] at q0 hs
              rw [hy] at q1 hs
              have HS := keep hs
              have k1 : (k : Int) < (U.length : Int) := by omega
              have k2 : (k : Int) < (T.length : Int) := by omega
              have k3 : (k : Int) ≤ 60 := by omega
              clear hs hx hy hTU
              cases hq : (x.toList == ([] : List UInt8)) with
              | true =>
                have HS2 : Hid (true = fitN T U (k + 1)) := keep (by rw [HS.out]; unfold ef; rw [hq]; rfl)
                go_wp2_with fail
                go_quiet (fail)
                go_wp2_with fail
                go_roundw
                case rel => exact ⟨k + 1, true, by omega, by go_num, rfl, HS2, keep (below_drewN hBk.out nq)⟩
                case measure => simp [intOf]; omega
              | false =>
                have HS2 : Hid ((x.toList == y.toList) = fitN T U (k + 1)) := keep (by rw [HS.out]; unfold ef; rw [hq]; rfl)
                go_wp2_with fail
                go_quiet (fail)
                go_wp2_with fail
                go_roundw
                case rel => exact ⟨k + 1, _, by omega, by go_num, rfl, HS2, keep (below_drewN hBk.out nq)⟩
                case measure => simp [intOf]; omega
            · obtain rfl : k = U.length := by omega
              have HFT : Hid (fitB L[i].tk U = true) := keep (by rw [HLT.out]; exact hb.out.symm)
              have HBf := keep (HB1.out.trans (HBp.out.mono HB1.out.size))
              go_wp2_with fail
              go_ret2
              exact ⟨i, true, rfl, HBf.out, (fun h => by cases h), by rw [HTO.out]; exact .inr ⟨rfl, hlt, HFT.out, fun j hj => hno.out j (by omega) hj⟩⟩
      · obtain rfl : i = L.length := by omega
        go_wp2_with fail
        go_ret2
        have HALL : Hid (∀ t ∈ L, fitB t.tk U = false) := keep (fun t ht => by
          obtain ⟨j, hj, rfl⟩ := List.getElem_of_mem ht
          exact hno.out j hj hj)
        exact ⟨0, false, rfl, HBo.out, fun _ => rfl, by rw [HTO.out]; exact .inl ⟨rfl, HALL.out⟩⟩
def FndM (L : List Tm) (o : Option (List ByteArray)) (k : Nat) (ok : Bool) : Prop := match o with
  | none => ok = false
  | some U => (ok = false ∧ ∀ t ∈ L, fitB t.tk U = false) ∨ (ok = true ∧ ∃ h : k < L.length, fitB L[k].tk U = true ∧ ∀ j, (hj : j < k) → fitB (L[j]'(by omega)).tk U = false)
/-- Two searches find the same. -/
theorem find_same {L : List Tm} {o : Option (List ByteArray)} {k k' : Nat} {ok ok' : Bool} (h0 : ok = false → k = 0) (h0' : ok' = false → k' = 0) (h : FndM L o k ok) (h' : FndM L o k' ok') : k = k' ∧ ok = ok' := by
  unfold FndM at h h'
  cases o with
  | none =>
    simp only at h h'
    subst h
    subst h'
    exact ⟨(h0 rfl).trans (h0' rfl).symm, rfl⟩
  | some U =>
    simp only at h h'
    rcases h with ⟨rfl, h1⟩ | ⟨rfl, hk, h1, h2⟩ <;> rcases h' with ⟨rfl, h3⟩ | ⟨rfl, hk', h3, h4⟩
    · exact ⟨(h0 rfl).trans (h0' rfl).symm, rfl⟩
    · have := h1 _ (List.getElem_mem hk')
      rw [h3] at this
      cases this
    · have := h3 _ (List.getElem_mem hk)
      rw [h1] at this
      cases this
    · refine ⟨?_, rfl⟩
      rcases Nat.lt_trichotomy k k' with hl | rfl | hl
      · have := h4 k hl
        rw [h1] at this
        cases this
      · rfl
      · have := h2 k' hl
        rw [h3] at this
        cases this
end Go.Proofs.Ytibljgnajbblaaa
