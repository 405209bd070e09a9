/- TemplateMines: the reference's Text, how long a template's text is. -/
import Derived.Test.YtibljgnajbblaaaR14W
import Derived.Test.YtibljgnajbblaaaRfAll
namespace Go.Proofs.Ytibljgnajbblaaa
open Go.RowKit

def joinP (T : List ByteArray) : List UInt8 := Lib.join ((T.map phB).map (·.data.toList)) [32]
theorem joinP_text (T : List ByteArray) : textB T = ⟨(joinP T).toArray⟩ := rfl
theorem joinP_snoc (T : List ByteArray) (s : ByteArray) : joinP (T ++ [s]) = joinP T ++ (if T = [] then [] else [32]) ++ (phB s).data.toList := by
  unfold joinP
  cases T with
  | nil => simp [Lib.join_nil, Lib.join_one]
  | cons a T =>
    rw [if_neg (by simp)]
    simp only [List.cons_append, List.map_cons, List.map_append, List.map_nil]
    rw [Lib.join_cons, Lib.join_cons]
    unfold Lib.joinTail
    simp
theorem text_of {x : ByteArray} {T : List ByteArray} (h : lb x = joinP T) : x = textB T := by
  rw [joinP_text]
  apply ByteArray.ext
  rw [← h]
theorem lb_append (a b : ByteArray) : lb (a ++ b) = lb a ++ lb b := by
  unfold lb
  rw [ByteArray.data_append, Array.toList_append]
theorem joinP_mono : ∀ (B A : List ByteArray), (joinP A).length ≤ (joinP (A ++ B)).length
  | [], A => by simp
  | b :: B, A => by
    have h1 := joinP_mono B (A ++ [b])
    rw [List.append_assoc, List.singleton_append] at h1
    have h2 := congrArg List.length (joinP_snoc A b)
    rw [List.length_append, List.length_append] at h2
    omega
set_option maxHeartbeats 4000000 in
theorem refText_any (t : Tm) (w : World) (h : TkR w t) (hz : (joinP t.tk).length ≤ 140737488355328) :
    Calls Try.prog 15 #[.agg (tmV t).toArray] w fun e w' => e = .returned (.string (textB t.tk)) ∧ Below w.heap.size w w' := by
  obtain ⟨tv, T, ct⟩ := t
  obtain ⟨A, n, c, hv⟩ := h.form
  simp only at hv hz
  subst hv
  have hn : n = T.length := by obtain ⟨_, _, _, hv, _⟩ := h.1; injection hv
  subst hn
  have hTl : T.length ≤ 1000000 := h.2
  obtain ⟨W, hW⟩ : ∃ W, W = w.alloc (.cells #[.slice A T.length c, .int .i64 ct] 33) := ⟨_, rfl⟩
  have hal : Below w.heap.size w W := hW ▸ (Below.refl _ w).alloc (Nat.le_refl _) _
  have hB : Blk W w.heap.size 33 #[.slice A T.length c, .int .i64 ct] := hW ▸ Blk.new w _ _
  have hT := h.up hal
  have HT := keep hT.1.str
  have HAL := keep hal
  have HZ := keep hz
  have HB := keep hB
  have hgl := hB.lt
  have c00 := (hB.cell2).1
  rw [hW] at c00
  simp only [tmV]
  clear h hal hB hT hz
  go_enter Try.func15, Try.ntmps15
  go_wp2_with fail
  rw [← hW]
  clear hW c00
  go_loopw [3, 4] (fun u3 u4 wr => ∃ (k : Nat) (x : ByteArray), k ≤ T.length ∧ u4 = .int .i64 k ∧ u3 = .string x ∧ Hid (lb x = joinP (T.take k)) ∧ Hid (Below W.heap.size W wr)) (fun _ u4 _ => T.length - (intOf u4).toNat)
  case atStart => exact ⟨0, ⟨#[]⟩, Nat.zero_le _, rfl, rfl, keep rfl, keep (Below.refl _ _)⟩
  case round =>
    obtain ⟨k, x, hk, rfl, rfl, hx, hR⟩ := hrel
    obtain ⟨wo, rfl⟩ : ∃ wo : World, wo = wr := ⟨_, rfl⟩
    have c0 : wo.cell? ⟨w.heap.size, 0, none⟩ = some (.slice A T.length c) := ((HB.out.below hR.out hgl).cell2).1
    by_cases hlt : k < T.length
    · obtain ⟨b, o, rfl, _, q0⟩ := str_at (HT.out.below hR.out (Nat.le_refl _)) hlt
      have htake : joinP (T.take (k + 1)) = joinP (T.take k) ++ (if k = 0 then [] else [32]) ++ (phB T[k]).data.toList := by
        rw [List.take_succ_eq_append_getElem hlt, joinP_snoc]
        congr 2
        by_cases e : k = 0
        · subst e; simp
        · rw [if_neg e, if_neg]
          intro h
          have := congrArg List.length h
          rw [List.length_take, List.length_nil] at this
          omega
      obtain ⟨s, hs⟩ : ∃ s, T[k] = s := ⟨_, rfl⟩
      rw [hs] at q0 htake
      rw [← hx.out] at htake
      have hxs : x.size ≤ 140737488355328 := by
        have h1 := joinP_mono (T.drop k) (T.take k)
        rw [List.take_append_drop, ← hx.out] at h1
        exact Nat.le_trans h1 HZ.out
      have hss : s.size ≤ 140737488355328 := by
        have h1 := joinP_mono (T.drop (k + 1)) (T.take (k + 1))
        rw [List.take_append_drop, htake, List.length_append] at h1
        have h2 : s.size ≤ (phB s).data.toList.length := by
          unfold phB
          split
          · rename_i h
            have h0 : lb s = [] := by rw [Lib.toList_data] at h; exact h
            have h3 : (lb s).length = s.size := rfl
            rw [h0] at h3
            rw [← h3]
            exact Nat.zero_le _
          · exact Nat.le_refl _
        exact Nat.le_trans (by omega) HZ.out
      have HTAKE := keep htake
      have i1 : (k : Int) < (T.length : Int) := by omega
      have i2 : (k : Int) ≤ 1000000 := by omega
      clear htake hs
      by_cases hk0 : k = 0
      · have k0 : ¬ 0 < k := by omega
        have kd : decide (0 < k) = false := decide_eq_false k0
        have HK0 := keep hk0
        clear hk0
        cases hq : (s.toList == ([] : List UInt8)) with
        | true =>
          have hp : phB s = ⟨#[60, 42, 62]⟩ := by unfold phB; rw [if_pos (by simpa using hq)]
          have hs0 : lb s = [] := by have h := eq_of_beq hq; rwa [Lib.toList_data] at h
          have HX : Hid (lb (x ++ ⟨#[60, 42, 62]⟩ ++ s) = joinP (T.take (k + 1))) := keep (by
            rw [HTAKE.out, if_pos HK0.out, hp, lb_append, lb_append, hs0]
            simp [lb])
          clear hp hs0
          go_wp2_with fail
          go_roundw
          case rel => exact ⟨k + 1, _, by omega, by go_num, rfl, HX, hR⟩
          case measure => simp [intOf]; omega
        | false =>
          have hp : phB s = s := by unfold phB; rw [if_neg (by simpa using hq)]
          have HX : Hid (lb (x ++ s) = joinP (T.take (k + 1))) := keep (by
            rw [HTAKE.out, if_pos HK0.out, hp, lb_append]
            simp [lb])
          clear hp
          go_wp2_with fail
          go_roundw
          case rel => exact ⟨k + 1, _, by omega, by go_num, rfl, HX, hR⟩
          case measure => simp [intOf]; omega
      · have k0 : 0 < k := by omega
        have kd : decide (0 < k) = true := decide_eq_true k0
        cases hq : (s.toList == ([] : List UInt8)) with
        | true =>
          have hp : phB s = ⟨#[60, 42, 62]⟩ := by unfold phB; rw [if_pos (by simpa using hq)]
          have hs0 : lb s = [] := by have h := eq_of_beq hq; rwa [Lib.toList_data] at h
          have HX : Hid (lb (x ++ ⟨#[32]⟩ ++ ⟨#[60, 42, 62]⟩ ++ s) = joinP (T.take (k + 1))) := keep (by
            rw [HTAKE.out, if_neg hk0, hp, lb_append, lb_append, lb_append, hs0]
            simp [lb])
          clear hp hs0
          go_wp2_with fail
          go_roundw
          case rel => exact ⟨k + 1, _, by omega, by go_num, rfl, HX, hR⟩
          case measure => simp [intOf]; omega
        | false =>
          have hp : phB s = s := by unfold phB; rw [if_neg (by simpa using hq)]
          have HX : Hid (lb (x ++ ⟨#[32]⟩ ++ s) = joinP (T.take (k + 1))) := keep (by
            rw [HTAKE.out, if_neg hk0, hp, lb_append, lb_append])
          clear hp
          go_wp2_with fail
          go_roundw
          case rel => exact ⟨k + 1, _, by omega, by go_num, rfl, HX, hR⟩
          case measure => simp [intOf]; omega
    · obtain rfl : k = T.length := by omega
      have HE : Hid (x = textB T) := keep (text_of (by have h := hx.out; rwa [List.take_length] at h))
      go_wp2_with fail
      go_ret
      exact ⟨by show Ending.returned (Value.string x) = _; rw [HE.out], HAL.out.trans (hR.out.mono HAL.out.size)⟩
theorem sp_len : ∀ (l cur : List UInt8), ∀ w ∈ sp l cur, w.length ≤ l.length + cur.length
  | [], cur, w, hw => by
    unfold sp at hw
    split at hw
    · cases hw
    · rw [List.mem_singleton.1 hw]; simp
  | x :: l, cur, w, hw => by
    unfold sp at hw
    rw [List.length_cons]
    split at hw
    · split at hw
      · have := sp_len l [] w hw
        simp at this
        omega
      · rcases List.mem_cons.1 hw with h | h
        · rw [h]; omega
        · have := sp_len l [] w h
          simp at this
          omega
    · have := sp_len l (cur ++ [x]) w hw
      rw [List.length_append] at this
      simp at this
      omega
theorem tokW_len {l : List UInt8} {U : List (List UInt8)} (h : tokW l = some U) : ∀ u ∈ U, u.length ≤ l.length := by
  intro u hu
  unfold tokW at h
  split at h
  · cases h
  · have hU : (words l).map vrL = U := Option.some.inj h
    subst hU
    obtain ⟨w, hw, rfl⟩ := List.mem_map.1 hu
    have h1 := sp_len l [] w hw
    unfold vrL
    split
    · simp
    · simpa using h1
/-- Where a template's tokens come from. -/
theorem tplF_from (n : Nat) : ∀ (f : Nat) (l : List TP), ∀ r ∈ tplF n f l, ∀ q, tkA q r = [] ∨ ∃ t ∈ l, tkA q t = tkA q r
  | 0, l, r, hr, q => by simp [tplF] at hr
  | f + 1, l, r, hr, q => by
    unfold tplF at hr
    split at hr
    · rw [List.mem_singleton.1 hr]
      unfold mrgA tkA
      simp only
      by_cases hq : q < n
      · have e : ((List.range n).map fun p => mrgT p l).getD q [] = mrgT q l := by simp [hq]
        rw [e]
        unfold mrgT oneW
        split
        · rename_i w hw
          right
          have hm : w ∈ tksA q l := by rw [hw]; simp
          obtain ⟨t, ht, e2⟩ := List.mem_map.1 (mem_dd.1 hm)
          exact ⟨t, ht, e2⟩
        · exact .inl rfl
      · left
        simp [hq]
    · obtain ⟨w, _, h⟩ := List.mem_flatMap.1 hr
      rcases tplF_from n f _ r h q with h2 | ⟨t, ht, e⟩
      · exact .inl h2
      · exact .inr ⟨t, (List.mem_filter.1 ht).1, e⟩
theorem of_from {l : List TP} {r : TP} (hr : r ∈ ofA l) (q : Nat) : tkA q r = [] ∨ ∃ t ∈ l, tkA q t = tkA q r := by
  obtain ⟨n, _, h⟩ := List.mem_flatMap.1 hr
  by_cases h0 : n = 0 ∨ grpA n l = []
  · rw [if_pos h0] at h; cases h
  · rw [if_neg h0] at h
    rcases tplF_from n _ _ r h q with h2 | ⟨t, ht, e⟩
    · exact .inl h2
    · exact .inr ⟨t, (List.mem_filter.1 ht).1, e⟩
theorem of_len {l : List TP} {r : TP} (hr : r ∈ ofA l) : 1 ≤ r.1.length ∧ r.1.length ≤ 60 := by
  obtain ⟨n, hn, h⟩ := List.mem_flatMap.1 hr
  rw [List.mem_range] at hn
  by_cases h0 : n = 0 ∨ grpA n l = []
  · rw [if_pos h0] at h; cases h
  · rw [if_neg h0] at h
    have := (tplF_tok n _ _ (fun e => h0 (.inr e)) r h).1
    have : ¬ n = 0 := fun e => h0 (.inl e)
    omega
theorem ln_tok {S : List ByteArray} {t : TP} (ht : t ∈ lnT S) (q : Nat) {m : Nat} (hS : ∀ s ∈ S, s.size ≤ m) : (tkA q t).length ≤ m := by
  unfold lnT at ht
  obtain ⟨s, hs, e⟩ := List.mem_filterMap.1 ht
  have he := toks_eq s
  cases hto : toks s with
  | none => rw [hto] at e; cases e
  | some W =>
    rw [hto] at e he
    have e' : (strs W, (1 : Int)) = t := Option.some.inj e
    subst e'
    have hw : tokW (lb s) = some (strs W) := he.symm
    unfold tkA
    simp only
    by_cases hq : q < (strs W).length
    · have h1 := tokW_len hw (strs W)[q] (List.getElem_mem hq)
      have h2 : (strs W).getD q [] = (strs W)[q] := by simp [hq]
      rw [h2]
      have h3 : (lb s).length = s.size := rfl
      have := hS s hs
      omega
    · have h2 : (strs W).getD q [] = [] := by simp [hq]
      rw [h2]
      exact Nat.zero_le _
theorem lens_le (m : Nat) : ∀ l : List (List UInt8), (∀ x ∈ l, x.length ≤ m) → Lib.lens l ≤ l.length * m
  | [], _ => by simp [Lib.lens]
  | x :: l, h => by
    have ih := lens_le m l fun y hy => h y (by simp [hy])
    have hx := h x (by simp)
    have e : Lib.lens (x :: l) = x.length + Lib.lens l := by simp [Lib.lens]
    rw [e, List.length_cons, Nat.succ_mul]
    omega
/-- The text of a template of lines that are not too long. -/
theorem text_len {S : List ByteArray} {R : List Tm} (hp : (tpL R).Perm (ofA (lnT S))) (hS : ∀ s ∈ S, s.size ≤ 1048576) {t : Tm} (ht : t ∈ R) : t.tk ≠ [] ∧ t.tk.length ≤ 60 ∧ (Lib.join ((t.tk.map phB).map (·.data.toList)) [32]).length ≤ 140737488355328 := by
  have hr : (strs t.tk, t.ct) ∈ ofA (lnT S) := hp.mem_iff.1 (List.mem_map.2 ⟨t, ht, rfl⟩)
  have hl := of_len hr
  have hl1 : 1 ≤ t.tk.length := by simpa [strs] using hl.1
  have hl2 : t.tk.length ≤ 60 := by simpa [strs] using hl.2
  refine ⟨fun e => by rw [e] at hl1; simp at hl1, hl2, ?_⟩
  have hb : ∀ x ∈ (t.tk.map phB).map (·.data.toList), x.length ≤ 1048579 := by
    intro x hx
    obtain ⟨y, hy, rfl⟩ := List.mem_map.1 hx
    obtain ⟨s, hs, rfl⟩ := List.mem_map.1 hy
    obtain ⟨q, hq, rfl⟩ := List.getElem_of_mem hs
    unfold phB
    split
    · decide
    · have e1 : tkA q (strs t.tk, t.ct) = lb t.tk[q] := tk_get hq
      have h2 : (tkA q (strs t.tk, t.ct)).length ≤ 1048576 := by
        rcases of_from hr q with h | ⟨u, hu, e⟩
        · rw [h]; simp
        · rw [← e]; exact ln_tok hu q hS
      rw [e1] at h2
      have h3 : (t.tk[q].data.toList).length = (lb t.tk[q]).length := rfl
      omega
  obtain ⟨x, r, e⟩ : ∃ x r, (t.tk.map phB).map (·.data.toList) = x :: r := by
    cases h : (t.tk.map phB).map (·.data.toList) with
    | nil => exfalso; have := congrArg List.length h; simp at this; rw [this] at hl1; simp at hl1
    | cons x r => exact ⟨x, r, rfl⟩
  have hlen : (x :: r).length = t.tk.length := by rw [← e]; simp
  rw [e] at hb ⊢
  rw [Lib.join_length]
  have := lens_le 1048579 (x :: r) hb
  rw [hlen] at this
  rw [List.length_cons] at hlen
  simp only [List.length_cons, List.length_nil]
  have h60 : t.tk.length * 1048579 ≤ 60 * 1048579 := Nat.mul_le_mul_right _ hl2
  omega
end Go.Proofs.Ytibljgnajbblaaa
