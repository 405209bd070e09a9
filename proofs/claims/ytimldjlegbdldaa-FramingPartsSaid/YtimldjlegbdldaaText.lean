/- The contracts of framing.Text, and of its reference. -/
import Derived.Test.YtimldjlegbdldaaMend
import Derived.Lib.SlBytesConst
namespace Go.Proofs.Ytimldjlegbdldaa
open Go.RowKit

/-- Does the last byte equal c. -/
def endsB (l : List UInt8) (c : UInt8) : Bool := decide (l.drop (l.length - 1) = [c])
def chopB (l : List UInt8) : List UInt8 := l.take (l.length - 1)
/-- A line without its end. -/
def stripB (l : List UInt8) : List UInt8 := if endsB l 10 then (if endsB (chopB l) 13 then chopB (chopB l) else chopB l) else l
theorem chopB_len (l : List UInt8) : (chopB l).length = l.length - 1 := by unfold chopB; rw [List.length_take]; omega
theorem endsB_pos {l : List UInt8} {c : UInt8} (h : endsB l c = true) : 0 < l.length := by
  unfold endsB at h
  have := congrArg List.length (of_decide_eq_true h)
  simp at this
  omega
theorem stripB_le (l : List UInt8) : (stripB l).length ≤ l.length := by
  have h1 := chopB_len l
  have h2 := chopB_len (chopB l)
  unfold stripB
  (repeat' split) <;> omega
theorem endsB_iff (l : List UInt8) (c : UInt8) (n : Nat) (hn : l.length = n + 1) : endsB l c = decide (l.getD n 0 = c) := by
  have e : l.drop n = [l.getD n 0] := by
    have hl : n < l.length := by omega
    rw [List.drop_eq_getElem_cons hl, List.drop_of_length_le (by omega)]
    simp [hl]
  unfold endsB
  rw [hn, Nat.add_sub_cancel, e]
  simp
theorem endsB_nil (c : UInt8) : endsB [] c = false := by simp [endsB]

theorem eqB_any (v1 v2 : Value) (l1 l2 : List UInt8) (w : World) (S1 S2 : Nat → Prop) (h1 : BSl w S1 v1 l1) (h2 : BSl w S2 v2 l2) :
    Calls Try.prog 34 #[v1, v2] w fun e w' => e = .returned (.bool (decide (l1 = l2))) ∧ w = w' := by
  go_enter Try.func34, Try.ntmps34
  go_wp2_with (first
    | (refine wpList_stringB rfl _ rfl rfl h1 Try.underlying22 Try.underlying5 Try.underlying9 ?_)
    | (refine wpList_stringB rfl _ rfl rfl h2 Try.underlying22 Try.underlying5 Try.underlying9 ?_))
  go_ret
  exact ⟨ret_bool (by rw [Bool.eq_iff_iff]; simp), rfl⟩
theorem sufB_any (v1 v2 : Value) (l : List UInt8) (c : UInt8) (w : World) (S1 S2 : Nat → Prop) (h1 : BSl w S1 v1 l) (h2 : BSl w S2 v2 [c]) (hm : l.length ≤ 1000000000000) :
    Calls Try.prog 26 #[v1, v2] w fun e w' => e = .returned (.bool (endsB l c)) ∧ w = w' := by
  obtain ⟨A1, c1, rfl, hc1, h1⟩ := h1.forms
  obtain ⟨A2, c2, rfl, hc2, h2⟩ := h2.forms
  by_cases h0 : 0 < l.length
  · obtain ⟨n, hn⟩ : ∃ n, l.length = n + 1 := ⟨l.length - 1, by omega⟩
    obtain ⟨b, o, rfl, hb, _⟩ := h1.byte h0
    have hd := h1.drop (k := n) (by omega)
    rw [if_neg (by omega), hn, Nat.add_sub_cancel_left, Option.map_some, Addr.add_lit] at hd
    have he := eqB_any _ _ _ _ _ _ _ hd h2
    have hE : endsB l c = decide (l.drop n = [c]) := by unfold endsB; rw [hn, Nat.add_sub_cancel]
    rw [hE]
    rw [hn]
    generalize decide (l.drop n = [c]) = q at *
    simp only [List.length_cons, List.length_nil, Nat.zero_add] at he hc2 ⊢
    have z1 : ¬ c1 = n := by omega
    have z4 : (n : Int) ≤ 1000000000000 := by omega
    have z2 : (n : Int) ≤ ((n + 1 : Nat) : Int) := by omega
    have z3 : ¬ c1 ≤ n := by omega
    clear hE hd hn h1
    go_enter Try.func26, Try.ntmps26
    go_wp2_with fail
    refine he.mono ?_
    rintro e w' ⟨rfl, rfl⟩
    go_wp2_with fail
    go_ret
    exact ⟨rfl, rfl⟩
  · obtain rfl : l = [] := List.eq_nil_of_length_eq_zero (by omega)
    rw [endsB_nil]
    simp only [List.length_cons, List.length_nil, Nat.zero_add] at hc2 ⊢
    go_enter Try.func26, Try.ntmps26
    go_wp2_with fail
    go_ret
    exact ⟨rfl, rfl⟩
def CutRes (w : World) (S : Nat → Prop) (l : List UInt8) (c : UInt8) (e : Ending) (w' : World) : Prop :=
  w = w' ∧ ∃ v', e = .returned (.tuple #[v', .bool (endsB l c)]) ∧ BSl w S v' (if endsB l c then chopB l else l)
theorem cutSuffix_any (v1 v2 : Value) (l : List UInt8) (c : UInt8) (w : World) (S1 S2 : Nat → Prop) (h1 : BSl w S1 v1 l) (h2 : BSl w S2 v2 [c]) (hm : l.length ≤ 1000000000000) :
    Calls Try.prog 19 #[v1, v2] w (CutRes w S1 l c) := by
  have he := sufB_any _ _ _ _ _ _ _ h1 h2 hm
  obtain ⟨A1, c1, rfl, hc1, h1⟩ := h1.forms
  obtain ⟨A2, c2, rfl, hc2, h2⟩ := h2.forms
  cases hq : endsB l c with
  | true =>
    rw [hq] at he
    have HQ := keep hq
    obtain ⟨n, hn⟩ : ∃ n, l.length = n + 1 := ⟨l.length - 1, by have := endsB_pos hq; omega⟩
    have hd := h1.take (k := n) rfl (by omega)
    have hC : Hid (chopB l = l.take n) := keep (by unfold chopB; rw [hn, Nat.add_sub_cancel])
    rw [hn] at h1 he ⊢
    simp only [List.length_cons, List.length_nil, Nat.zero_add] at he hc2 ⊢
    have z1 : n ≤ c1 := by omega
    have z4 : (n : Int) ≤ 1000000000000 := by omega
    clear hq hn
    go_enter Try.func19, Try.ntmps19
    go_wp2_with fail
    refine he.mono ?_
    rintro e w' ⟨rfl, rfl⟩
    go_wp2_with fail
    go_ret2
    exact ⟨rfl, .slice A1 n c1, by rw [HQ.out]; rfl, by rw [if_pos HQ.out, hC.out]; exact hd⟩
  | false =>
    rw [hq] at he
    have HQ := keep hq
    clear hq
    go_enter Try.func19, Try.ntmps19
    go_wp2_with fail
    refine he.mono ?_
    rintro e w' ⟨rfl, rfl⟩
    go_wp2_with fail
    go_ret2
    exact ⟨rfl, .slice A1 l.length c1, by rw [HQ.out]; rfl, by rw [HQ.out]; exact h1⟩
theorem trimSuffix_any (v1 v2 : Value) (l : List UInt8) (c : UInt8) (w : World) (S1 S2 : Nat → Prop) (h1 : BSl w S1 v1 l) (h2 : BSl w S2 v2 [c]) (hm : l.length ≤ 1000000000000) :
    Calls Try.prog 20 #[v1, v2] w fun e w' => w = w' ∧ ∃ v', e = .returned v' ∧ BSl w S1 v' (if endsB l c then chopB l else l) := by
  have he := sufB_any _ _ _ _ _ _ _ h1 h2 hm
  obtain ⟨A1, c1, rfl, hc1, h1⟩ := h1.forms
  obtain ⟨A2, c2, rfl, hc2, h2⟩ := h2.forms
  refine Calls.mono (R := fun e w' => w = w' ∧ ∃ v', Hid (BSl w S1 v' (if endsB l c then chopB l else l)) ∧ e = .returned v') ?_ (fun e w' ⟨h1, v', h2, h3⟩ => ⟨h1, v', h3, h2.out⟩)
  cases hq : endsB l c with
  | true =>
    rw [hq] at he
    have HQ := keep hq
    obtain ⟨n, hn⟩ : ∃ n, l.length = n + 1 := ⟨l.length - 1, by have := endsB_pos hq; omega⟩
    have hd := h1.take (k := n) rfl (by omega)
    have hC : chopB l = l.take n := by unfold chopB; rw [hn, Nat.add_sub_cancel]
    rw [← hC] at hd
    have HD := keep hd
    rw [hn] at h1 he ⊢
    simp only [List.length_cons, List.length_nil, Nat.zero_add] at he hc2 ⊢
    have z1 : n ≤ c1 := by omega
    have z4 : (n : Int) ≤ 1000000000000 := by omega
    clear hq hn hC hd
    go_enter Try.func20, Try.ntmps20
    go_wp2_with fail
    refine he.mono ?_
    rintro e w' ⟨rfl, rfl⟩
    go_wp2_with fail
    go_ret
    exact ⟨rfl, _, HD, rfl⟩
  | false =>
    rw [hq] at he
    have HQ := keep hq
    have HD := keep h1
    clear hq
    go_enter Try.func20, Try.ntmps20
    go_wp2_with fail
    refine he.mono ?_
    rintro e w' ⟨rfl, rfl⟩
    go_wp2_with fail
    go_ret
    exact ⟨rfl, _, HD, rfl⟩

/-- What Text hands back. -/
def TextRes (w : World) (l : List UInt8) (e : Ending) (w' : World) : Prop := RepairRes w (stripB l) e w'
theorem one_bsl (w : World) (x : UInt8) (c : Int) (fz : Nat × Nat) (hc : ub x = .int .u8 c) : BSl (w.alloc (.cells #[.int .u8 c] 5 fz)) (fun _ => True) (.slice (some ⟨w.heap.size, 0, none⟩) 1 1) [x] := by
  refine ⟨rfl, _, 1, rfl, Nat.le_refl _, fun _ => ⟨w.heap.size, 0, rfl, trivial, fun j u hu => ?_⟩⟩
  rw [List.map_singleton, hc] at hu
  match j, hu with
  | 0, hu => simp at hu; subst hu; exact World.cell?_alloc_mark w #[.int .u8 c] 5 fz 0
theorem BSl.up {w : World} {v : Value} {l : List UInt8} {B B' : Nat} (h : BSl w (lt B) v l) (hB : B ≤ B') : BSl w (lt B') v l := h.mono (fun _ hx => Nat.lt_of_lt_of_le hx hB)
set_option maxHeartbeats 1000000 in
theorem text_any (v : Value) (l : List UInt8) (w : World) (h : BSl w (lt w.heap.size) v l) (hm : l.length ≤ 1000000000) :
    Calls Try.prog 10 #[v] w (TextRes w l) := by
  obtain ⟨A, c, rfl, hc, h⟩ := h.forms
  have kc := fun (w : World) (C : Array Value) (n c : Nat) => Lib.run_convert_bytes_const (P := Try.prog) w 22 5 C n c Try.underlying22 Try.underlying5
  have hb1 : ∀ fz, Below w.heap.size w (w.alloc (.cells #[.int .u8 10] 5 fz)) := fun fz => (Below.refl _ w).alloc (Nat.le_refl _) _
  have hcut := fun fz => cutSuffix_any _ _ _ _ _ _ _ (h.below (hb1 fz) (Nat.le_refl _)) (one_bsl w 10 10 fz rfl) (by omega)
  have hst : stripB l = if endsB l 10 then (if endsB (chopB l) 13 then chopB (chopB l) else chopB l) else l := rfl
  obtain ⟨s, hs⟩ : ∃ s, stripB l = s := ⟨_, rfl⟩
  have hsl : s.length ≤ 1000000000 := by have := stripB_le l; rw [hs] at this; omega
  unfold TextRes
  rw [hs] at hst ⊢
  have HS := keep hst
  have HB1 := keep hb1
  clear hst hs hb1
  go_enter Try.func10, Try.ntmps10
  go_wp2_with fail
  refine (hcut _).mono ?_
  rintro e w' ⟨rfl, v1, rfl, hv1⟩
  obtain ⟨W1, hW1⟩ : ∃ W1, w.alloc (.cells #[.int .u8 10] 5 (1, 2)) = W1 := ⟨_, rfl⟩
  have hb := HB1.out (1, 2)
  have hz : W1.heap.size = w.heap.size + 1 := by rw [← hW1]; simp
  rw [hW1] at hb hv1 ⊢
  clear hW1
  have HZ := keep hz
  have HB := keep hb
  clear hz hb hcut
  cases he : endsB l 10 with
  | false =>
    rw [he] at hv1
    have hsl2 : s = l := by rw [HS.out, he]; rfl
    subst hsl2
    simp only [Bool.false_eq_true, if_false] at hv1
    have hw := repair_any _ _ W1 (by have := (h.below HB.out (Nat.le_refl _)).up (B' := W1.heap.size) (by rw [HZ.out]; omega); exact this) hsl
    clear he
    go_wp2_with fail
    refine hw.mono ?_
    rintro e w2 ⟨rfl, hb2⟩
    go_wp2_with fail
    go_ret2
    exact ⟨rfl, HB.out.trans (hb2.mono (by rw [HZ.out]; omega))⟩
  | true =>
    rw [he] at hv1
    simp only [if_true] at hv1
    obtain ⟨m, hmm⟩ : ∃ m, chopB l = m := ⟨_, rfl⟩
    have hml : m.length ≤ 1000000000 := by have := chopB_len l; rw [hmm] at this; omega
    rw [hmm] at hv1
    have hS2 : s = if endsB m 13 then chopB m else m := by rw [HS.out, he, hmm]; rfl
    have HS2 := keep hS2
    have hb3 : ∀ fz, Below W1.heap.size W1 (W1.alloc (.cells #[.int .u8 13] 5 fz)) := fun fz => (Below.refl _ W1).alloc (Nat.le_refl _) _
    have hv1' := hv1.up (B' := W1.heap.size) (by rw [HZ.out]; omega)
    have htr := fun fz => trimSuffix_any _ _ _ _ _ _ _ (hv1'.below (hb3 fz) (Nat.le_refl _)) (one_bsl W1 13 13 fz rfl) (by omega)
    have HB3 := keep hb3
    obtain ⟨A1, c1, rfl, _, _⟩ := hv1.forms
    clear he hmm hS2 hb3
    go_wp2_with fail
    refine (htr _).mono ?_
    rintro e w' ⟨rfl, v2, rfl, hv2⟩
    rw [← HS2.out] at hv2
    have hw := repair_any _ _ _ (hv2.up (by simp)) hsl
    go_wp2_with fail
    refine hw.mono ?_
    rintro e w2 ⟨rfl, hb2⟩
    go_wp2_with fail
    go_ret2
    exact ⟨rfl, HB.out.trans ((HB3.out (1, 2)).trans (hb2.mono (by simp)) |>.mono (by rw [HZ.out]; omega))⟩
end Go.Proofs.Ytimldjlegbdldaa
