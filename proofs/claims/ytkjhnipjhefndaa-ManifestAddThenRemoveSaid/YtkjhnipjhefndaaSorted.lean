/- The contracts of sorted, tallies, IndexFunc, ContainsFunc and Check of package manifest. -/
import Derived.Test.YtkjhnipjhefndaaSegs
namespace Go.Proofs.Ytkjhnipjhefndaa
open Go.RowKit

/-- Whether a list is in strictly ascending order. -/
def asc {α : Type} (less : α → α → Bool) : List α → Bool
  | [] => true
  | [_] => true
  | a :: b :: l => less a b && asc less (b :: l)
/-- The first k steps ascend. -/
def Up {α : Type} (less : α → α → Bool) (l : List α) (k : Nat) : Prop := ∀ j, (h : j + 1 < l.length) → j + 1 < k → less l[j] l[j + 1] = true
theorem asc_of_up {α : Type} (less : α → α → Bool) : ∀ l : List α, Up less l l.length → asc less l = true
  | [], _ => rfl
  | [_], _ => rfl
  | a :: b :: l, h => by
    rw [asc, Bool.and_eq_true]
    refine ⟨h 0 (by simp) (by simp), asc_of_up less (b :: l) fun j hj hk => ?_⟩
    have := h (j + 1) (by simp at hj ⊢; omega) (by simp at hj ⊢; omega)
    simpa using this
theorem up_of_asc {α : Type} (less : α → α → Bool) : ∀ l : List α, asc less l = true → Up less l l.length
  | [], _ => fun j h => by simp at h
  | [_], _ => fun j h => by simp at h
  | a :: b :: l, h => by
    rw [asc, Bool.and_eq_true] at h
    intro j hj hk
    cases j with
    | zero => exact h.1
    | succ j =>
      have := up_of_asc less (b :: l) h.2 j (by simp at hj ⊢; omega) (by simp at hj ⊢; omega)
      simpa using this
theorem asc_false {α : Type} (less : α → α → Bool) (l : List α) (j : Nat) (h : j + 1 < l.length) (hf : less l[j] l[j + 1] = false) : asc less l = false := by
  cases ha : asc less l with
  | false => rfl
  | true => have := up_of_asc less l ha j h h; rw [hf] at this; cases this
theorem Up.step {α : Type} {less : α → α → Bool} {l : List α} {k : Nat} (h : Up less l k) (hk : k < l.length) (h1 : 1 ≤ k) (hl : less l[k - 1] l[k] = true) : Up less l (k + 1) := by
  intro j hj hlt
  by_cases e : j + 1 = k
  · subst e; exact hl
  · exact h j hj (by omega)

theorem flat_len {α : Type} (enc : α → List Value) (m : Nat) (hm : ∀ x, (enc x).length = m) (l : List α) : (l.flatMap enc).length = l.length * m := by
  induction l with
  | nil => simp
  | cons a l ih => rw [List.flatMap_cons, List.length_append, ih, hm, List.length_cons, Nat.add_mul, Nat.one_mul, Nat.add_comm]
theorem flat_get {α : Type} (enc : α → List Value) (m : Nat) (hm : ∀ x, (enc x).length = m) : ∀ (l : List α) (k j : Nat) (hk : k < l.length), j < m → (l.flatMap enc)[k * m + j]? = (enc l[k])[j]?
  | a :: l, 0, j, _, hj => by
    rw [List.flatMap_cons, Nat.zero_mul, Nat.zero_add, List.getElem?_append_left (by rw [hm]; exact hj)]
    rfl
  | a :: l, k + 1, j, hk, hj => by
    rw [List.flatMap_cons, List.getElem?_append_right (by rw [hm, Nat.add_mul]; omega), hm, show (k + 1) * m + j - m = k * m + j by rw [Nat.add_mul]; omega]
    exact flat_get enc m hm l k j (by simpa using hk) hj
/-- The cells of an element of a slice of structs. -/
theorem Sl.elem {α : Type} {enc : α → List Value} {m : Nat} (hm : ∀ x, (enc x).length = m) {w : World} {S : Nat → Prop} {l : List α} {A : Option Addr} {c : Nat} (h : Sl w S m (.slice A l.length c) l.length (l.flatMap enc)) {k : Nat} (hk : k < l.length) :
    ∃ b o, A = some ⟨b, o, none⟩ ∧ S b ∧ ∀ j u, (enc l[k])[j]? = some u → w.cell? ⟨b, o + (k * m + j), none⟩ = some u := by
  obtain ⟨b, o, hA, hb, hrow⟩ := h.row (by omega)
  refine ⟨b, o, hA, hb, fun j u hu => hrow _ u ?_⟩
  have hj : j < m := by have := (List.getElem?_eq_some_iff.1 hu).1; rw [hm] at this; exact this
  rw [flat_get enc m hm l k j hk hj]
  exact hu
theorem segs_cells {w : World} {S : Nat → Prop} {l : List Seg} {A : Option Addr} {c k : Nat} (h : Sl w S 7 (.slice A l.length c) l.length (l.flatMap Seg.vals)) (hk : k < l.length) :
    ∃ b o, A = some ⟨b, o, none⟩ ∧ S b ∧ w.cell? ⟨b, o + k * 7, none⟩ = some (.int .i64 l[k].id) ∧ w.cell? ⟨b, o + k * 7 + 1, none⟩ = some (.int .i64 l[k].level) ∧ w.cell? ⟨b, o + k * 7 + 2, none⟩ = some (.int .i64 l[k].tier) ∧
      w.cell? ⟨b, o + k * 7 + 3, none⟩ = some (.int .i64 l[k].count) ∧ w.cell? ⟨b, o + k * 7 + 4, none⟩ = some (.int .i64 l[k].lo) ∧ w.cell? ⟨b, o + k * 7 + 5, none⟩ = some (.int .i64 l[k].hi) ∧ w.cell? ⟨b, o + k * 7 + 6, none⟩ = some (.int .i64 l[k].size) := by
  obtain ⟨b, o, hA, hb, hc⟩ := Sl.elem (enc := Seg.vals) (m := 7) (fun _ => rfl) h hk
  refine ⟨b, o, hA, hb, hc 0 _ rfl, ?_, ?_, ?_, ?_, ?_, ?_⟩
  · have := hc 1 _ rfl; rwa [← Nat.add_assoc] at this
  · have := hc 2 _ rfl; rwa [← Nat.add_assoc] at this
  · have := hc 3 _ rfl; rwa [← Nat.add_assoc] at this
  · have := hc 4 _ rfl; rwa [← Nat.add_assoc] at this
  · have := hc 5 _ rfl; rwa [← Nat.add_assoc] at this
  · have := hc 6 _ rfl; rwa [← Nat.add_assoc] at this
theorem marks_cells {w : World} {S : Nat → Prop} {l : List Mk} {A : Option Addr} {c k : Nat} (h : Sl w S 3 (.slice A l.length c) l.length (l.flatMap Mk.vals)) (hk : k < l.length) :
    ∃ b o, A = some ⟨b, o, none⟩ ∧ S b ∧ w.cell? ⟨b, o + k * 3, none⟩ = some (.int .i64 l[k].host) ∧ w.cell? ⟨b, o + k * 3 + 1, none⟩ = some (.int .i64 l[k].file) ∧ w.cell? ⟨b, o + k * 3 + 2, none⟩ = some (.int .i64 l[k].off) := by
  obtain ⟨b, o, hA, hb, hc⟩ := Sl.elem (enc := Mk.vals) (m := 3) (fun _ => rfl) h hk
  refine ⟨b, o, hA, hb, hc 0 _ rfl, ?_, ?_⟩
  · have := hc 1 _ rfl; rwa [← Nat.add_assoc] at this
  · have := hc 2 _ rfl; rwa [← Nat.add_assoc] at this
theorem tals_cells {w : World} {S : Nat → Prop} {l : List Tl} {A : Option Addr} {c k : Nat} (h : Sl w S 3 (.slice A l.length c) l.length (l.flatMap Tl.vals)) (hk : k < l.length) :
    ∃ b o, A = some ⟨b, o, none⟩ ∧ S b ∧ w.cell? ⟨b, o + k * 3, none⟩ = some (.int .i64 l[k].host) ∧ w.cell? ⟨b, o + k * 3 + 1, none⟩ = some (.string l[k].rule) ∧ w.cell? ⟨b, o + k * 3 + 2, none⟩ = some (.int .i64 l[k].lines) := by
  obtain ⟨b, o, hA, hb, hc⟩ := Sl.elem (enc := Tl.vals) (m := 3) (fun _ => rfl) h hk
  refine ⟨b, o, hA, hb, hc 0 _ rfl, ?_, ?_⟩
  · have := hc 1 _ rfl; rwa [← Nat.add_assoc] at this
  · have := hc 2 _ rfl; rwa [← Nat.add_assoc] at this

set_option maxRecDepth 100000 in
theorem sortedSeg_any (v : Value) (l : List Seg) (w : World) (h : Sl w (lt w.heap.size) 7 v l.length (l.flatMap Seg.vals)) (hm : l.length ≤ 1000000) :
    Calls Try.prog 39 #[v, .func (.func 40) #[] #[]] w fun e w' => e = .returned (.bool (asc segLess l)) ∧ Below w.heap.size w w' := by
  obtain ⟨A, c, rfl, hc, h⟩ := h.form
  go_enter Try.func39, Try.ntmps39
  go_wp2_with fail
  go_loopw [5] (fun i wr => ∃ k : Nat, 1 ≤ k ∧ i = .int .i64 k ∧ (k ≤ l.length ∨ k = 1) ∧ Hid (Up segLess l k) ∧ Below w.heap.size w wr) (fun i _ => l.length - (intOf i).toNat)
  case atStart => exact ⟨1, Nat.le_refl _, rfl, .inr rfl, keep (fun j _ h => absurd h (by omega)), Below.refl _ _⟩
  case round =>
    obtain ⟨k, hk1, rfl, hkl, hN, hbr⟩ := hrel
    obtain ⟨wo, rfl⟩ : ∃ wo : World, wo = wr := ⟨_, rfl⟩
    by_cases hlt : k < l.length
    · clear hkl
      have ho := h.below hbr (Nat.le_refl _)
      obtain ⟨m, hm1⟩ : ∃ m, k = m + 1 := ⟨k - 1, by omega⟩
      have hml : m < l.length := by omega
      obtain ⟨b, o, rfl, hb, c0, c1, c2, c3, c4, c5, c6⟩ := segs_cells ho hlt
      obtain ⟨b', o', e', _, d0, d1, d2, d3, d4, d5, d6⟩ := segs_cells ho hml
      obtain ⟨rfl, rfl⟩ : b = b' ∧ o = o' := by injection e' with e; injection e with e1 e2; exact ⟨e1, e2⟩
      have hbw : b < w.heap.size := hb
      have hbo : b < wo.heap.size := Nat.lt_of_lt_of_le hbw hbr.size
      have hk0 : k - 1 < l.length := by omega
      have HE : Hid (∀ (x y : Seg), x = l[m]'hml → y = l[k]'hlt → x = l[k - 1]'hk0 ∧ y = l[k]'hlt) := fun x y hx hy => ⟨by rw [hx]; congr 1; omega, hy⟩
      obtain ⟨y, hy⟩ : ∃ y, y = l[k] := ⟨_, rfl⟩
      obtain ⟨x, hx⟩ : ∃ x, x = l[m] := ⟨_, rfl⟩
      rw [← hy] at c0 c1 c2 c3 c4 c5 c6
      rw [← hx] at d0 d1 d2 d3 d4 d5 d6
      have HX := keep (HE.out x y hx hy)
      clear hx hy HE e' ho
      have i1 : (k : Int) < (l.length : Int) := by omega
      have i2 : (m : Int) < (l.length : Int) := by omega
      have i3 : (k : Int) - 1 = (m : Int) := by omega
      have i4 : IntKind.i64.wrap (m : Int) = (m : Int) := by rw [IntWalk.i64_left]; exact IntWalk.wrap64_in _ (by omega)
      clear hm1
      obtain ⟨q, hq⟩ : ∃ q, segLess x y = q := ⟨_, rfl⟩
      have HQ := keep hq
      clear hq
      go_upto_region 4 with fail
      go_region_held3 (Held wo.heap.size wo) (first | exact Held.start _ _ | exact Held.call (by assumption) (by assumption) (Nat.le_refl _) | assumption)
        (first | (go_at_call 40; refine (segLess_any x y _).mono ?_; rw [HQ.out]; rintro e w2 ⟨rfl, hb2⟩))
      have hH : Held wo.heap.size wo w2 := by assumption
      have hb3 := hbr.trans (hH.2.2.mono hbr.size)
      cases q
      · go_wp2_with fail
        go_ret
        have hx1 := HX.out.1
        have hy1 := HX.out.2
        subst hx1 hy1
        have hf : segLess l[k - 1] (l[k - 1 + 1]'(by omega)) = false := by
          have := HQ.out
          simpa only [Nat.sub_add_cancel hk1] using this
        exact ⟨ret_bool (asc_false _ l (k - 1) (by omega) hf).symm, hb3⟩
      · go_wp2_with fail
        go_roundw
        case rel =>
          refine ⟨k + 1, by omega, by go_num, .inl (by omega), keep (hN.out.step hlt hk1 ?_), hb3⟩
          rw [← HX.out.1, ← HX.out.2]
          exact HQ.out
        case measure => simp [intOf]; omega
    · go_wp2_with fail
      go_ret
      refine ⟨ret_bool (asc_of_up _ l fun j hj hk => hN.out j hj (by omega)).symm, hbr⟩
set_option maxRecDepth 100000 in
theorem sortedMk_any (v : Value) (l : List Mk) (w : World) (h : Sl w (lt w.heap.size) 3 v l.length (l.flatMap Mk.vals)) (hm : l.length ≤ 1000000) :
    Calls Try.prog 41 #[v, .func (.func 42) #[] #[]] w fun e w' => e = .returned (.bool (asc mkLess l)) ∧ Below w.heap.size w w' := by
  obtain ⟨A, c, rfl, hc, h⟩ := h.form
  go_enter Try.func41, Try.ntmps41
  go_wp2_with fail
  go_loopw [5] (fun i wr => ∃ k : Nat, 1 ≤ k ∧ i = .int .i64 k ∧ (k ≤ l.length ∨ k = 1) ∧ Hid (Up mkLess l k) ∧ Below w.heap.size w wr) (fun i _ => l.length - (intOf i).toNat)
  case atStart => exact ⟨1, Nat.le_refl _, rfl, .inr rfl, keep (fun j _ h => absurd h (by omega)), Below.refl _ _⟩
  case round =>
    obtain ⟨k, hk1, rfl, hkl, hN, hbr⟩ := hrel
    obtain ⟨wo, rfl⟩ : ∃ wo : World, wo = wr := ⟨_, rfl⟩
    by_cases hlt : k < l.length
    · clear hkl
      have ho := h.below hbr (Nat.le_refl _)
      obtain ⟨m, hm1⟩ : ∃ m, k = m + 1 := ⟨k - 1, by omega⟩
      have hml : m < l.length := by omega
      obtain ⟨b, o, rfl, hb, c0, c1, c2⟩ := marks_cells ho hlt
      obtain ⟨b', o', e', _, d0, d1, d2⟩ := marks_cells ho hml
      obtain ⟨rfl, rfl⟩ : b = b' ∧ o = o' := by injection e' with e; injection e with e1 e2; exact ⟨e1, e2⟩
      have hbw : b < w.heap.size := hb
      have hbo : b < wo.heap.size := Nat.lt_of_lt_of_le hbw hbr.size
      have hk0 : k - 1 < l.length := by omega
      have HE : Hid (∀ (x y : Mk), x = l[m]'hml → y = l[k]'hlt → x = l[k - 1]'hk0 ∧ y = l[k]'hlt) := fun x y hx hy => ⟨by rw [hx]; congr 1; omega, hy⟩
      obtain ⟨y, hy⟩ : ∃ y, y = l[k] := ⟨_, rfl⟩
      obtain ⟨x, hx⟩ : ∃ x, x = l[m] := ⟨_, rfl⟩
      rw [← hy] at c0 c1 c2
      rw [← hx] at d0 d1 d2
      have HX := keep (HE.out x y hx hy)
      clear hx hy HE e' ho
      have i1 : (k : Int) < (l.length : Int) := by omega
      have i2 : (m : Int) < (l.length : Int) := by omega
      have i3 : (k : Int) - 1 = (m : Int) := by omega
      have i4 : IntKind.i64.wrap (m : Int) = (m : Int) := by rw [IntWalk.i64_left]; exact IntWalk.wrap64_in _ (by omega)
      clear hm1
      obtain ⟨q, hq⟩ : ∃ q, mkLess x y = q := ⟨_, rfl⟩
      have HQ := keep hq
      clear hq
      go_upto_region 4 with fail
      go_region_held3 (Held wo.heap.size wo) (first | exact Held.start _ _ | exact Held.call (by assumption) (by assumption) (Nat.le_refl _) | assumption)
        (first | (go_at_call 42; refine (mkLess_any x y _).mono ?_; rw [HQ.out]; rintro e w2 ⟨rfl, hb2⟩))
      have hH : Held wo.heap.size wo w2 := by assumption
      have hb3 := hbr.trans (hH.2.2.mono hbr.size)
      cases q
      · go_wp2_with fail
        go_ret
        have hx1 := HX.out.1
        have hy1 := HX.out.2
        subst hx1 hy1
        have hf : mkLess l[k - 1] (l[k - 1 + 1]'(by omega)) = false := by
          have := HQ.out
          simpa only [Nat.sub_add_cancel hk1] using this
        exact ⟨ret_bool (asc_false _ l (k - 1) (by omega) hf).symm, hb3⟩
      · go_wp2_with fail
        go_roundw
        case rel =>
          refine ⟨k + 1, by omega, by go_num, .inl (by omega), keep (hN.out.step hlt hk1 ?_), hb3⟩
          rw [← HX.out.1, ← HX.out.2]
          exact HQ.out
        case measure => simp [intOf]; omega
    · go_wp2_with fail
      go_ret
      refine ⟨ret_bool (asc_of_up _ l fun j hj hk => hN.out j hj (by omega)).symm, hbr⟩
set_option maxRecDepth 100000 in
theorem sortedTl_any (v : Value) (l : List Tl) (w : World) (h : Sl w (lt w.heap.size) 3 v l.length (l.flatMap Tl.vals)) (hm : l.length ≤ 1000000) :
    Calls Try.prog 72 #[v, .func (.func 73) #[] #[]] w fun e w' => e = .returned (.bool (asc tlLess l)) ∧ Below w.heap.size w w' := by
  obtain ⟨A, c, rfl, hc, h⟩ := h.form
  go_enter Try.func72, Try.ntmps72
  go_wp2_with fail
  go_loopw [5] (fun i wr => ∃ k : Nat, 1 ≤ k ∧ i = .int .i64 k ∧ (k ≤ l.length ∨ k = 1) ∧ Hid (Up tlLess l k) ∧ Below w.heap.size w wr) (fun i _ => l.length - (intOf i).toNat)
  case atStart => exact ⟨1, Nat.le_refl _, rfl, .inr rfl, keep (fun j _ h => absurd h (by omega)), Below.refl _ _⟩
  case round =>
    obtain ⟨k, hk1, rfl, hkl, hN, hbr⟩ := hrel
    obtain ⟨wo, rfl⟩ : ∃ wo : World, wo = wr := ⟨_, rfl⟩
    by_cases hlt : k < l.length
    · clear hkl
      have ho := h.below hbr (Nat.le_refl _)
      obtain ⟨m, hm1⟩ : ∃ m, k = m + 1 := ⟨k - 1, by omega⟩
      have hml : m < l.length := by omega
      obtain ⟨b, o, rfl, hb, c0, c1, c2⟩ := tals_cells ho hlt
      obtain ⟨b', o', e', _, d0, d1, d2⟩ := tals_cells ho hml
      obtain ⟨rfl, rfl⟩ : b = b' ∧ o = o' := by injection e' with e; injection e with e1 e2; exact ⟨e1, e2⟩
      have hbw : b < w.heap.size := hb
      have hbo : b < wo.heap.size := Nat.lt_of_lt_of_le hbw hbr.size
      have hk0 : k - 1 < l.length := by omega
      have HE : Hid (∀ (x y : Tl), x = l[m]'hml → y = l[k]'hlt → x = l[k - 1]'hk0 ∧ y = l[k]'hlt) := fun x y hx hy => ⟨by rw [hx]; congr 1; omega, hy⟩
      obtain ⟨y, hy⟩ : ∃ y, y = l[k] := ⟨_, rfl⟩
      obtain ⟨x, hx⟩ : ∃ x, x = l[m] := ⟨_, rfl⟩
      rw [← hy] at c0 c1 c2
      rw [← hx] at d0 d1 d2
      have HX := keep (HE.out x y hx hy)
      clear hx hy HE e' ho
      have i1 : (k : Int) < (l.length : Int) := by omega
      have i2 : (m : Int) < (l.length : Int) := by omega
      have i3 : (k : Int) - 1 = (m : Int) := by omega
      have i4 : IntKind.i64.wrap (m : Int) = (m : Int) := by rw [IntWalk.i64_left]; exact IntWalk.wrap64_in _ (by omega)
      clear hm1
      obtain ⟨q, hq⟩ : ∃ q, tlLess x y = q := ⟨_, rfl⟩
      have HQ := keep hq
      clear hq
      go_upto_region 4 with fail
      go_region_held3 (Held wo.heap.size wo) (first | exact Held.start _ _ | exact Held.call (by assumption) (by assumption) (Nat.le_refl _) | assumption)
        (first | (go_at_call 73; refine (tlLess_any x y _).mono ?_; rw [HQ.out]; rintro e w2 ⟨rfl, hb2⟩))
      have hH : Held wo.heap.size wo w2 := by assumption
      have hb3 := hbr.trans (hH.2.2.mono hbr.size)
      cases q
      · go_wp2_with fail
        go_ret
        have hx1 := HX.out.1
        have hy1 := HX.out.2
        subst hx1 hy1
        have hf : tlLess l[k - 1] (l[k - 1 + 1]'(by omega)) = false := by
          have := HQ.out
          simpa only [Nat.sub_add_cancel hk1] using this
        exact ⟨ret_bool (asc_false _ l (k - 1) (by omega) hf).symm, hb3⟩
      · go_wp2_with fail
        go_roundw
        case rel =>
          refine ⟨k + 1, by omega, by go_num, .inl (by omega), keep (hN.out.step hlt hk1 ?_), hb3⟩
          rw [← HX.out.1, ← HX.out.2]
          exact HQ.out
        case measure => simp [intOf]; omega
    · go_wp2_with fail
      go_ret
      refine ⟨ret_bool (asc_of_up _ l fun j hj hk => hN.out j hj (by omega)).symm, hbr⟩
end Go.Proofs.Ytkjhnipjhefndaa
