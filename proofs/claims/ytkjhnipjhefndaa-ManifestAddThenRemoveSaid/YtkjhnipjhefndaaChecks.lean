/- The contracts of IndexFunc, ContainsFunc, index, Find and Check of package manifest. -/
import Derived.Test.YtkjhnipjhefndaaSorted
namespace Go.Proofs.Ytkjhnipjhefndaa
open Go.RowKit

structure Man where
  (nu nx jo : Int) (segs : List Seg) (marks : List Mk) (tals exps : List Tl)
/-- What keeps a manifest from being valid. -/
def manErr (m : Man) : Int :=
  if 64 < m.segs.length then 4 else if m.nu < 0 ∨ m.nx < 0 ∨ m.jo < 0 ∨ m.segs.any (segBad m.nx) = true then 2
  else if asc segLess m.segs = true ∧ asc mkLess m.marks = true ∧ asc tlLess m.tals = true ∧ asc tlLess m.exps = true then 0 else 19
/-- The first index of an element with a property, or -1. -/
def IdxAt (l : List Seg) (p : Seg → Bool) (r : Int) : Prop :=
  (∃ i : Nat, ∃ h : i < l.length, r = (i : Int) ∧ p l[i] = true ∧ ∀ j, (hj : j < l.length) → j < i → p l[j] = false) ∨ (r = -1 ∧ ∀ j, (hj : j < l.length) → p l[j] = false)
theorem IdxAt.any {l : List Seg} {p : Seg → Bool} {r : Int} (h : IdxAt l p r) : decide (0 ≤ r) = l.any p := by
  rcases h with ⟨i, hi, rfl, hp, _⟩ | ⟨rfl, hn⟩
  · rw [List.any_eq_true.2 ⟨l[i], List.getElem_mem _, hp⟩]; simp
  · have : l.any p = false := by
      rw [List.any_eq_false]
      intro x hx
      obtain ⟨j, hj, rfl⟩ := List.getElem_of_mem hx
      rw [hn j hj]; simp
    rw [this]; rfl
def No (l : List Seg) (p : Seg → Bool) (k : Nat) : Prop := ∀ j, (hj : j < l.length) → j < k → p l[j] = false
theorem No.step {l : List Seg} {p : Seg → Bool} {k : Nat} (h : No l p k) (hk : k < l.length) (hp : p l[k] = false) : No l p (k + 1) := by
  intro j hj hlt
  by_cases e : j = k
  · subst e; exact hp
  · exact h j hj (by omega)
def IdxRes (w : World) (l : List Seg) (p : Seg → Bool) (e : Ending) (w' : World) : Prop := ∃ r : Int, e = .returned (.int .i64 r) ∧ IdxAt l p r ∧ Below w.heap.size w w'

/-- A box that holds a manifest's fields. -/
abbrev manCells (m : Man) (vS vM vT vE : Value) : Array Value := #[.int .i64 m.nu, .int .i64 m.nx, .int .i64 m.jo, vS, vM, vT, vE]
theorem Blk.cell7 {w : World} {g t : Nat} {x0 x1 x2 x3 x4 x5 x6 : Value} (h : Blk w g t #[x0, x1, x2, x3, x4, x5, x6]) :
    w.cell? ⟨g, 0, none⟩ = some x0 ∧ w.cell? ⟨g, 1, none⟩ = some x1 ∧ w.cell? ⟨g, 2, none⟩ = some x2 ∧ w.cell? ⟨g, 3, none⟩ = some x3 ∧ w.cell? ⟨g, 4, none⟩ = some x4 ∧ w.cell? ⟨g, 5, none⟩ = some x5 ∧ w.cell? ⟨g, 6, none⟩ = some x6 :=
  ⟨by rw [h.cell]; rfl, by rw [h.cell]; rfl, by rw [h.cell]; rfl, by rw [h.cell]; rfl, by rw [h.cell]; rfl, by rw [h.cell]; rfl, by rw [h.cell]; rfl⟩

theorem bad_any (g : Nat) (m : Man) (vS vM vT vE : Value) (s : Seg) (w : World) (hB : Blk w g 28 (manCells m vS vM vT vE)) :
    Calls Try.prog 37 #[s.agg, .pointer (some ⟨g, 0, none⟩)] w fun e w' => e = .returned (.bool (segBad m.nx s)) ∧ Below w.heap.size w w' := by
  obtain ⟨c0, c1, c2, c3, c4, c5, c6⟩ := hB.cell7
  have hg := hB.lt
  obtain ⟨q, hq⟩ : ∃ q, segBad m.nx s = q := ⟨_, rfl⟩
  have HQ := keep hq
  clear hq
  go_enter Try.func37, Try.ntmps37
  go_wp2_with fail
  refine (wrong_any _ _ _ _ _ _ _ _ _).mono ?_
  rw [HQ.out]
  rintro e w1 ⟨rfl, hb⟩
  go_wp2_with fail
  go_ret
  exact ⟨ret_bool HQ.out.symm, ((Below.refl _ w).alloc (Nat.le_refl _) _).trans (hb.mono (by simp))⟩
theorem isId_any (g : Nat) (id : Int) (s : Seg) (w : World) (hB : Blk w g 3 #[.int .i64 id]) :
    Calls Try.prog 78 #[s.agg, .pointer (some ⟨g, 0, none⟩)] w fun e w' => e = .returned (.bool (s.id == id)) ∧ Below w.heap.size w w' := by
  have c0 : w.cell? ⟨g, 0, none⟩ = some (.int .i64 id) := by rw [hB.cell]; rfl
  have hg := hB.lt
  go_enter Try.func78, Try.ntmps78
  go_wp2_with fail
  go_ret
  exact ⟨rfl, (Below.refl _ w).alloc (Nat.le_refl _) _⟩
set_option maxRecDepth 100000 in
theorem idxBad_any (v : Value) (l : List Seg) (g : Nat) (m : Man) (vS vM vT vE : Value) (w : World) (hB : Blk w g 28 (manCells m vS vM vT vE)) (h : Sl w (lt w.heap.size) 7 v l.length (l.flatMap Seg.vals)) (hm : l.length ≤ 1000000) :
    Calls Try.prog 71 #[v, .func (.func 37) #[] #[.pointer (some ⟨g, 0, none⟩)]] w (IdxRes w l (segBad m.nx)) := by
  obtain ⟨A, c, rfl, hc, h⟩ := h.form
  have hgl := hB.lt
  go_enter Try.func71, Try.ntmps71
  go_wp2_with fail
  go_loopw [5, 8] (fun _ i wr => ∃ k : Nat, k ≤ l.length ∧ i = .int .i64 k ∧ Hid (No l (segBad m.nx) k) ∧ Below w.heap.size w wr) (fun _ i _ => l.length - (intOf i).toNat)
  case atStart => exact ⟨0, Nat.zero_le _, rfl, keep (fun j _ h => absurd h (by omega)), Below.refl _ _⟩
  case round =>
    obtain ⟨k, hk, rfl, hN, hbr⟩ := hrel
    obtain ⟨wo, rfl⟩ : ∃ wo : World, wo = wr := ⟨_, rfl⟩
    by_cases hlt : k < l.length
    · obtain ⟨b, o, rfl, hb, c0, c1, c2, c3, c4, c5, c6⟩ := segs_cells (h.below hbr (Nat.le_refl _)) hlt
      have hBo := hB.below hbr hgl
      obtain ⟨y, hy⟩ : ∃ y, y = l[k]'hlt := ⟨_, rfl⟩
      rw [← hy] at c0 c1 c2 c3 c4 c5 c6
      have HY := keep hy
      clear hy
      have i1 : (k : Int) < (l.length : Int) := by omega
      obtain ⟨q, hq⟩ : ∃ q, (segBad m.nx) y = q := ⟨_, rfl⟩
      have HQ := keep hq
      clear hq
      go_wp2_with fail
      refine (bad_any g m vS vM vT vE y _ hBo).mono ?_
      rintro e w1 ⟨he, hb1⟩
      have he2 : e = .returned (.bool q) := he.trans (ret_bool HQ.out)
      subst he2
      clear he
      have hb3 := hbr.trans (hb1.mono hbr.size)
      have HP : Hid ((segBad m.nx) (l[k]'hlt) = q) := by rw [← HY.out]; exact HQ.out
      cases q
      · go_wp2_with fail
        go_roundw
        case rel => exact ⟨k + 1, by omega, by go_num, keep (hN.out.step hlt HP.out), hb3⟩
        case measure => simp [intOf]; omega
      · go_wp2_with fail
        go_ret
        exact ⟨_, rfl, .inl ⟨k, hlt, rfl, HP.out, hN.out⟩, hb3⟩
    · go_wp2_with fail
      go_ret
      exact ⟨_, rfl, .inr ⟨rfl, fun j hj => hN.out j hj (by omega)⟩, hbr⟩
set_option maxRecDepth 100000 in
theorem idxId_any (v : Value) (l : List Seg) (g : Nat) (id : Int) (w : World) (hB : Blk w g 3 #[.int .i64 id]) (h : Sl w (lt w.heap.size) 7 v l.length (l.flatMap Seg.vals)) (hm : l.length ≤ 1000000) :
    Calls Try.prog 71 #[v, .func (.func 78) #[] #[.pointer (some ⟨g, 0, none⟩)]] w (IdxRes w l (fun s => s.id == id)) := by
  obtain ⟨A, c, rfl, hc, h⟩ := h.form
  have hgl := hB.lt
  go_enter Try.func71, Try.ntmps71
  go_wp2_with fail
  go_loopw [5, 8] (fun _ i wr => ∃ k : Nat, k ≤ l.length ∧ i = .int .i64 k ∧ Hid (No l (fun s => s.id == id) k) ∧ Below w.heap.size w wr) (fun _ i _ => l.length - (intOf i).toNat)
  case atStart => exact ⟨0, Nat.zero_le _, rfl, keep (fun j _ h => absurd h (by omega)), Below.refl _ _⟩
  case round =>
    obtain ⟨k, hk, rfl, hN, hbr⟩ := hrel
    obtain ⟨wo, rfl⟩ : ∃ wo : World, wo = wr := ⟨_, rfl⟩
    by_cases hlt : k < l.length
    · obtain ⟨b, o, rfl, hb, c0, c1, c2, c3, c4, c5, c6⟩ := segs_cells (h.below hbr (Nat.le_refl _)) hlt
      have hBo := hB.below hbr hgl
      obtain ⟨y, hy⟩ : ∃ y, y = l[k]'hlt := ⟨_, rfl⟩
      rw [← hy] at c0 c1 c2 c3 c4 c5 c6
      have HY := keep hy
      clear hy
      have i1 : (k : Int) < (l.length : Int) := by omega
      obtain ⟨q, hq⟩ : ∃ q, (fun s => s.id == id) y = q := ⟨_, rfl⟩
      have HQ := keep hq
      clear hq
      go_wp2_with fail
      refine (isId_any g id y _ hBo).mono ?_
      rintro e w1 ⟨he, hb1⟩
      have he2 : e = .returned (.bool q) := he.trans (ret_bool HQ.out)
      subst he2
      clear he
      have hb3 := hbr.trans (hb1.mono hbr.size)
      have HP : Hid ((fun s => s.id == id) (l[k]'hlt) = q) := by rw [← HY.out]; exact HQ.out
      cases q
      · go_wp2_with fail
        go_roundw
        case rel => exact ⟨k + 1, by omega, by go_num, keep (hN.out.step hlt HP.out), hb3⟩
        case measure => simp [intOf]; omega
      · go_wp2_with fail
        go_ret
        exact ⟨_, rfl, .inl ⟨k, hlt, rfl, HP.out, hN.out⟩, hb3⟩
    · go_wp2_with fail
      go_ret
      exact ⟨_, rfl, .inr ⟨rfl, fun j hj => hN.out j hj (by omega)⟩, hbr⟩
theorem contBad_any (v : Value) (l : List Seg) (g : Nat) (m : Man) (vS vM vT vE : Value) (w : World) (hB : Blk w g 28 (manCells m vS vM vT vE)) (h : Sl w (lt w.heap.size) 7 v l.length (l.flatMap Seg.vals)) (hm : l.length ≤ 1000000) :
    Calls Try.prog 36 #[v, .func (.func 37) #[] #[.pointer (some ⟨g, 0, none⟩)]] w fun e w' => e = .returned (.bool (l.any (segBad m.nx))) ∧ Below w.heap.size w w' := by
  have H := keep (idxBad_any v l g m vS vM vT vE w hB h hm)
  clear hB h
  go_enter Try.func36, Try.ntmps36
  go_wp2_with fail
  refine H.out.mono ?_
  rintro e w1 ⟨r, rfl, hr, hb⟩
  have hR := keep hr.any
  clear hr
  go_wp2_with fail
  go_ret
  exact ⟨ret_bool hR.out, hb⟩
theorem tallies_any (v : Value) (l : List Tl) (w : World) (h : Sl w (lt w.heap.size) 3 v l.length (l.flatMap Tl.vals)) (hm : l.length ≤ 1000000) :
    Calls Try.prog 44 #[v] w fun e w' => e = .returned (.bool (asc tlLess l)) ∧ Below w.heap.size w w' := by
  have H := keep (sortedTl_any v l w h hm)
  obtain ⟨q, hq⟩ : ∃ q, asc tlLess l = q := ⟨_, rfl⟩
  rw [hq] at H ⊢
  clear h hq
  go_enter Try.func44, Try.ntmps44
  go_wp2_with fail
  refine H.out.mono ?_
  rintro e w1 ⟨rfl, hb⟩
  go_wp2_with fail
  go_ret
  exact ⟨rfl, hb⟩
/-- The fields of a manifest's value. -/
structure Lies (w : World) (S : Nat → Prop) (m : Man) (vS vM vT vE : Value) : Prop where
  s : Sl w S 7 vS m.segs.length (m.segs.flatMap Seg.vals)
  m_ : Sl w S 3 vM m.marks.length (m.marks.flatMap Mk.vals)
  t : Sl w S 3 vT m.tals.length (m.tals.flatMap Tl.vals)
  e : Sl w S 3 vE m.exps.length (m.exps.flatMap Tl.vals)
structure Small (m : Man) : Prop where
  s : m.segs.length ≤ 1000000
  m_ : m.marks.length ≤ 1000000
  t : m.tals.length ≤ 1000000
  e : m.exps.length ≤ 1000000
theorem Lies.below {w w' : World} {m : Man} {vS vM vT vE : Value} (h : Lies w (lt w.heap.size) m vS vM vT vE) (hb : Below w.heap.size w w') : Lies w' (lt w'.heap.size) m vS vM vT vE :=
  ⟨(h.s.below hb (Nat.le_refl _)).more hb.size, (h.m_.below hb (Nat.le_refl _)).more hb.size, (h.t.below hb (Nat.le_refl _)).more hb.size, (h.e.below hb (Nat.le_refl _)).more hb.size⟩
end Go.Proofs.Ytkjhnipjhefndaa
