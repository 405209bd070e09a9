/- Same of states, and the states that the statements draw. -/
import Derived.Test.YtibljgnajbblaaaRefIns
import Derived.Test.YtibljgnajbblaaaMakeLine
namespace Go.Proofs.Ytibljgnajbblaaa
open Go.RowKit
variable {oB : Nat}
set_option maxHeartbeats 4000000 in
set_option maxRecDepth 100000 in
theorem same_any (v1 v2 : Value) (L M : List Tm) (w : World) (h1 : MS oB w v1 L) (h2 : MS oB w v2 M) (he : st L = st M) (hm : L.length ≤ 1000000) : Calls Try.prog 13 #[v1, v2] w fun e w' => e = .returned (.bool true) ∧ Below w.heap.size w w' := by
  obtain ⟨A1, c1, rfl, _, _⟩ := h1.1.form
  obtain ⟨A2, c2, rfl, _, _⟩ := h2.1.form
  have hl : L.length = M.length := by rw [← st_len, he, st_len]
  have hl' : ((L.length : Int) != (M.length : Int)) = false := by simp [hl]
  have H1 := keep h1
  have H2 := keep h2
  have HE := keep he
  have HL := keep hl
  clear h1 h2 he hl
  go_enter Try.func13, Try.ntmps13
  go_wp2_with fail
  clear hl'
  go_loopw [5] (fun i wr => ∃ k : Nat, k ≤ L.length ∧ i = .int .i64 k ∧ Hid (Below w.heap.size w wr)) (fun i _ => L.length - (intOf i).toNat)
  case atStart => exact ⟨0, Nat.zero_le _, rfl, keep (Below.refl _ _)⟩
  case round =>
    obtain ⟨k, hk, rfl, hB⟩ := hrel
    obtain ⟨wo, rfl⟩ : ∃ wo : World, wo = wr := ⟨_, rfl⟩
    by_cases hlt : k < L.length
    · have hlt2 : k < M.length := by rw [← HL.out]; exact hlt
      obtain ⟨b, o, rfl, _, c0, c1'⟩ := tm_cells ((H1.out.1).below hB.out (Nat.le_refl _)) hlt
      obtain ⟨b2, o2, rfl, _, d0, d1'⟩ := tm_cells ((H2.out.1).below hB.out (Nat.le_refl _)) hlt2
      have e1 : L[k].tk = M[k].tk ∧ L[k].ct = M[k].ct := by
        have q1 := st_get hlt
        have q2 := st_get hlt2
        rw [HE.out, q2] at q1
        injection q1 with q1
        injection q1 with q3 q4
        exact ⟨(strs_inj q3).symm, q4.symm⟩
      have t1 := (H1.out.2 _ (List.getElem_mem hlt)).up hB.out.drew
      have t2 := (H2.out.2 _ (List.getElem_mem hlt2)).up hB.out.drew
      have hcall := sameTok_any L[k] M[k] wo.drew t1 t2
      have f1 := t1.form
      have f2 := t2.form
      rw [show decide (L[k].tk = M[k].tk) = true from decide_eq_true e1.1] at hcall
      have e2 := e1.2
      generalize L[k] = t at c0 c1' hcall f1 e2
      generalize M[k] = u at d0 d1' hcall f2 e2
      obtain ⟨B1, m1, q1, hv1⟩ := f1
      obtain ⟨B2, m2, q2, hv2⟩ := f2
      obtain ⟨tv, tk, tc⟩ := t
      obtain ⟨uv, uk, uc⟩ := u
      simp only at hv1 hv2 c0 c1' d0 d1' e2
      subst hv1
      subst hv2
      subst e2
      simp only [tmV] at hcall
      have HC := keep hcall
      clear hcall e1 t1 t2
      have d2 : (tc != tc) = false := by simp
      have i1 : (k : Int) < (L.length : Int) := by omega
      have i2 : (k : Int) < (M.length : Int) := by omega
      have i3 : (k : Int) ≤ 1000000 := by omega
      go_wp2_with fail
      go_still_tail 20, (by kernel_rfl)
      change wpList _ _ _ _ _ wo.drew
      go_wp2_with fail
      refine HC.out.mono ?_
      rintro e w2 ⟨rfl, hb2⟩
      go_wp2_with fail
      go_roundw
      case rel => exact ⟨k + 1, by omega, by go_num, keep (hB.out.drew.trans (hb2.mono hB.out.size))⟩
      case measure => simp [intOf]; omega
    · obtain rfl : k = L.length := by omega
      go_wp2_with fail
      go_ret
      exact ⟨rfl, hB.out⟩
theorem codes_noStr {w : World} {gc : Nat} (h : Codes w gc) : ∀ b, strB 0 w b → some b ≠ some gc := by
  rintro b ⟨_, hb⟩ e
  injection e with e
  subst e
  obtain ⟨_, _, _, _, _, hB, _⟩ := h
  rcases hb with hb | ⟨cur, f, hb⟩
  · omega
  rw [show w.heap[b]? = _ from hB] at hb
  injection hb with hb
  injection hb with _ hb _
  exact absurd hb (by decide)
/-- How often a line of a list has these tokens. -/
def cntS : List ByteArray → List (List UInt8) → Int
  | [], _ => 0
  | s :: S, U => (if tokW (lb s) = some U then 1 else 0) + cntS S U
theorem cntS_append (A B : List ByteArray) (U : List (List UInt8)) : cntS (A ++ B) U = cntS A U + cntS B U := by
  induction A with
  | nil => simp [cntS]
  | cons a A ih => rw [List.cons_append, cntS, cntS, ih]; omega
theorem own_apart {w : World} {B B' e e' size size' k k' : Nat} {v v' : Value} {xs xs' : List Value} (h : w.ownsRow B e size v k xs) (h' : w.ownsRow B' e' size' v' k' xs') (hne : e ≠ e') : v.ownBlock = none ∨ v.ownBlock ≠ v'.ownBlock := by
  cases hv : v.ownBlock with
  | none => exact .inl rfl
  | some i =>
    refine .inr fun he => ?_
    obtain ⟨_, cur, _, _, h1, _⟩ := own_at h hv
    obtain ⟨_, cur2, _, _, h2, _⟩ := own_at h' he.symm
    rw [h1] at h2
    injection h2 with h2
    injection h2 with _ h2 _
    exact hne h2
theorem Sl.and {w : World} {S S' : Nat → Prop} {size n : Nat} {v : Value} {xs : List Value} (h : Sl w S size v n xs) (h' : Sl w S' size v n xs) : Sl w (fun b => S b ∧ S' b) size v n xs := by
  obtain ⟨hl, A, c, hv, hc, hr⟩ := h
  obtain ⟨_, A', c', hv', _, hr'⟩ := h'
  refine ⟨hl, A, c, hv, hc, fun hn => ?_⟩
  obtain ⟨b, o, hA, hb, hrow⟩ := hr hn
  obtain ⟨b', o', hA', hb', _⟩ := hr' hn
  rw [hv] at hv'
  injection hv' with hv'
  rw [hA, hA'] at hv'
  injection hv' with hv'
  injection hv' with e1 e2
  subst e1
  exact ⟨b, o, hA, ⟨hb, hb'⟩, hrow⟩
/-- Tokens that lie apart from a row. -/
def TkX (w : World) (row : Option Nat) (t : Tm) : Prop := TkR 0 w t ∧ Sl w (fun b => b < w.heap.size ∧ some b ≠ row) 1 t.tv t.tk.length (t.tk.map .string)
theorem TkX.both {w : World} {row : Option Nat} {t : Tm} (h : TkX w row t) : Sl w (fun b => strB 0 w b ∧ b < w.heap.size ∧ some b ≠ row) 1 t.tv t.tk.length (t.tk.map .string) := h.1.1.and h.2
theorem TkX.mk {w : World} {row : Option Nat} {t : Tm} (h : Sl w (fun b => strB 0 w b ∧ b < w.heap.size ∧ some b ≠ row) 1 t.tv t.tk.length (t.tk.map .string)) (hl : t.tk.length ≤ 1000000) : TkX w row t :=
  ⟨⟨h.mono fun _ hb => hb.1, hl⟩, h.mono fun _ hb => hb.2⟩
theorem sl_strKeep {w w' : World} {S : Nat → Prop} {row : Option Nat} {v : Value} {n : Nat} {xs : List Value} (h : Sl w (fun b => strB 0 w b ∧ S b) 1 v n xs) (hg : w.grownBy w' row) (hr : ∀ b, strB 0 w b → S b → some b ≠ row) : Sl w' (fun b => strB 0 w' b ∧ S b) 1 v n xs := by
  obtain ⟨hl, A, c, hv, hc, hrr⟩ := h
  refine ⟨hl, A, c, hv, hc, fun hn => ?_⟩
  obtain ⟨b, o, hA, hb, hrow⟩ := hrr hn
  exact ⟨b, o, hA, ⟨hb.1.grown hg (hr b hb.1 hb.2), hb.2⟩, hrow.keep fun p hp => World.cell?_of_block (hg.block p.block (hp ▸ hb.1.lt_) (hp ▸ hr b hb.1 hb.2))⟩
theorem TkX.grown {w w' : World} {row row2 row' : Option Nat} {t : Tm} (h : TkX w row t) (hg : w.grownBy w' row2) (hr : ∀ b, strB 0 w b → some b ≠ row → some b ≠ row2) (hn : ∀ b, b < w.heap.size → some b ≠ row → some b ≠ row') : TkX w' row' t :=
  TkX.mk ((sl_strKeep h.both hg (fun b h1 h2 => hr b h1 h2.2)).mono fun _ hb => ⟨hb.1, Nat.lt_of_lt_of_le hb.2.1 hg.size, hn _ hb.2.1 hb.2.2⟩) h.1.2
end Go.Proofs.Ytibljgnajbblaaa
