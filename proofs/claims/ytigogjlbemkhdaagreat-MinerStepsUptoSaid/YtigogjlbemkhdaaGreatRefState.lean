/- Same of states, and the states that the statements draw. -/
import Derived.Test.YtigogjlbemkhdaaGreatRefAdd
import Derived.Test.YtigogjlbemkhdaaGreatMakeLine
namespace Go.Proofs.YtigogjlbemkhdaaGreat
open Go.RowKit
variable {oB : Nat}
set_option maxHeartbeats 4000000 in
set_option maxRecDepth 100000 in
theorem same_any (v1 v2 : Value) (L M : List Tm) (w : World) (h1 : MS oB w v1 L) (h2 : MS oB w v2 M) (he : st L = st M) (hm : L.length ≤ 1048576) : Calls Tryz.prog 11 #[v1, v2] w fun e w' => e = .returned (.bool true) ∧ Below w.heap.size w w' := by
  obtain ⟨A1, c1, rfl, _, _⟩ := h1.1.form
  obtain ⟨A2, c2, rfl, _, _⟩ := h2.1.form
  have hl : L.length = M.length := by rw [← st_len, he, st_len]
  have hl' : ((L.length : Int) != (M.length : Int)) = false := by simp [hl]
  have H1 := keep h1
  have H2 := keep h2
  have HE := keep he
  have HL := keep hl
  clear h1 h2 he hl
  go_enter Tryz.func11, Tryz.ntmps11
  go_wp2_with fail
  clear hl'
  go_loopw [5] (fun i wr => ∃ k : Nat, k ≤ L.length ∧ i = .int .i64 k ∧ Hid (Below w.heap.size w wr)) (fun i _ => L.length - (intOf i).toNat)
  case atStart => exact ⟨0, Nat.zero_le _, rfl, keep (Below.refl _ _)⟩
  case round =>
    obtain ⟨k, hk, rfl, hB⟩ := hrel
    obtain ⟨wo, rfl⟩ : ∃ wo : World, wo = wr := ⟨_, rfl⟩
    by_cases hlt : k < L.length
    · have hlt2 : k < M.length := by rw [← HL.out]; exact hlt
      obtain ⟨b, o, rfl, _, c0, c1'⟩ := tm_cells ((H1.out.1).below hB.out (Nat.le_refl _)) hlt
      obtain ⟨b2, o2, rfl, _, d0, d1'⟩ := tm_cells ((H2.out.1).below hB.out (Nat.le_refl _)) hlt2
      have e1 : L[k].tk = M[k].tk ∧ L[k].ct = M[k].ct := by
        have q1 := st_get hlt
        have q2 := st_get hlt2
        rw [HE.out, q2] at q1
        injection q1 with q1
        injection q1 with q3 q4
        exact ⟨(strs_inj q3).symm, q4.symm⟩
      have t1 := (H1.out.2 _ (List.getElem_mem hlt)).up hB.out.drew
      have t2 := (H2.out.2 _ (List.getElem_mem hlt2)).up hB.out.drew
      have hcall := sameTok_any L[k] M[k] wo.drew t1 t2
      have f1 := t1.form
      have f2 := t2.form
      rw [show decide (L[k].tk = M[k].tk) = true from decide_eq_true e1.1] at hcall
      have e2 := e1.2
      generalize L[k] = t at c0 c1' hcall f1 e2
      generalize M[k] = u at d0 d1' hcall f2 e2
      obtain ⟨B1, m1, q1, hv1⟩ := f1
      obtain ⟨B2, m2, q2, hv2⟩ := f2
      obtain ⟨tv, tk, tc⟩ := t
      obtain ⟨uv, uk, uc⟩ := u
      simp only at hv1 hv2 c0 c1' d0 d1' e2
      subst hv1
      subst hv2
      subst e2
      simp only [tmV] at hcall
      have HC := keep hcall
      clear hcall e1 t1 t2
      have d2 : (tc != tc) = false := by simp
      have i1 : (k : Int) < (L.length : Int) := by omega
      have i2 : (k : Int) < (M.length : Int) := by omega
      have i3 : (k : Int) ≤ 1048576 := by omega
      go_wp2_with fail
      go_still_tail 20, (by kernel_rfl)
      change wpList _ _ _ _ _ wo.drew
      go_wp2_with fail
      refine HC.out.mono ?_
      rintro e w2 ⟨rfl, hb2⟩
      go_wp2_with fail
      go_roundw
      case rel => exact ⟨k + 1, by omega, by go_num, keep (hB.out.drew.trans (hb2.mono hB.out.size))⟩
      case measure => simp [intOf]; omega
    · obtain rfl : k = L.length := by omega
      go_wp2_with fail
      go_ret
      exact ⟨rfl, hB.out⟩
theorem codes_noStr {w : World} {gc : Nat} (h : Codes w gc) : ∀ b, strB 0 w b → some b ≠ some gc := by
  rintro b ⟨_, hb⟩ e
  injection e with e
  subst e
  obtain ⟨_, _, _, _, _, hB, _⟩ := h
  rcases hb with hb | ⟨cur, f, hb⟩
  · omega
  rw [show w.heap[b]? = _ from hB] at hb
  injection hb with hb
  injection hb with _ hb _
  exact absurd hb (by decide)
/-- How often a line of a list has these tokens. -/
def cntS : List ByteArray → List (List UInt8) → Int
  | [], _ => 0
  | s :: S, U => (if tokW (lb s) = some U then 1 else 0) + cntS S U
theorem cntS_append (A B : List ByteArray) (U : List (List UInt8)) : cntS (A ++ B) U = cntS A U + cntS B U := by
  induction A with
  | nil => simp [cntS]
  | cons a A ih => rw [List.cons_append, cntS, cntS, ih]; omega
def StateRes (w : World) (gc most : Nat) (x : Ending) (w' : World) : Prop :=
  ∃ (v vl : Value) (L : List Tm) (S : List ByteArray), x = .returned (.tuple #[v, vl]) ∧ S.length ≤ most ∧ (∀ s ∈ S, s.size ≤ 1000) ∧ Good (st L) S.length ∧ (∀ U, cnt (st L) U = cntS S U) ∧
    w'.ownsRow w.heap.size 32 2 v L.length (tms L) ∧ (∀ t ∈ L, TkR 0 w' t) ∧ w'.ownsRow w.heap.size 9 1 vl S.length (S.map .string) ∧ Codes w' gc ∧ w.grownBy w' (some gc)
theorem own_apart {w : World} {B B' e e' size size' k k' : Nat} {v v' : Value} {xs xs' : List Value} (h : w.ownsRow B e size v k xs) (h' : w.ownsRow B' e' size' v' k' xs') (hne : e ≠ e') : v.ownBlock = none ∨ v.ownBlock ≠ v'.ownBlock := by
  cases hv : v.ownBlock with
  | none => exact .inl rfl
  | some i =>
    refine .inr fun he => ?_
    obtain ⟨_, cur, _, _, h1, _⟩ := own_at h hv
    obtain ⟨_, cur2, _, _, h2, _⟩ := own_at h' he.symm
    rw [h1] at h2
    injection h2 with h2
    injection h2 with _ h2 _
    exact hne h2
theorem Sl.and {w : World} {S S' : Nat → Prop} {size n : Nat} {v : Value} {xs : List Value} (h : Sl w S size v n xs) (h' : Sl w S' size v n xs) : Sl w (fun b => S b ∧ S' b) size v n xs := by
  obtain ⟨hl, A, c, hv, hc, hr⟩ := h
  obtain ⟨_, A', c', hv', _, hr'⟩ := h'
  refine ⟨hl, A, c, hv, hc, fun hn => ?_⟩
  obtain ⟨b, o, hA, hb, hrow⟩ := hr hn
  obtain ⟨b', o', hA', hb', _⟩ := hr' hn
  rw [hv] at hv'
  injection hv' with hv'
  rw [hA, hA'] at hv'
  injection hv' with hv'
  injection hv' with e1 e2
  subst e1
  exact ⟨b, o, hA, ⟨hb, hb'⟩, hrow⟩
/-- Tokens that lie apart from a row. -/
def TkX (w : World) (row : Option Nat) (t : Tm) : Prop := TkR 0 w t ∧ Sl w (fun b => b < w.heap.size ∧ some b ≠ row) 1 t.tv t.tk.length (t.tk.map .string)
theorem TkX.both {w : World} {row : Option Nat} {t : Tm} (h : TkX w row t) : Sl w (fun b => strB 0 w b ∧ b < w.heap.size ∧ some b ≠ row) 1 t.tv t.tk.length (t.tk.map .string) := h.1.1.and h.2
theorem TkX.mk {w : World} {row : Option Nat} {t : Tm} (h : Sl w (fun b => strB 0 w b ∧ b < w.heap.size ∧ some b ≠ row) 1 t.tv t.tk.length (t.tk.map .string)) (hl : t.tk.length ≤ 1048576) : TkX w row t :=
  ⟨⟨h.mono fun _ hb => hb.1, hl⟩, h.mono fun _ hb => hb.2⟩
theorem sl_strKeep {w w' : World} {S : Nat → Prop} {row : Option Nat} {v : Value} {n : Nat} {xs : List Value} (h : Sl w (fun b => strB 0 w b ∧ S b) 1 v n xs) (hg : w.grownBy w' row) (hr : ∀ b, strB 0 w b → S b → some b ≠ row) : Sl w' (fun b => strB 0 w' b ∧ S b) 1 v n xs := by
  obtain ⟨hl, A, c, hv, hc, hrr⟩ := h
  refine ⟨hl, A, c, hv, hc, fun hn => ?_⟩
  obtain ⟨b, o, hA, hb, hrow⟩ := hrr hn
  exact ⟨b, o, hA, ⟨hb.1.grown hg (hr b hb.1 hb.2), hb.2⟩, hrow.keep fun p hp => World.cell?_of_block (hg.block p.block (hp ▸ hb.1.lt_) (hp ▸ hr b hb.1 hb.2))⟩
theorem TkX.grown {w w' : World} {row row2 row' : Option Nat} {t : Tm} (h : TkX w row t) (hg : w.grownBy w' row2) (hr : ∀ b, strB 0 w b → some b ≠ row → some b ≠ row2) (hn : ∀ b, b < w.heap.size → some b ≠ row → some b ≠ row') : TkX w' row' t :=
  TkX.mk ((sl_strKeep h.both hg (fun b h1 h2 => hr b h1 h2.2)).mono fun _ hb => ⟨hb.1, Nat.lt_of_lt_of_le hb.2.1 hg.size, hn _ hb.2.1 hb.2.2⟩) h.1.2
set_option maxHeartbeats 8000000 in
theorem state_any (gc most : Nat) (w : World) (h : Codes w gc) (hmo : most ≤ 100) : Calls Tryz.prog 6 #[.pointer (some ⟨gc, 0, none⟩), .int .i64 most] w (StateRes w gc most) := by
  have hl := h.lt_
  go_enter Tryz.func6, Tryz.ntmps6
  go_wp2_with fail
  refine (drawNext gc _ _ h (by omega) (by omega)).mono ?_
  rintro x w1 ⟨r, rfl, r0, r1, _, hC1, hg1⟩
  have r2 := r1 (by omega)
  clear r1
  go_wp2_with fail
  go_loopw [6, 7, 8, 9] (fun v vl n _ wr => ∃ (m : Int) (L : List Tm) (S : List ByteArray), n = .int .i64 m ∧ 0 ≤ m ∧ m + S.length = r ∧ Hid (wr.ownsRow w.heap.size 32 2 v L.length (tms L)) ∧ Hid (∀ t ∈ L, TkX wr vl.ownBlock t) ∧
      Hid (wr.ownsRow w.heap.size 9 1 vl S.length (S.map .string)) ∧ Hid (Good (st L) S.length) ∧ Hid (∀ U, cnt (st L) U = cntS S U) ∧ Hid (∀ s ∈ S, s.size ≤ 1000) ∧ Codes wr gc ∧ Hid (w.grownBy wr (some gc)))
    (fun _ _ n _ _ => (intOf n).toNat)
  case atStart => exact ⟨r, [], [], rfl, r0, by simp, keep (World.ownsRow_nil _ _ _ _), keep (by simp), keep (World.ownsRow_nil _ _ _ _), keep ⟨List.Pairwise.nil, fun t ht => (by cases ht), by simp [st, sumP]⟩, keep (fun U => rfl), keep (by simp), hC1, keep hg1⟩
  case round =>
    clear hC1 hg1
    obtain ⟨m, L, S, rfl, hm0, hml, hO, hX, hV, hG, hK, hZ, hC, hW⟩ := hrel
    have hm5 : m ≤ 101 := by omega
    have hl5 : (S.length : Int) ≤ 101 := by omega
    have HML := keep hml
    clear hml
    obtain ⟨A, c, hv1, _⟩ := own_sl hO.out
    subst hv1
    obtain ⟨Av, cv, hv2, _⟩ := own_sl hV.out
    subst hv2
    by_cases hp : 0 < m
    · have hd : decide (0 < m) = true := by simpa using hp
      go_wp2_with fail
      refine (makeLine gc _ hC).mono ?_
      rintro x w2 ⟨s, rfl, hs, hC2, hg2⟩
      have hz1 := hW.out.size
      have ho2 := own_grown hO.out hg2 hl
      have hv2 := own_grown hV.out hg2 hl
      have hx2 : ∀ t ∈ L, TkX w2 (Value.slice Av S.length cv).ownBlock t := fun t ht => (hX.out t ht).grown hg2 (fun b hb _ => codes_noStr hC b hb) (fun _ _ hb => hb)
      have hw2 := grownBy_trans hW.out hg2
      have hms : MS 0 w2 (.slice A L.length c) L := ⟨Sl.of_own ho2, fun t ht => (hx2 t ht).1⟩
      have hadd := refAdd_any (.slice A L.length c) L s w2 hms ⟨hG.out.s, hG.out.p, by have := hG.out.b; omega⟩ (by omega)
      obtain ⟨o, ho⟩ : ∃ o, tokW (lb s) = o := ⟨_, rfl⟩
      rw [ho] at hadd
      have HADD := keep hadd
      have HOO := keep ho
      have HO2 := keep ho2
      have HV2 := keep hv2
      have HX2 := keep hx2
      have HW2 := keep hw2
      clear hadd ho ho2 hv2 hx2 hw2 hms hC hg2 hO hX hV hW
      go_wp2_with fail
      refine HADD.out.mono ?_
      rintro x w3 ⟨v3, L3, rfl, hms3, hb3, hcase⟩
      have hz2 := HW2.out.size
      have hv3 := own_bel HV2.out hb3
      have hgl := hC2.lt_
      have hC3 := hC2.under hb3 hgl
      have hw3 := grownBy_below HW2.out (hb3.mono hz2)
      have hz3 := hw3.size
      have key : w3.ownsRow w.heap.size 32 2 v3 L3.length (tms L3) ∧ (∀ t ∈ L3, TkX w3 (Value.slice Av S.length cv).ownBlock t) ∧ Good (st L3) ((S ++ [s]).length : Int) ∧ ∀ U, cnt (st L3) U = cntS (S ++ [s]) U := by
        have hold : ∀ t ∈ L, TkX w3 (Value.slice Av S.length cv).ownBlock t := fun t ht => (HX2.out t ht).grown (grownBy_of_below hb3 none) (fun _ _ _ => by simp) (fun _ _ hb => hb)
        have hlen : ((S ++ [s]).length : Int) = S.length + 1 := by simp
        rw [hlen]
        cases o with
        | none =>
          obtain ⟨rfl, rfl⟩ := hcase
          refine ⟨own_bel HO2.out hb3, hold, ⟨hG.out.s, hG.out.p, by have := hG.out.b; omega⟩, fun U => ?_⟩
          rw [hK.out, cntS_append, cntS, cntS, HOO.out]
          simp
        | some T =>
          obtain ⟨had, hown, hkin⟩ := hcase
          refine ⟨own_base hown hz2, fun t ht => ?_, ⟨had.s, had.p, by have := had.t; have := hG.out.b; omega⟩, fun U => ?_⟩
          · rcases hkin t ht with ⟨x, hx, h1, h2⟩ | hnew
            · have h3 := hold x hx
              refine ⟨hms3.2 t ht, ?_⟩
              rw [← h1, ← h2]
              exact h3.2
            · refine ⟨hms3.2 t ht, hnew.mono fun b hb => ⟨hb.2, fun e => ?_⟩⟩
              have := (HV2.out.lt b e.symm).2
              have h9 := hb.1
              omega
          · rw [had.c, hK.out, cntS_append, cntS, cntS, HOO.out]
            simp
      obtain ⟨ho3, hx3, hg3, hk3⟩ := key
      obtain ⟨A3, c3, hv33, _⟩ := own_sl ho3
      subst hv33
      have HO3 := keep ho3
      have HX3 := keep hx3
      have HG3 := keep hg3
      have HK3 := keep hk3
      have HV3 := keep hv3
      have HW3 := keep hw3
      clear ho3 hx3 hg3 hk3 hv3 hcase hms3 HADD hw3 HX2 HO2 HV2 hK hG
      go_wp2_with (refine wpList_push1 elSg rfl rfl _ _ _ rfl rfl rfl w.heap.size (.slice Av S.length cv) (.string s) S.length _ rfl (fun _ => rfl) (fun _ => rfl) HV3.out rfl (by unfold maxLen; omega) (by omega) hz3 ?_; intro g8 cap8 w8 hown8 hb8 hg8 hor8 _)
      have ho8 := HO3.out.kept hg8 (own_apart HO3.out HV3.out (by decide))
      have hx8 : ∀ t ∈ L3, TkX w8 (Value.slice (some ⟨g8, 0, none⟩) (S.length + 1) cap8).ownBlock t := fun t ht => (HX3.out t ht).grown hg8 (fun _ _ hb => hb) (fun b hb hne e => by
        injection e with e
        rcases hor8 with h1 | h1
        · exact hne (by rw [h1]; exact congrArg some e)
        · have e' : b = g8 := e
          omega)
      have HO8 := keep ho8
      have HX8 := keep hx8
      have hC8 := hC3.under hb8 hl
      have HW8 := keep (grownBy_below HW3.out hb8)
      clear ho8 hx8 hg8 hor8 HO3 HX3 HV3 hC2 hC3 HW3 hb8
      go_roundw
      case rel =>
        refine ⟨m - 1, L3, S ++ [s], by go_num, by omega, by have := HML.out; simp; omega, HO8, HX8, keep ?_, HG3, HK3, keep ?_, hC8, HW8⟩
        · rw [List.length_append, List.map_append]; exact hown8
        · intro t ht
          rcases List.mem_append.1 ht with ht | ht
          · exact hZ.out t ht
          · rw [List.mem_singleton.1 ht]; omega
      case measure => simp [intOf]; omega
    · have hd : decide (0 < m) = false := by simpa using hp
      go_wp2_with fail
      go_ret2
      exact ⟨_, _, L, S, rfl, by have := HML.out; omega, hZ.out, hG.out, hK.out, hO.out, fun t ht => (hX.out t ht).1, hV.out, hC, hW.out⟩
end Go.Proofs.YtigogjlbemkhdaaGreat
