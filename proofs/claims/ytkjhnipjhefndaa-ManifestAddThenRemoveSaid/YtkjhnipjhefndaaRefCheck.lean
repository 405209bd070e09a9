/- The contract of the reference's Check. -/
import Derived.Test.YtkjhnipjhefndaaCheckP
import Derived.Test.YtkjhnipjhefndaaRefTal
namespace Go.Proofs.Ytkjhnipjhefndaa
open Go.RowKit

theorem no_any {l : List Seg} {p : Seg → Bool} (h : No l p l.length) : l.any p = false := by
  rw [List.any_eq_false]
  intro x hx
  obtain ⟨j, hj, rfl⟩ := List.getElem_of_mem hx
  rw [h j hj hj]; simp
theorem yes_any {l : List Seg} {p : Seg → Bool} {k : Nat} (h : k < l.length) (hp : p l[k] = true) : l.any p = true := List.any_eq_true.2 ⟨l[k], List.getElem_mem _, hp⟩

set_option maxHeartbeats 2000000 in
set_option maxRecDepth 100000 in
theorem refCheck_any (m : Man) (vS vM vT vE : Value) (w : World) (hL : Lies w (lt w.heap.size) m vS vM vT vE) (hsm : Small m) :
    Calls Try.prog 16 #[.agg (manCells m vS vM vT vE)] w (IsErr w (manErr m)) := by
  have hba : Below w.heap.size w (w.alloc (.cells (manCells m vS vM vT vE) 28)) := (Below.refl _ w).alloc (Nat.le_refl _) _
  obtain ⟨AS, cS, rfl, _, _⟩ := hL.s.form
  obtain ⟨AM, cM, rfl, _, _⟩ := hL.m_.form
  obtain ⟨AT, cT, rfl, _, _⟩ := hL.t.form
  obtain ⟨AE, cE, rfl, _, _⟩ := hL.e.form
  have hLa := hL.below hba
  have hB := Blk.new w 28 (manCells m (.slice AS m.segs.length cS) (.slice AM m.marks.length cM) (.slice AT m.tals.length cT) (.slice AE m.exps.length cE))
  by_cases h64 : 64 < m.segs.length
  · rw [manErr_many h64]
    clear hLa hL hB
    go_enter Try.func16, Try.ntmps16
    go_wp2_with fail
    go_ret
    exact ⟨rfl, hba⟩
  · by_cases hneg : m.nu < 0 ∨ m.nx < 0 ∨ m.jo < 0
    · rw [manErr_range h64 (by rcases hneg with h | h | h; exact .inl h; exact .inr (.inl h); exact .inr (.inr (.inl h)))]
      clear hLa hL hB
      by_cases h1 : m.nu < 0
      · go_enter Try.func16, Try.ntmps16
        go_wp2_with fail
        go_ret
        exact ⟨rfl, hba⟩
      · by_cases h2 : m.nx < 0
        · clear hneg
          go_enter Try.func16, Try.ntmps16
          go_wp2_with fail
          go_ret
          exact ⟨rfl, hba⟩
        · have h3 : m.jo < 0 := by omega
          clear hneg
          go_enter Try.func16, Try.ntmps16
          go_wp2_with fail
          go_ret
          exact ⟨rfl, hba⟩
    · have n1 : ¬ m.nu < 0 := fun h => hneg (.inl h)
      have n2 : ¬ m.nx < 0 := fun h => hneg (.inr (.inl h))
      have n3 : ¬ m.jo < 0 := fun h => hneg (.inr (.inr h))
      have hl64 : m.segs.length ≤ 64 := by omega
      obtain ⟨q2, hq2⟩ : ∃ q, asc mkLess m.marks = q := ⟨_, rfl⟩
      obtain ⟨q3, hq3⟩ : ∃ q, asc tlLess m.tals = q := ⟨_, rfl⟩
      obtain ⟨q4, hq4⟩ : ∃ q, asc tlLess m.exps = q := ⟨_, rfl⟩
      have HE0 : Hid (m.segs.any (segBad m.nx) = false → manErr m = if asc segLess m.segs = true ∧ q2 = true ∧ q3 = true ∧ q4 = true then 0 else 19) := fun hqb => by
        rw [manErr_rest h64 hneg hqb, hq2, hq3, hq4]
      have HE2 : Hid (m.segs.any (segBad m.nx) = true → manErr m = 2) := fun hqb => manErr_range h64 (.inr (.inr (.inr hqb)))
      generalize manErr m = r at *
      have H2 := keep hq2
      have H3 := keep hq3
      have H4 := keep hq4
      clear hq2 hq3 hq4 hneg h64
      obtain ⟨W, hW⟩ : ∃ W, W = w.alloc (.cells (manCells m (.slice AS m.segs.length cS) (.slice AM m.marks.length cM) (.slice AT m.tals.length cT) (.slice AE m.exps.length cE)) 28) := ⟨_, rfl⟩
      obtain ⟨g, hg⟩ : ∃ g, g = w.heap.size := ⟨_, rfl⟩
      go_enter Try.func16, Try.ntmps16
      go_upto_region 1 with fail
      rw [← hW, ← hg]
      rw [← hW] at hba hLa hB
      rw [← hg] at hB
      clear hW hL hg
      have hgl := hB.lt
      obtain ⟨c0, c1, c2, c3, c4, c5, c6⟩ := hB.cell7
      go_wp2_with fail
      go_loopw [3, 4] (fun i _ wr => ∃ k : Nat, k ≤ m.segs.length ∧ i = .int .i64 k ∧ Hid (No m.segs (segBad m.nx) k) ∧ Below W.heap.size W wr) (fun i _ _ => m.segs.length - (intOf i).toNat)
      case atStart => exact ⟨0, Nat.zero_le _, rfl, keep (fun j _ h => absurd h (by omega)), Below.refl _ _⟩
      case round =>
        obtain ⟨k, hk, rfl, hN, hbr⟩ := hrel
        obtain ⟨wo, rfl⟩ : ∃ wo : World, wo = wr := ⟨_, rfl⟩
        clear c0 c1 c2 c3 c4 c5 c6
        have hBo := hB.below hbr hgl
        have hgo := hBo.lt
        obtain ⟨c0, c1, c2, c3, c4, c5, c6⟩ := hBo.cell7
        have hbo : Below w.heap.size w wo := hba.trans (hbr.mono hba.size)
        by_cases hlt : k < m.segs.length
        · obtain ⟨b, o, rfl, hb, t0, t1, t2, t3, t4, t5, t6⟩ := segs_cells (hLa.s.below hbr (Nat.le_refl _)) hlt
          have hbl : b < wo.heap.size := Nat.lt_of_lt_of_le hb hbr.size
          obtain ⟨y, hy⟩ : ∃ y, y = m.segs[k]'hlt := ⟨_, rfl⟩
          rw [← hy] at t0 t1 t2 t3 t4 t5 t6
          have HY := keep hy
          clear hy
          have i1 : (k : Int) < (m.segs.length : Int) := by omega
          go_wp2_with fail
          all_goals
            first
              | (go_ret
                 have hbad : segBad m.nx y = true := by simp [segBad, *]
                 rw [HY.out] at hbad
                 exact ⟨ret_int (HE2.out (yes_any hlt hbad)).symm, hbo.alloc hbo.size _⟩)
              | (go_roundw
                 case rel =>
                   have hbad : segBad m.nx y = false := by simp [segBad, *]
                   rw [HY.out] at hbad
                   exact ⟨k + 1, by omega, by go_num, keep (hN.out.step hlt hbad), hbr.alloc hbr.size _⟩
                 case measure => simp [intOf]; omega)
        · have HE := keep (HE0.out (no_any fun j hj _ => hN.out j hj (by omega)))
          clear hN HE0 HE2 hk
          go_wp2_with fail
          go_loopw [5] (fun i wr => ∃ k : Nat, 1 ≤ k ∧ i = .int .i64 k ∧ (k ≤ m.segs.length ∨ k = 1) ∧ Hid (Up segLess m.segs k) ∧ Below W.heap.size W wr) (fun i _ => m.segs.length - (intOf i).toNat)
          case atStart => exact ⟨1, Nat.le_refl _, rfl, .inr rfl, keep (fun j _ h => absurd h (by omega)), hbr⟩
          case round =>
            obtain ⟨j, hj1, rfl, hjl, hN, hbs⟩ := hrel
            obtain ⟨wp, rfl⟩ : ∃ wp : World, wp = wr := ⟨_, rfl⟩
            clear c0 c1 c2 c3 c4 c5 c6 hBo hgo hbo hbr hlt
            have hBo := hB.below hbs hgl
            have hgo := hBo.lt
            obtain ⟨c0, c1, c2, c3, c4, c5, c6⟩ := hBo.cell7
            have hbo : Below w.heap.size w wp := hba.trans (hbs.mono hba.size)
            by_cases hlt : j < m.segs.length
            · clear hjl
              have ho := hLa.s.below hbs (Nat.le_refl _)
              obtain ⟨i, hm1⟩ : ∃ i, j = i + 1 := ⟨j - 1, by omega⟩
              have hml : i < m.segs.length := by omega
              obtain ⟨b, o, rfl, hb, t0, t1, t2, t3, t4, t5, t6⟩ := segs_cells ho hlt
              obtain ⟨b', o', e', _, d0, d1, d2, d3, d4, d5, d6⟩ := segs_cells ho hml
              obtain ⟨rfl, rfl⟩ : b = b' ∧ o = o' := by injection e' with e; injection e with e1 e2; exact ⟨e1, e2⟩
              have hk0 : j - 1 < m.segs.length := by omega
              have HX : Hid (m.segs[i]'hml = m.segs[j - 1]'hk0) := by congr 1; omega
              clear e' ho hb t1 t2 t3 t4 t5 t6 d1 d2 d3 d4 d5 d6
              have i1 : (j : Int) < (m.segs.length : Int) := by omega
              have i2 : (i : Int) < (m.segs.length : Int) := by omega
              have i3 : (j : Int) - 1 = (i : Int) := by omega
              have i4 : IntKind.i64.wrap (i : Int) = (i : Int) := by rw [IntWalk.i64_left]; exact IntWalk.wrap64_in _ (by omega)
              have fin0 : Hid (segLess (m.segs[i]'hml) (m.segs[j]'hlt) = false → r = 19) := by
                intro hf
                have hf' : segLess m.segs[j - 1] (m.segs[j - 1 + 1]'(by omega)) = false := by
                  rw [HX.out] at hf
                  simpa only [Nat.sub_add_cancel hj1] using hf
                have := HE.out
                rw [asc_false _ m.segs (j - 1) (by omega) hf'] at this
                simpa using this
              have fin1 : Hid (segLess (m.segs[i]'hml) (m.segs[j]'hlt) = true → Up segLess m.segs (j + 1)) := by
                intro hq
                refine hN.out.step hlt hj1 ?_
                rw [← HX.out]; exact hq
              clear hm1 HX
              generalize hxe : m.segs[i]'hml = x at *
              generalize hye : m.segs[j]'hlt = y at *
              clear hxe hye
              by_cases hle : y.id ≤ x.id
              · have g1 : decide (y.id ≤ x.id) = true := by simpa using hle
                have HF : Hid (segLess x y = false) := decide_eq_false (by omega)
                clear hle
                go_upto_region 14 with fail
                go_quiet (fail)
                go_wp2_with fail
                go_ret
                exact ⟨ret_int (fin0.out HF.out).symm, hbo.trans (below_drewN (Below.refl _ _) _)⟩
              · have g1 : decide (y.id ≤ x.id) = false := by simpa using hle
                have HF : Hid (segLess x y = true) := decide_eq_true (by omega)
                clear hle
                go_upto_region 14 with fail
                go_quiet (fail)
                go_wp2_with fail
                go_roundw
                case rel => exact ⟨j + 1, by omega, by go_num, .inl (by omega), keep (fin1.out HF.out), hbs.trans (below_drewN (Below.refl _ _) _)⟩
                case measure => simp [intOf]; omega
            · have HE1 : Hid (r = if q2 = true ∧ q3 = true ∧ q4 = true then 0 else 19) := by
                refine keep ?_
                have := HE.out
                rw [asc_of_up _ m.segs fun i hi _ => hN.out i hi (by omega)] at this
                simpa using this
              clear hN HE hjl
              have hM := hLa.m_
              have hMl := hsm.m_
              go_wp2_with fail
              go_loopw [7] (fun i wr => ∃ k : Nat, 1 ≤ k ∧ i = .int .i64 k ∧ (k ≤ m.marks.length ∨ k = 1) ∧ Hid (Up mkLess m.marks k) ∧ Below W.heap.size W wr) (fun i _ => m.marks.length - (intOf i).toNat)
              case atStart => exact ⟨1, Nat.le_refl _, rfl, .inr rfl, keep (fun j _ h => absurd h (by omega)), hbs⟩
              case round =>
                obtain ⟨k3, hk1, rfl, hkl, hN, hb3⟩ := hrel
                obtain ⟨wq, rfl⟩ : ∃ wq : World, wq = wr := ⟨_, rfl⟩
                clear c0 c1 c2 c3 c4 c5 c6 hBo hgo hbo hbs hlt
                have hBo := hB.below hb3 hgl
                have hgo := hBo.lt
                obtain ⟨c0, c1, c2, c3, c4, c5, c6⟩ := hBo.cell7
                have hbo : Below w.heap.size w wq := hba.trans (hb3.mono hba.size)
                by_cases hlt : k3 < m.marks.length
                · clear hkl
                  have ho := hM.below hb3 (Nat.le_refl _)
                  obtain ⟨i, hm1⟩ : ∃ i, k3 = i + 1 := ⟨k3 - 1, by omega⟩
                  have hml : i < m.marks.length := by omega
                  obtain ⟨b, o, rfl, hb, t0, t1, t2⟩ := marks_cells ho hlt
                  obtain ⟨b', o', e', _, d0, d1, d2⟩ := marks_cells ho hml
                  obtain ⟨rfl, rfl⟩ : b = b' ∧ o = o' := by injection e' with e; injection e with e1 e2; exact ⟨e1, e2⟩
                  have hk0 : k3 - 1 < m.marks.length := by omega
                  have HX : Hid (m.marks[i]'hml = m.marks[k3 - 1]'hk0) := by congr 1; omega
                  clear e' ho hb
                  have i1 : (k3 : Int) < (m.marks.length : Int) := by omega
                  have i2 : (i : Int) < (m.marks.length : Int) := by omega
                  have i3 : (k3 : Int) - 1 = (i : Int) := by omega
                  have i4 : IntKind.i64.wrap (i : Int) = (i : Int) := by rw [IntWalk.i64_left]; exact IntWalk.wrap64_in _ (by omega)
                  have fin0 : Hid (mkLess (m.marks[i]'hml) (m.marks[k3]'hlt) = false → r = 19) := by
                    intro hf
                    have hf' : mkLess m.marks[k3 - 1] (m.marks[k3 - 1 + 1]'(by omega)) = false := by
                      rw [HX.out] at hf
                      simpa only [Nat.sub_add_cancel hk1] using hf
                    have := HE1.out
                    rw [← H2.out, asc_false _ m.marks (k3 - 1) (by omega) hf'] at this
                    simpa using this
                  have fin1 : Hid (mkLess (m.marks[i]'hml) (m.marks[k3]'hlt) = true → Up mkLess m.marks (k3 + 1)) := by
                    intro hq
                    refine hN.out.step hlt hk1 ?_
                    rw [← HX.out]; exact hq
                  clear hm1 HX
                  generalize hxe : m.marks[i]'hml = x at *
                  generalize hye : m.marks[k3]'hlt = y at *
                  clear hxe hye
                  obtain ⟨xh, xf, xo⟩ := x
                  obtain ⟨yh, yf, yo⟩ := y
                  dsimp only at t0 t1 t2 d0 d1 d2
                  by_cases hA : yh < xh
                  · have g1 : decide (yh < xh) = true := by simpa using hA
                    have HF : Hid (mkLess ⟨xh, xf, xo⟩ ⟨yh, yf, yo⟩ = false) := ord_lt hA
                    clear hA
                    go_upto_region 20 with fail
                    go_quiet (fail)
                    go_wp2_with fail
                    go_ret
                    exact ⟨ret_int (fin0.out HF.out).symm, hbo.trans (below_drewN (Below.refl _ _) _)⟩
                  · by_cases hE : yh = xh
                    · subst hE
                      clear hA
                      have g1 : decide (yh < yh) = false := by simp
                      have g2 : (yh == yh) = true := by simp
                      by_cases hle : yf ≤ xf
                      · have g3 : decide (yf ≤ xf) = true := by simpa using hle
                        have HF : Hid (mkLess ⟨yh, xf, xo⟩ ⟨yh, yf, yo⟩ = false) := ord_eq.trans (decide_eq_false (show ¬ xf < yf by omega))
                        clear hle
                        go_upto_region 20 with fail
                        go_quiet (fail)
                        go_wp2_with fail
                        go_ret
                        exact ⟨ret_int (fin0.out HF.out).symm, hbo.trans (below_drewN (Below.refl _ _) _)⟩
                      · have g3 : decide (yf ≤ xf) = false := by simpa using hle
                        have HF : Hid (mkLess ⟨yh, xf, xo⟩ ⟨yh, yf, yo⟩ = true) := ord_eq.trans (decide_eq_true (show xf < yf by omega))
                        clear hle
                        go_upto_region 20 with fail
                        go_quiet (fail)
                        go_wp2_with fail
                        go_roundw
                        case rel => exact ⟨k3 + 1, by omega, by go_num, .inl (by omega), keep (fin1.out HF.out), hb3.trans (below_drewN (Below.refl _ _) _)⟩
                        case measure => simp [intOf]; omega
                    · have g1 : decide (yh < xh) = false := by simpa using hA
                      have g2 : (yh == xh) = false := by simpa using hE
                      have HF : Hid (mkLess ⟨xh, xf, xo⟩ ⟨yh, yf, yo⟩ = true) := ord_gt hA hE
                      clear hA hE
                      go_upto_region 20 with fail
                      go_quiet (fail)
                      go_wp2_with fail
                      go_roundw
                      case rel => exact ⟨k3 + 1, by omega, by go_num, .inl (by omega), keep (fin1.out HF.out), hb3.trans (below_drewN (Below.refl _ _) _)⟩
                      case measure => simp [intOf]; omega
                · have HE2 : Hid (r = if q3 = true ∧ q4 = true then 0 else 19) := by
                    refine keep ?_
                    have := HE1.out
                    rw [← H2.out, asc_of_up _ m.marks fun i hi _ => hN.out i hi (by omega)] at this
                    simpa using this
                  clear hN HE1 hkl hM H2
                  have hLq := hLa.below hb3
                  go_wp2_with fail
                  refine (refTallies_any _ m.tals wq hLq.t hsm.t).mono ?_
                  rw [H3.out]
                  rintro e w4 ⟨rfl, hb4⟩
                  have hbo4 := hbo.trans (hb4.mono hbo.size)
                  cases q3
                  case false =>
                    go_wp2_with fail
                    go_ret
                    exact ⟨ret_int (by rw [HE2.out]; simp), hbo4⟩
                  case true =>
                    have hL4 := hLq.below hb4
                    have hB4 := hBo.below hb4 hgo
                    clear c0 c1 c2 c3 c4 c5 c6
                    obtain ⟨c0, c1, c2, c3, c4, c5, c6⟩ := hB4.cell7
                    go_wp2_with fail
                    refine (refTallies_any _ m.exps w4 hL4.e hsm.e).mono ?_
                    rw [H4.out]
                    rintro e w5 ⟨rfl, hb5⟩
                    cases q4
                    all_goals
                      go_wp2_with fail
                      go_ret
                      exact ⟨ret_int (by rw [HE2.out]; simp), hbo4.trans (hb5.mono hbo4.size)⟩
end Go.Proofs.Ytkjhnipjhefndaa
