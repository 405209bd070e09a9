/- The contract of the reference's tallies. -/
import Derived.Test.YtkjhnipjhefndaaChecks
import Derived.Laws.Cover1
namespace Go.Proofs.Ytkjhnipjhefndaa
open Go.RowKit

theorem bytes_le : ∀ a b : List UInt8, (Op.bytesLess a b || a == b) = !Op.bytesLess b a
  | [], [] => by simp [Op.bytesLess]
  | [], _ :: _ => by simp [Op.bytesLess]
  | _ :: _, [] => by simp [Op.bytesLess]
  | x :: a, y :: b => by
    have ih := bytes_le a b
    rw [Op.bytesLess, Op.bytesLess]
    rcases Nat.lt_trichotomy x.toNat y.toNat with h | h | h
    · have h1 : x < y := UInt8.lt_iff_toNat_lt.2 h
      have h2 : ¬ y < x := fun h3 => by have := UInt8.lt_iff_toNat_lt.1 h3; omega
      have h3 : (y == x) = false := by rw [beq_eq_false_iff_ne]; intro e; subst e; omega
      simp [h1, h2, h3]
    · have e : x = y := UInt8.toNat_inj.1 h
      subst e
      have h2 : ¬ x < x := fun h3 => by have := UInt8.lt_iff_toNat_lt.1 h3; omega
      simp [h2, ← ih]
    · have h1 : y < x := UInt8.lt_iff_toNat_lt.2 h
      have h2 : ¬ x < y := fun h3 => by have := UInt8.lt_iff_toNat_lt.1 h3; omega
      have h3 : (x == y) = false := by rw [beq_eq_false_iff_ne]; intro e; subst e; omega
      simp [h1, h2, h3]
theorem ord_lt {x y : Int} {s : Bool} (h : y < x) : (decide (x < y) || (decide (x = y) && s)) = false := by
  rw [decide_eq_false (show ¬ x < y by omega), decide_eq_false (show ¬ x = y by omega)]; rfl
theorem ord_gt {x y : Int} {s : Bool} (h : ¬ y < x) (h2 : ¬ y = x) : (decide (x < y) || (decide (x = y) && s)) = true := by
  rw [decide_eq_true (show x < y by omega)]; rfl
theorem ord_eq {x : Int} {s : Bool} : (decide (x < x) || (decide (x = x) && s)) = s := by
  rw [decide_eq_false (show ¬ x < x by omega), decide_eq_true (show x = x from rfl)]; simp
set_option maxHeartbeats 1000000 in
set_option maxRecDepth 100000 in
theorem refTallies_any (v : Value) (l : List Tl) (w : World) (h : Sl w (lt w.heap.size) 3 v l.length (l.flatMap Tl.vals)) (hm : l.length ≤ 1000000) :
    Calls Try.prog 45 #[v] w fun e w' => e = .returned (.bool (asc tlLess l)) ∧ Below w.heap.size w w' := by
  obtain ⟨A, c, rfl, hc, h⟩ := h.form
  go_enter Try.func45, Try.ntmps45
  go_wp2_with fail
  go_loopw [3] (fun i wr => ∃ k : Nat, 1 ≤ k ∧ i = .int .i64 k ∧ (k ≤ l.length ∨ k = 1) ∧ Hid (Up tlLess l k) ∧ Below w.heap.size w wr) (fun i _ => l.length - (intOf i).toNat)
  case atStart => exact ⟨1, Nat.le_refl _, rfl, .inr rfl, keep (fun j _ h => absurd h (by omega)), Below.refl _ _⟩
  case round =>
    obtain ⟨k, hk1, rfl, hkl, hN, hbr⟩ := hrel
    obtain ⟨wo, rfl⟩ : ∃ wo : World, wo = wr := ⟨_, rfl⟩
    by_cases hlt : k < l.length
    · clear hkl
      have ho := h.below hbr (Nat.le_refl _)
      obtain ⟨m, hm1⟩ : ∃ m, k = m + 1 := ⟨k - 1, by omega⟩
      have hml : m < l.length := by omega
      obtain ⟨b, o, rfl, hb, c0, c1, c2⟩ := tals_cells ho hlt
      obtain ⟨b', o', e', _, d0, d1, d2⟩ := tals_cells ho hml
      obtain ⟨rfl, rfl⟩ : b = b' ∧ o = o' := by injection e' with e; injection e with e1 e2; exact ⟨e1, e2⟩
      have hk0 : k - 1 < l.length := by omega
      have HE : Hid (∀ (x y : Tl), x = l[m]'hml → y = l[k]'hlt → x = l[k - 1]'hk0 ∧ y = l[k]'hlt) := fun x y hx hy => ⟨by rw [hx]; congr 1; omega, hy⟩
      obtain ⟨y, hy⟩ : ∃ y, y = l[k] := ⟨_, rfl⟩
      obtain ⟨x, hx⟩ : ∃ x, x = l[m] := ⟨_, rfl⟩
      rw [← hy] at c0 c1 c2
      rw [← hx] at d0 d1 d2
      have HX := keep (HE.out x y hx hy)
      clear hx hy HE e' ho hb
      have i1 : (k : Int) < (l.length : Int) := by omega
      have i2 : (m : Int) < (l.length : Int) := by omega
      have i3 : (k : Int) - 1 = (m : Int) := by omega
      have i4 : IntKind.i64.wrap (m : Int) = (m : Int) := by rw [IntWalk.i64_left]; exact IntWalk.wrap64_in _ (by omega)
      clear hm1
      obtain ⟨xh, xr, xl⟩ := x
      obtain ⟨yh, yr, yl⟩ := y
      dsimp only at c0 c1 c2 d0 d1 d2
      obtain ⟨q, hq⟩ : ∃ q, tlLess ⟨xh, xr, xl⟩ ⟨yh, yr, yl⟩ = q := ⟨_, rfl⟩
      have HQ := keep hq
      have HD : Hid (q = (decide (xh < yh) || (decide (xh = yh) && Op.bytesLess xr.toList yr.toList))) := hq.symm
      clear hq
      have fin0 : Hid (q = false → asc tlLess l = false) := by
        intro hqf
        have hx1 := HX.out.1
        have hy1 := HX.out.2
        have hf : tlLess l[k - 1] (l[k - 1 + 1]'(by omega)) = false := by
          have := HQ.out
          rw [hx1, hy1] at this
          simpa only [Nat.sub_add_cancel hk1, hqf] using this
        exact asc_false _ l (k - 1) (by omega) hf
      have fin1 : Hid (q = true → Up tlLess l (k + 1)) := by
        intro hqt
        refine hN.out.step hlt hk1 ?_
        rw [← HX.out.1, ← HX.out.2, HQ.out]; exact hqt
      clear HX HQ
      by_cases hA : yh < xh
      · have g1 : decide (yh < xh) = true := by simpa using hA
        have HF : Hid (q = false) := HD.out.trans (ord_lt hA)
        go_upto_region 4 with fail
        go_quiet (fail)
        go_wp2_with fail
        go_ret
        exact ⟨ret_bool (fin0.out HF.out).symm, hbr.trans (below_drewN (Below.refl _ _) _)⟩
      · have g1 : decide (yh < xh) = false := by simpa using hA
        by_cases hE : yh = xh
        · subst hE
          have HQ : Hid (q = Op.bytesLess xr.toList yr.toList) := HD.out.trans ord_eq
          clear hA g1
          have g1 : decide (yh < yh) = false := by simp
          have g2 : (yh == yh) = true := by simp
          have hle := bytes_le yr.toList xr.toList
          cases hs : Op.bytesLess xr.toList yr.toList
          · have HF := keep (HQ.out.trans hs)
            rw [hs] at hle
            have hl2 : (Op.bytesLess yr.toList xr.toList || yr.toList == xr.toList) = true := hle
            clear hle hs
            go_upto_region 4 with fail
            go_quiet (fail)
            go_wp2_with fail
            go_ret
            exact ⟨ret_bool (fin0.out HF.out).symm, hbr.trans (below_drewN (Below.refl _ _) _)⟩
          · have HF := keep (HQ.out.trans hs)
            rw [hs] at hle
            have hl2 : (Op.bytesLess yr.toList xr.toList || yr.toList == xr.toList) = false := hle
            clear hle hs
            go_upto_region 4 with fail
            go_quiet (fail)
            go_wp2_with fail
            go_roundw
            case rel => exact ⟨k + 1, by omega, by go_num, .inl (by omega), keep (fin1.out HF.out), hbr.trans (below_drewN (Below.refl _ _) _)⟩
            case measure => simp [intOf]; omega
        · have g2 : (yh == xh) = false := by simpa using hE
          have HF : Hid (q = true) := HD.out.trans (ord_gt hA hE)
          clear hE hA
          go_upto_region 4 with fail
          go_quiet (fail)
          go_wp2_with fail
          go_roundw
          case rel => exact ⟨k + 1, by omega, by go_num, .inl (by omega), keep (fin1.out HF.out), hbr.trans (below_drewN (Below.refl _ _) _)⟩
          case measure => simp [intOf]; omega
    · go_wp2_with fail
      go_ret
      refine ⟨ret_bool (asc_of_up _ l fun j hj hk => hN.out j hj (by omega)).symm, hbr⟩
end Go.Proofs.Ytkjhnipjhefndaa
