/- FramingParts: the walk of the statement. -/
import Derived.Test.YtimldjlegbdldaaLawLin
import Derived.Test.YtimldjlegbdldaaParts
namespace Go.Proofs.Ytimldjlegbdldaa
open Go.RowKit

theorem frV_cells (l : List UInt8) (d : Nat) (lim : Int) (ps : List (Nat × Nat)) : ∀ u ∈ ps.flatMap (frV l d lim), u.oneCell' = true := by
  intro u hu
  obtain ⟨p, _, hp⟩ := List.mem_flatMap.1 hu
  obtain ⟨g, q, r, s, b, h⟩ := frV_any l d lim p
  rw [h] at hp
  simp at hp
  rcases hp with rfl | rfl | rfl | rfl | rfl <;> rfl

set_option maxRecDepth 100000 in
set_option maxHeartbeats 4000000 in
theorem law_parts (v vc vk : Value) (l : List UInt8) (cs ks : List Int) (lim : Int) (w : World) (h : BSl w (lt w.heap.size) v l) (hlm : l.length ≤ maxLen) (hs : Sl w (lt w.heap.size) 1 vc cs.length (cs.map (.int .u8))) (hr : ∀ x ∈ cs, 0 ≤ x ∧ x ≤ 255) (hcm : cs.length ≤ maxLen)
    (hks : Sl w (lt w.heap.size) 1 vk ks.length (ks.map (.int .u8))) (hkr : ∀ x ∈ ks, 0 ≤ x ∧ x ≤ 255) (hkm : ks.length ≤ maxLen) (hl0 : 0 ≤ lim) (hl1 : lim ≤ 255) :
    Calls Try.prog 4 #[v, vc, vk, .int .u8 lim] w fun e w' => e = .returned (.bool true) ∧ Below w.heap.size w w' := by
  obtain ⟨A, c, rfl, hc, h⟩ := h.forms
  obtain ⟨Ak, ck, rfl, hck, hks⟩ := hks.form
  unfold maxLen at hlm hkm
  by_cases hbig : 2000 < l.length
  · have d0 : decide (2000 < l.length) = true := by simpa using hbig
    go_enter Try.func4, Try.ntmps4
    go_wp2_with fail
    refine (awake_any _).mono ?_
    rintro e w1 ⟨rfl, hb1⟩
    go_wp2_with fail
    go_ret
    exact ⟨rfl, hb1⟩
  · have d0 : decide (2000 < l.length) = false := by simpa using hbig
    by_cases hbig2 : 30 < ks.length
    · have d1 : decide (30 < ks.length) = true := by simpa using hbig2
      go_enter Try.func4, Try.ntmps4
      go_wp2_with fail
      refine (awake_any _).mono ?_
      rintro e w1 ⟨rfl, hb1⟩
      go_wp2_with fail
      go_ret
      exact ⟨rfl, hb1⟩
    · have d1 : decide (30 < ks.length) = false := by simpa using hbig2
      have hlm2 : l.length ≤ 2000 := by omega
      have hkm2 : ks.length ≤ 30 := by omega
      clear hlm hkm hbig hbig2
      go_enter Try.func4, Try.ntmps4
      go_wp2_with fail
      refine (awake_any _).mono ?_
      rintro e w1 ⟨rfl, hb1⟩
      go_wp2_with fail
      refine (drawNew _ cs 100 _ ((hs.below hb1 (Nat.le_refl _)).more hb1.size) hr (by omega) hcm).mono ?_
      rintro e w2 ⟨gc, rfl, hgc, hC, hb2⟩
      go_wp2_with fail
      refine (makeData gc lim 4 _ hC (by omega) (by omega)).mono ?_
      rintro e w3 ⟨vD, lD, rfl, hD, hD1, hD2, hC4, hg3⟩
      have hb3 : Below w1.heap.size w1 w3 := hb2.grown hg3 hb2.size (fun k hk => by injection hk with hk; omega)
      have hl3 : BSl w3 (lt w3.heap.size) (.slice A l.length c) l := ((h.below hb1 (Nat.le_refl _)).up hb1.size |>.below hb3 (Nat.le_refl _)).up hb3.size
      have hD3 : OwnB w3 w1.heap.size vD lD := hD.base_ hb2.size
      go_wp2_with (refine wpList_appendBb' elB rfl _ _ rfl w1.heap.size vD lD rfl hD3 _ _ l rfl hl3 (by omega) hb3.size ?_; intro v4 w4 hown4 hg4 hk4)
      obtain ⟨D, hD'⟩ : ∃ D, lD ++ l = D := ⟨_, rfl⟩
      have hDl : D.length ≤ 5000 := by rw [← hD', List.length_append]; omega
      rw [hD'] at hown4
      have hb4 : Below w1.heap.size w1 w4 := hb3.grown hg4 hb3.size (fun k hk => (hD3.in_ k hk).1)
      obtain ⟨AD, cD, rfl, hcD, hown4⟩ := hown4.form
      have hks4 := ((hks.below hb1 (Nat.le_refl _)).more hb1.size).below hb4 (Nat.le_refl _)
      clear hD' hl3 hD hD3 hC hC4 hg3 hb2 hb3 hg4 hk4 hs h hks
      refine (frame_any _ D 0 lim _ hown4.slt (by omega)).mono ?_
      rintro e w5 ⟨vA, rfl, hrA, hb5⟩
      have hSD := (hown4.slt).below hb5 (Nat.le_refl _) |>.up hb5.size
      have hks5 := (hks4.below hb5 hb4.size).more (Nat.le_trans hb4.size hb5.size)
      have hbw : Below w.heap.size w w5 := hb1.trans ((hb4.trans (hb5.mono hb4.size)).mono hb1.size)
      have hend : frEnd D 0 = ((lnS D D.length).2 : Int) ∧ frSp D 0 = (lnS D D.length).1 ∧ frL D 0 lim = (lnS D D.length).1.flatMap (frV D 0 lim) := by
        have h1 := parts_step (l := D) (a := 0) (k := 0) rfl (s := D.length) (Nat.zero_le _) (Nat.le_refl _) lim
        rw [List.take_length] at h1
        have h2 := frEnd_eq (data := D) (off := 0) (Nat.zero_le _)
        refine ⟨h1.2.2, ?_, ?_⟩
        · exact h2.2
        · simpa [lnS] using h1.1
      rw [hend.2.1, hend.2.2] at hrA
      rw [hend.1]
      have hsA := Sl.of_own hrA
      obtain ⟨AA, cA, rfl, _, hsA⟩ := hsA.form
      clear hrA hend hown4 hks4 hb4 hb5 hb1
      go_wp2_with fail
      go_loopw [12, 13, 14, 15, 16, 17] (fun acc at_ _ i _ _ wr => ∃ (j k : Nat), i = .int .i64 j ∧ j ≤ ks.length + 1 ∧ at_ = .int .i64 ((lnS D k).2 : Nat) ∧ k ≤ D.length ∧ Hid (j = ks.length + 1 → k = D.length) ∧
          wr.ownsRow w5.heap.size 41 5 acc (lnS D k).1.length ((lnS D k).1.flatMap (frV D 0 lim)) ∧ Below w5.heap.size w5 wr) (fun _ _ _ i _ _ _ => ks.length + 1 - (intOf i).toNat)
      case atStart => exact ⟨0, 0, rfl, by omega, rfl, Nat.zero_le _, keep (fun h => by omega), World.ownsRow_nil _ _ _ _, Below.refl _ _⟩
      case round =>
        obtain ⟨j, k, rfl, hj, rfl, hk, hlast, hown, hb⟩ := hrel
        have hzw := hb.size
        have hSr := hSD.below hb (Nat.le_refl _)
        have hzr : w5.heap.size ≤ wr.heap.size := hzw
        have hak := (lnS_le D k).2
        obtain ⟨a, ha⟩ : ∃ a, (lnS D k).2 = a := ⟨_, rfl⟩
        rw [ha] at hak ⊢
        replace ha := keep ha.symm
        by_cases hjl : j < ks.length
        · obtain ⟨b, o, u, rfl, hbb, hu, hcell⟩ := (hks5.below hb (Nat.le_refl _)).at_ hjl
          obtain ⟨x, hx⟩ : ∃ x, ks[j] = x := ⟨_, rfl⟩
          obtain ⟨x0, x1⟩ := hkr x (by rw [← hx]; exact List.getElem_mem _)
          have hu' : u = .int .u8 x := by rw [← hx]; simpa [hjl] using hu.symm
          subst hu'
          obtain ⟨xn, rfl⟩ := Int.eq_ofNat_of_zero_le x0
          have hj0 : (0 : Int) ≤ (j : Int) := by omega
          have hj1 : (j : Int) < (ks.length : Int) := by omega
          have hj2 : (j : Int) ≤ (ks.length : Int) := by omega
          have hpr : xn * D.length ≤ 255 * D.length := Nat.mul_le_mul_right _ (by omega)
          have hp0 : (0 : Int) ≤ (xn : Int) * (D.length : Int) := by rw [← Int.natCast_mul]; omega
          have hp1 : (xn : Int) * (D.length : Int) ≤ 1275000 := by rw [← Int.natCast_mul]; omega
          obtain ⟨s, hs⟩ : ∃ s, max a (xn * D.length / 256) = s := ⟨_, rfl⟩
          have has : a ≤ s := by omega
          have hsD : s ≤ D.length := by omega
          have hmx : max (a : Int) ((xn : Int) * (D.length : Int) / 256) = (s : Int) := by rw [← hs, ← Int.natCast_mul]; omega
          clear hs hpr hx hu
          have hpst := parts_step (l := D) (a := a) ha.out (s := s) has hsD lim
          obtain ⟨t1, t2, t3⟩ := hpst
          have htl : (D.take s).length ≤ 1000000000 := by rw [List.length_take]; omega
          have HT := keep (And.intro t1 t2)
          clear t1 t2
          go_wp2_with (refine wpList_toB elB rfl _ _ rfl s rfl hSr rfl (by first | rfl | exact hmx) hsD ?_; intro v8 hs8)
          refine (frame_any _ _ (a : Int) lim _ (hs8.up hzr) htl).mono ?_
          rintro e w8 ⟨vm, rfl, hrm, hb8⟩
          rw [t3]
          have hown8 := hown.kept (grownBy_of_below hb8 none) (by cases hv : u12.ownBlock <;> simp)
          have hb8' := hb.trans (hb8.mono hzw)
          have hsm := Sl.of_own hrm
          obtain ⟨Am, cm, rfl, _, hsm⟩ := hsm.form
          have hcap : (lnS D k).1.length + (frSp (D.take s) a).length ≤ 5000 := by rw [HT.out.2]; have := (lnS_le D s).1; omega
          have hcap2 : (lnS D k).1.length + (frSp (D.take s) a).length ≤ maxLen := by unfold maxLen; omega
          have hz8 : w5.heap.size ≤ w8.heap.size := hb8'.size
          have hone := frV_cells (D.take s) (Int.toNat (a : Int)) lim (frSp (D.take s) a)
          go_wp2_with (refine wpList_appendS elFramed rfl _ _ rfl w5.heap.size u12 _ _ rfl hown8 _ _ _ _ rfl hsm hone hcap2 (by omega) hz8 ?_; intro v9 w9 hown9 hb9 hg9; have hbq := hb8'.trans hb9)
          go_roundw
          case rel => exact ⟨j + 1, s, by go_num, by omega, rfl, hsD, keep (by intro h; omega), by rw [← HT.out.1, ← HT.out.2]; exact hown9, hbq⟩
          case measure => simp [intOf]; omega
        · by_cases hje : j = ks.length
          · have hj2 : (j : Int) ≤ (ks.length : Int) := by omega
            have hj3 : ¬ (j : Int) < (ks.length : Int) := by omega
            obtain ⟨s, hs⟩ : ∃ s, D.length = s := ⟨_, rfl⟩
            have has : a ≤ s := by omega
            have hsD : s ≤ D.length := by omega
            have HS := keep hs
            clear hs
            have hpst := parts_step (l := D) (a := a) ha.out (s := s) has hsD lim
            obtain ⟨t1, t2, t3⟩ := hpst
            have htl : (D.take s).length ≤ 1000000000 := by rw [List.length_take]; omega
            have HT := keep (And.intro t1 t2)
            clear t1 t2
            go_wp2_with (refine wpList_toB elB rfl _ _ rfl s rfl hSr rfl (by rw [HS.out]) hsD ?_; intro v8 hs8)
            refine (frame_any _ _ (a : Int) lim _ (hs8.up hzr) htl).mono ?_
            rintro e w8 ⟨vm, rfl, hrm, hb8⟩
            rw [t3]
            have hown8 := hown.kept (grownBy_of_below hb8 none) (by cases hv : u12.ownBlock <;> simp)
            have hb8' := hb.trans (hb8.mono hzw)
            have hsm := Sl.of_own hrm
            obtain ⟨Am, cm, rfl, _, hsm⟩ := hsm.form
            have hcap : (lnS D k).1.length + (frSp (D.take s) a).length ≤ 5000 := by rw [HT.out.2]; have := (lnS_le D s).1; omega
            have hcap2 : (lnS D k).1.length + (frSp (D.take s) a).length ≤ maxLen := by unfold maxLen; omega
            have hz8 : w5.heap.size ≤ w8.heap.size := hb8'.size
            have hone := frV_cells (D.take s) (Int.toNat (a : Int)) lim (frSp (D.take s) a)
            go_wp2_with (refine wpList_appendS elFramed rfl _ _ rfl w5.heap.size u12 _ _ rfl hown8 _ _ _ _ rfl hsm hone hcap2 (by omega) hz8 ?_; intro v9 w9 hown9 hb9 hg9; have hbq := hb8'.trans hb9)
            go_roundw
            case rel => exact ⟨j + 1, s, by go_num, by omega, rfl, hsD, keep (by intro _; exact HS.out.symm), by rw [← HT.out.1, ← HT.out.2]; exact hown9, hbq⟩
            case measure => simp [intOf]; omega
          · have hjq : j = ks.length + 1 := by omega
            have hkD := hlast.out hjq
            have hj2 : ¬ (j : Int) ≤ (ks.length : Int) := by omega
            have hA : a = (lnS D D.length).2 := by rw [ha.out, hkD]
            rw [hkD] at hown
            have hrow := Sl.of_own hown
            obtain ⟨A2, c2, rfl, _, hrow⟩ := hrow.form
            have hsA2 := hsA.below hb (Nat.le_refl _)
            have hln : (lnS D D.length).1.length ≤ 1000000000 := by have := (lnS_le D D.length).1; omega
            have hS := same_any (lnS D D.length).1 (frV D 0 lim) (fun p _ => frV_any _ _ _ _) _ _ _ _ wr hrow hsA2 hln
            rw [← hA]
            clear hown hrow hsA2
            go_wp2_with fail
            refine hS.mono ?_
            rintro e w9 ⟨rfl, hb9⟩
            go_wp2_with fail
            go_ret
            exact ⟨rfl, (hbw.trans (hb.mono hbw.size)).trans (hb9.mono (Nat.le_trans hbw.size hzw))⟩
end Go.Proofs.Ytimldjlegbdldaa
