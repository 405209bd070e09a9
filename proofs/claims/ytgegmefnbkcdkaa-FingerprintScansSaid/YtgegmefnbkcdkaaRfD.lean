/- The reference's Copy. -/
import Derived.Test.YtgegmefnbkcdkaaRfC
namespace Go.Proofs.Ytgegmefnbkcdkaa
open Go.RowKit
def fr13 (x : Nat → Value) : Array Value := #[x 0, x 1, x 2, x 3, x 4, x 5, x 6, x 7, x 8, x 9, x 10, x 11, x 12]
def RefCpy (fs : FS) (w : World) (x : Ending) (w' : World) : Prop := ∃ vN vF vO, x = .returned (.agg #[vN, vF, vO]) ∧ FsO w' w.heap.size vN vF vO fs ∧ Below w.heap.size w w'
set_option maxHeartbeats 8000000 in
set_option maxRecDepth 100000 in
theorem refCopy_any (vN vF vO : Value) (fs : FS) (w : World) (h : FsT w vN vF vO fs) (hm : fs.F.length ≤ 1000000) (hmN : fs.N.length ≤ 1000000) (hmO : fs.O.length ≤ 1000000) :
    Calls Try.prog 31 #[.agg #[vN, vF, vO]] w (RefCpy fs w) := by
  obtain ⟨A1, c1, rfl, _, _⟩ := h.n.form
  obtain ⟨A2, c2, rfl, _, _⟩ := h.f.form
  obtain ⟨A3, c3, rfl, _, _⟩ := h.o.form
  obtain ⟨W, hW⟩ : ∃ W, W = ((w.alloc (.cells #[.slice A1 fs.N.length c1, .slice A2 fs.F.length c2, .slice A3 fs.O.length c3] 40)).alloc (.cells #[.slice none 0 0, .slice none 0 0, .slice none 0 0] 40)) := ⟨_, rfl⟩
  have hb : Below w.heap.size w W := hW ▸ ((Below.refl _ w).alloc (Nat.le_refl _) _).alloc (by simp) _
  have hF : Blk W w.heap.size 40 #[.slice A1 fs.N.length c1, .slice A2 fs.F.length c2, .slice A3 fs.O.length c3] := hW ▸ ((Blk.new w _ _).alloc _)
  have hZ : Blk W (w.heap.size + 1) 40 #[.slice none 0 0, .slice none 0 0, .slice none 0 0] := hW ▸ Blk.new_at (by simp)
  have HT := keep (h.up hb)
  have HB := keep hb
  have HF := keep hF
  have HZ := keep hZ
  clear h hb hF hZ
  go_enter Try.func31, Try.ntmps31
  go_wp2_with fail
  rw [← hW]
  clear hW
  rename_i K' hK'
  have HK := keep hK'
  clear hK'
  refine reg_start 13 fr13 (fun _ => rfl) _ rfl fun x0 hx0 => ?_
  have y1 : x0 1 = .pointer (some ⟨w.heap.size, 0, none⟩) := hx0 1
  have y2 : x0 2 = .pointer (some ⟨w.heap.size + 1, 0, none⟩) := hx0 2
  refine wp_regT (by kernel_rfl) 13 (by kernel_rfl) fr13 (fun _ => rfl) x0 (fun wa => W.grownBy wa (some (w.heap.size + 1)) ∧ ∃ a b c : Value, Blk wa (w.heap.size + 1) 40 #[a, b, c]) (fun i a b => if i = 10 then a.grownBy b (some (w.heap.size + 1)) ∧ (∃ p q r : Value, Blk a (w.heap.size + 1) 40 #[p, q, r]) else Below a.heap.size a b) (fun i v wa => match i with
      | 0 => v = .pointer (some ⟨w.heap.size, 0, none⟩)
      | 1 => v = .slice A1 fs.N.length c1
      | 2 => wa.ownsRow W.heap.size 77 2 v fs.N.length (nms fs.N)
      | 3 => v = .pointer (some ⟨w.heap.size, 1, none⟩)
      | 4 => v = .slice A2 fs.F.length c2
      | 5 => wa.ownsRow W.heap.size 72 5 v fs.F.length (fis fs.F)
      | 6 => v = .pointer (some ⟨w.heap.size, 2, none⟩)
      | 7 => v = .slice A3 fs.O.length c3
      | 8 => wa.ownsRow W.heap.size 3 1 v fs.O.length (ints fs.O)
      | 9 => ∃ a b c : Value, v = .agg #[a, b, c] ∧ wa.ownsRow W.heap.size 77 2 a fs.N.length (nms fs.N) ∧ wa.ownsRow W.heap.size 72 5 b fs.F.length (fis fs.F) ∧ wa.ownsRow W.heap.size 3 1 c fs.O.length (ints fs.O)
      | 10 => ∃ a b c : Value, Blk wa (w.heap.size + 1) 40 #[a, b, c] ∧ wa.ownsRow W.heap.size 77 2 a fs.N.length (nms fs.N) ∧ wa.ownsRow W.heap.size 72 5 b fs.F.length (fis fs.F) ∧ wa.ownsRow W.heap.size 3 1 c fs.O.length (ints fs.O)
      | _ => True) (by
        intro i j v wa wb hne hmn hp
        have hown : ∀ {e size n : Nat} {v : Value} {xs : List Value}, e ≠ 40 → wa.ownsRow W.heap.size e size v n xs → wb.ownsRow W.heap.size e size v n xs := fun he ho => by
          by_cases h10 : i = 10
          · rw [if_pos h10] at hmn
            obtain ⟨hg, _, _, _, hb⟩ := hmn
            exact ho.kept hg (.inr (own_off ho hb he))
          · rw [if_neg h10] at hmn
            exact own_bel ho hmn
        match j, hp with
        | 0, hp => exact hp
        | 1, hp => exact hp
        | 2, hp => exact hown (by decide) hp
        | 3, hp => exact hp
        | 4, hp => exact hp
        | 5, hp => exact hown (by decide) hp
        | 6, hp => exact hp
        | 7, hp => exact hp
        | 8, hp => exact hown (by decide) hp
        | 9, hp => obtain ⟨a, b, c, h1, h2, h3, h4⟩ := hp; exact ⟨a, b, c, h1, hown (by decide) h2, hown (by decide) h3, hown (by decide) h4⟩
        | 10, hp =>
          rw [if_neg hne] at hmn
          obtain ⟨a, b, c, h1, h2, h3, h4⟩ := hp
          exact ⟨a, b, c, h1.below hmn h1.lt, own_bel h2 hmn, own_bel h3 hmn, own_bel h4 hmn⟩
        | _ + 11, hp => trivial) (⟨grownBy_drewN (World.grownBy.refl _ _) 1, _, _, _, HZ.out⟩) ?step ?skip ?done
  case step =>
    intro i o ho x wa K hW hout hdep hgd hK
    have E1 : Hid (x 1 = .pointer (some ⟨w.heap.size, 0, none⟩)) := keep ((hout 1 (by decide)).trans y1)
    have E2 : Hid (x 2 = .pointer (some ⟨w.heap.size + 1, 0, none⟩)) := keep ((hout 2 (by decide)).trans y2)
    have hTa := HT.out.grown HZ.out hW.1 (by decide) (by decide) (by decide) (by decide)
    clear hout hx0 y1 y2
    have hi : i < 11 := (Array.getElem?_eq_some_iff.1 ho).1
    have hcase : i = 0 ∨ i = 1 ∨ i = 2 ∨ i = 3 ∨ i = 4 ∨ i = 5 ∨ i = 6 ∨ i = 7 ∨ i = 8 ∨ i = 9 ∨ i = 10 := by omega
    clear hi
    rcases hcase with rfl | rfl | rfl | rfl | rfl | rfl | rfl | rfl | rfl | rfl | rfl
    · -- operation 0
      simp only [List.getElem?_toArray, List.getElem?_cons_zero, Option.some.injEq] at ho
      subst ho
      clear hdep hgd
      unfold fr13
      rw [E1.out]
      go_simp
      have hk : K { tmps := #[x 0, x 1, x 2, .pointer (some ⟨w.heap.size, 0, none⟩), x 4, x 5, x 6, x 7, x 8, x 9, x 10, x 11, x 12], defers := [] } wa := hK _ _ hW (by rw [if_neg (by decide)]; exact Below.refl _ _) rfl
      rw [E1.out] at hk
      exact hk
    · -- operation 1
      simp only [List.getElem?_toArray, List.getElem?_cons_succ, List.getElem?_cons_zero, Option.some.injEq] at ho
      subst ho
      have p0 : (x 3) = .pointer (some ⟨w.heap.size, 0, none⟩) := hdep 0 (List.mem_of_elem_eq_true (by kernel_rfl))
      clear hdep hgd
      obtain ⟨f0, f1, f2⟩ := (HF.out.grown hW.1 (fun e => by injection e; omega)).cell3
      unfold fr13
      rw [p0]
      go_simp
      have hk : K { tmps := #[x 0, x 1, x 2, x 3, .slice A1 fs.N.length c1, x 5, x 6, x 7, x 8, x 9, x 10, x 11, x 12], defers := [] } wa := hK _ _ hW (by rw [if_neg (by decide)]; exact Below.refl _ _) rfl
      rw [p0] at hk
      exact hk
    · -- operation 2
      simp only [List.getElem?_toArray, List.getElem?_cons_succ, List.getElem?_cons_zero, Option.some.injEq] at ho
      subst ho
      have p1 : (x 4) = .slice A1 fs.N.length c1 := hdep 1 (List.mem_of_elem_eq_true (by kernel_rfl))
      clear hdep hgd
      unfold fr13
      rw [p1]
      refine wp_appendS elNm _ _ rfl wa.heap.size (.slice none 0 0) 0 [] rfl (World.ownsRow_nil _ _ _ _) _ (.slice A1 fs.N.length c1) _ _ rfl hTa.n (nms_one _) (by unfold maxLen; omega) (by omega) (Nat.le_refl _) fun v' w' h2 h3 _ => ?_
      rw [Nat.zero_add, List.nil_append] at h2
      have hk : K { tmps := #[x 0, x 1, x 2, x 3, x 4, v', x 6, x 7, x 8, x 9, x 10, x 11, x 12], defers := [] } w' := hK v' w' ⟨grownBy_trans hW.1 (grownBy_of_below h3 _), by obtain ⟨a, b, c, hb⟩ := hW.2; exact ⟨a, b, c, hb.below h3 hb.lt⟩⟩ (by rw [if_neg (by decide)]; exact h3) (own_mono h2 hW.1.size)
      rw [p1] at hk
      exact hk
    · -- operation 3
      simp only [List.getElem?_toArray, List.getElem?_cons_succ, List.getElem?_cons_zero, Option.some.injEq] at ho
      subst ho
      clear hdep hgd
      unfold fr13
      rw [E1.out]
      go_simp
      have hk : K { tmps := #[x 0, x 1, x 2, x 3, x 4, x 5, .pointer (some ⟨w.heap.size, 1, none⟩), x 7, x 8, x 9, x 10, x 11, x 12], defers := [] } wa := hK _ _ hW (by rw [if_neg (by decide)]; exact Below.refl _ _) rfl
      rw [E1.out] at hk
      exact hk
    · -- operation 4
      simp only [List.getElem?_toArray, List.getElem?_cons_succ, List.getElem?_cons_zero, Option.some.injEq] at ho
      subst ho
      have p3 : (x 6) = .pointer (some ⟨w.heap.size, 1, none⟩) := hdep 3 (List.mem_of_elem_eq_true (by kernel_rfl))
      clear hdep hgd
      obtain ⟨f0, f1, f2⟩ := (HF.out.grown hW.1 (fun e => by injection e; omega)).cell3
      unfold fr13
      rw [p3]
      go_simp
      have hk : K { tmps := #[x 0, x 1, x 2, x 3, x 4, x 5, x 6, .slice A2 fs.F.length c2, x 8, x 9, x 10, x 11, x 12], defers := [] } wa := hK _ _ hW (by rw [if_neg (by decide)]; exact Below.refl _ _) rfl
      rw [p3] at hk
      exact hk
    · -- operation 5
      simp only [List.getElem?_toArray, List.getElem?_cons_succ, List.getElem?_cons_zero, Option.some.injEq] at ho
      subst ho
      have p4 : (x 7) = .slice A2 fs.F.length c2 := hdep 4 (List.mem_of_elem_eq_true (by kernel_rfl))
      clear hdep hgd
      unfold fr13
      rw [p4]
      refine wp_appendS elFi _ _ rfl wa.heap.size (.slice none 0 0) 0 [] rfl (World.ownsRow_nil _ _ _ _) _ (.slice A2 fs.F.length c2) _ _ rfl hTa.f (fis_one _ hTa.d) (by unfold maxLen; omega) (by omega) (Nat.le_refl _) fun v' w' h2 h3 _ => ?_
      rw [Nat.zero_add, List.nil_append] at h2
      have hk : K { tmps := #[x 0, x 1, x 2, x 3, x 4, x 5, x 6, x 7, v', x 9, x 10, x 11, x 12], defers := [] } w' := hK v' w' ⟨grownBy_trans hW.1 (grownBy_of_below h3 _), by obtain ⟨a, b, c, hb⟩ := hW.2; exact ⟨a, b, c, hb.below h3 hb.lt⟩⟩ (by rw [if_neg (by decide)]; exact h3) (own_mono h2 hW.1.size)
      rw [p4] at hk
      exact hk
    · -- operation 6
      simp only [List.getElem?_toArray, List.getElem?_cons_succ, List.getElem?_cons_zero, Option.some.injEq] at ho
      subst ho
      clear hdep hgd
      unfold fr13
      rw [E1.out]
      go_simp
      have hk : K { tmps := #[x 0, x 1, x 2, x 3, x 4, x 5, x 6, x 7, x 8, .pointer (some ⟨w.heap.size, 2, none⟩), x 10, x 11, x 12], defers := [] } wa := hK _ _ hW (by rw [if_neg (by decide)]; exact Below.refl _ _) rfl
      rw [E1.out] at hk
      exact hk
    · -- operation 7
      simp only [List.getElem?_toArray, List.getElem?_cons_succ, List.getElem?_cons_zero, Option.some.injEq] at ho
      subst ho
      have p6 : (x 9) = .pointer (some ⟨w.heap.size, 2, none⟩) := hdep 6 (List.mem_of_elem_eq_true (by kernel_rfl))
      clear hdep hgd
      obtain ⟨f0, f1, f2⟩ := (HF.out.grown hW.1 (fun e => by injection e; omega)).cell3
      unfold fr13
      rw [p6]
      go_simp
      have hk : K { tmps := #[x 0, x 1, x 2, x 3, x 4, x 5, x 6, x 7, x 8, x 9, .slice A3 fs.O.length c3, x 11, x 12], defers := [] } wa := hK _ _ hW (by rw [if_neg (by decide)]; exact Below.refl _ _) rfl
      rw [p6] at hk
      exact hk
    · -- operation 8
      simp only [List.getElem?_toArray, List.getElem?_cons_succ, List.getElem?_cons_zero, Option.some.injEq] at ho
      subst ho
      have p7 : (x 10) = .slice A3 fs.O.length c3 := hdep 7 (List.mem_of_elem_eq_true (by kernel_rfl))
      clear hdep hgd
      unfold fr13
      rw [p7]
      refine wp_appendS elIn _ _ rfl wa.heap.size (.slice none 0 0) 0 [] rfl (World.ownsRow_nil _ _ _ _) _ (.slice A3 fs.O.length c3) _ _ rfl hTa.o (ints_one _) (by unfold maxLen; omega) (by omega) (Nat.le_refl _) fun v' w' h2 h3 _ => ?_
      rw [Nat.zero_add, List.nil_append] at h2
      have hk : K { tmps := #[x 0, x 1, x 2, x 3, x 4, x 5, x 6, x 7, x 8, x 9, x 10, v', x 12], defers := [] } w' := hK v' w' ⟨grownBy_trans hW.1 (grownBy_of_below h3 _), by obtain ⟨a, b, c, hb⟩ := hW.2; exact ⟨a, b, c, hb.below h3 hb.lt⟩⟩ (by rw [if_neg (by decide)]; exact h3) (own_mono h2 hW.1.size)
      rw [p7] at hk
      exact hk
    · -- operation 9
      simp only [List.getElem?_toArray, List.getElem?_cons_succ, List.getElem?_cons_zero, Option.some.injEq] at ho
      subst ho
      have p2 : wa.ownsRow W.heap.size 77 2 (x 5) fs.N.length (nms fs.N) := hdep 2 (List.mem_of_elem_eq_true (by kernel_rfl))
      have p5 : wa.ownsRow W.heap.size 72 5 (x 8) fs.F.length (fis fs.F) := hdep 5 (List.mem_of_elem_eq_true (by kernel_rfl))
      have p8 : wa.ownsRow W.heap.size 3 1 (x 11) fs.O.length (ints fs.O) := hdep 8 (List.mem_of_elem_eq_true (by kernel_rfl))
      clear hdep hgd
      obtain ⟨B1, d1, hv1, _⟩ := own_sl p2
      obtain ⟨B2, d2, hv2, _⟩ := own_sl p5
      obtain ⟨B3, d3, hv3, _⟩ := own_sl p8
      unfold fr13
      rw [hv1, hv2, hv3]
      have hk : K { tmps := #[x 0, x 1, x 2, x 3, x 4, x 5, x 6, x 7, x 8, x 9, x 10, x 11, .agg #[x 5, x 8, x 11]], defers := [] } wa := hK _ _ hW (by rw [if_neg (by decide)]; exact Below.refl _ _) ⟨_, _, _, rfl, p2, p5, p8⟩
      rw [hv1, hv2, hv3] at hk
      clear hv1 hv2 hv3 p2 p5 p8
      go_simp
      exact hk
    · -- operation 10
      simp only [List.getElem?_toArray, List.getElem?_cons_succ, List.getElem?_cons_zero, Option.some.injEq] at ho
      subst ho
      have p9 : ∃ a b c : Value, (x 12) = .agg #[a, b, c] ∧ wa.ownsRow W.heap.size 77 2 a fs.N.length (nms fs.N) ∧ wa.ownsRow W.heap.size 72 5 b fs.F.length (fis fs.F) ∧ wa.ownsRow W.heap.size 3 1 c fs.O.length (ints fs.O) := hdep 9 (List.mem_of_elem_eq_true (by kernel_rfl))
      clear hdep hgd
      obtain ⟨a, b, c, hv, ho1, ho2, ho3⟩ := p9
      obtain ⟨a0, b0, c0, hb0⟩ := hW.2
      obtain ⟨B1, d1, rfl, _⟩ := own_sl ho1
      obtain ⟨B2, d2, rfl, _⟩ := own_sl ho2
      obtain ⟨B3, d3, rfl, _⟩ := own_sl ho3
      obtain ⟨f0, f1, f2⟩ := hb0.cell3
      obtain ⟨q0, q1, q2⟩ := hb0.froz3
      have hgr := grown_three wa (w.heap.size + 1) (.slice B1 fs.N.length d1) (.slice B2 fs.F.length d2) (.slice B3 fs.O.length d3)
      have hk : K { tmps := #[x 0, x 1, x 2, x 3, x 4, x 5, x 6, x 7, x 8, x 9, x 10, x 11, x 12], defers := [] } (((wa.setCell ⟨w.heap.size + 1, 0, none⟩ (.slice B1 fs.N.length d1)).setCell ⟨w.heap.size + 1, 1, none⟩ (.slice B2 fs.F.length d2)).setCell ⟨w.heap.size + 1, 2, none⟩ (.slice B3 fs.O.length d3)) := hK undef _ ⟨grownBy_trans hW.1 hgr, _, _, _, hb0.three _ _ _⟩ (by rw [if_pos rfl]; exact ⟨hgr, _, _, _, hb0⟩)
        ⟨_, _, _, hb0.three _ _ _, ho1.kept hgr (.inr (own_off ho1 hb0 (by decide))), ho2.kept hgr (.inr (own_off ho2 hb0 (by decide))), ho3.kept hgr (.inr (own_off ho3 hb0 (by decide)))⟩
      unfold fr13
      rw [E2.out, hv]
      rw [E2.out, hv] at hk
      clear hv
      go_simp
      exact hk
  case skip =>
    intro i o j b ho hgd
    have hi : i < 11 := (Array.getElem?_eq_some_iff.1 ho).1
    have hcase : i = 0 ∨ i = 1 ∨ i = 2 ∨ i = 3 ∨ i = 4 ∨ i = 5 ∨ i = 6 ∨ i = 7 ∨ i = 8 ∨ i = 9 ∨ i = 10 := by omega
    rcases hcase with rfl | rfl | rfl | rfl | rfl | rfl | rfl | rfl | rfl | rfl | rfl <;> (simp only [List.getElem?_toArray, List.getElem?_cons_succ, List.getElem?_cons_zero, Option.some.injEq] at ho; subst ho; cases hgd)
  case done =>
    intro x wd hout hW hall
    have p10 : ∃ a b c : Value, Blk wd (w.heap.size + 1) 40 #[a, b, c] ∧ wd.ownsRow W.heap.size 77 2 a fs.N.length (nms fs.N) ∧ wd.ownsRow W.heap.size 72 5 b fs.F.length (fis fs.F) ∧ wd.ownsRow W.heap.size 3 1 c fs.O.length (ints fs.O) := hall 10 (by decide)
    obtain ⟨a, b, c, hb, ho1, ho2, ho3⟩ := p10
    refine HK.out _ _ ?_
    unfold fr13
    rw [(hout 0 (by decide)).trans (hx0 0), (hout 1 (by decide)).trans (hx0 1), (hout 2 (by decide)).trans (hx0 2)]
    simp only [Array.getD_eq_getD_getElem?, List.getElem?_toArray, List.getElem?_cons_succ, List.getElem?_cons_zero, Option.getD_some]
    clear hall hout hx0 y1 y2 HK
    go_wp2_with fail
    refine bodyPost_ret (results_cell_row rfl _ _ (w.heap.size + 1) _ _ _ _ rfl hb Try.underlying40 rfl (by kernel_rfl)) rfl ?_
    have hbw : Below w.heap.size w wd := HB.out.grown hW.1 HB.out.size (fun k hk => by injection hk with hk; omega)
    exact ⟨a, b, c, rfl, ⟨own_mono ho1 HB.out.size, own_mono ho2 HB.out.size, own_mono ho3 HB.out.size, (HT.out.grown HZ.out hW.1 (by decide) (by decide) (by decide) (by decide)).d⟩, hbw⟩
end Go.Proofs.Ytgegmefnbkcdkaa
