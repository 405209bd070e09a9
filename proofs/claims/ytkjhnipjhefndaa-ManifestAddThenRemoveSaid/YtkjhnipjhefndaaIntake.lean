/- The contract of the drawing package's Intake. -/
import Derived.Test.YtkjhnipjhefndaaTallies
import Derived.Deep.RegionLaw
import Derived.RangeFuncBox
namespace Go.Proofs.Ytkjhnipjhefndaa
open Go.RowKit

theorem elMarks : Elem Try.prog 23 72 3 24 (.agg #[.int .i64 0, .int .i64 0, .int .i64 0]) := ⟨Try.underlying23, by kernel_rfl, rfl, by decide⟩
structure MkOk (t : Mk) : Prop where
  h0 : 1 ≤ t.host
  h1 : t.host ≤ 2
  f0 : 0 ≤ t.file
  f1 : t.file ≤ 100
  o0 : 0 ≤ t.off
  o1 : t.off ≤ 100
def Less (l : List Mk) (h f : Int) : Prop := asc mkLess l = true ∧ ∀ t ∈ l, mkLess t ⟨h, f, 0⟩ = true ∧ MkOk t
theorem mkLess_mono {t : Mk} {h f h' f' : Int} (hl : mkLess t ⟨h, f, 0⟩ = true) (hm : h < h' ∨ (h = h' ∧ f ≤ f')) : mkLess t ⟨h', f', 0⟩ = true := by
  simp only [mkLess, Bool.or_eq_true, Bool.and_eq_true, decide_eq_true_eq] at hl ⊢
  omega
theorem Less.more {l : List Mk} {h f h' f' : Int} (hl : Less l h f) (hm : h < h' ∨ (h = h' ∧ f ≤ f')) : Less l h' f' := ⟨hl.1, fun t ht => ⟨mkLess_mono (hl.2 t ht).1 hm, (hl.2 t ht).2⟩⟩
theorem Less.push {l : List Mk} {h f : Int} (hl : Less l h f) (o : Int) (hk : MkOk ⟨h, f, o⟩) : Less (l ++ [⟨h, f, o⟩]) h (f + 1) := by
  refine ⟨?_, fun t ht => ?_⟩
  · have := asc_ins mkLess l l.length ⟨h, f, o⟩ hl.1 (Nat.le_refl _) (fun j hj _ => (hl.2 _ (List.getElem_mem hj)).1) (fun h => absurd h (Nat.lt_irrefl _))
    simpa using this
  · rcases List.mem_append.1 ht with ht | ht
    · exact ⟨mkLess_mono (hl.2 t ht).1 (.inr ⟨rfl, by omega⟩), (hl.2 t ht).2⟩
    · simp at ht
      subst ht
      refine ⟨?_, hk⟩
      show (decide (h < h) || (decide (h = h) && decide (f < f + 1))) = true
      rw [decide_eq_true (show h = h from rfl), decide_eq_true (show f < f + 1 by omega)]
      simp
theorem oneM (l : List Mk) : ∀ u ∈ l.flatMap Mk.vals, u.oneCell' = true := by
  intro u hu
  obtain ⟨t, _, ht⟩ := List.mem_flatMap.1 hu
  simp only [Mk.vals, List.mem_cons, List.not_mem_nil, or_false] at ht
  rcases ht with rfl | rfl | rfl <;> rfl
/-- The block of one new element. -/
theorem sl_one (w : World) (cs : Array Value) (t size : Nat) (h : cs.size = size) : Sl (w.alloc (.cells cs t)) (lt (w.alloc (.cells cs t)).heap.size) size (.slice (some ⟨w.heap.size, 0, none⟩) 1 1) 1 cs.toList := by
  refine ⟨by simp [h], _, 1, rfl, Nat.le_refl _, fun _ => ⟨w.heap.size, 0, rfl, by simp, fun j u hu => ?_⟩⟩
  have hB := Blk.new w t cs
  rw [hB.cell, Nat.zero_add]
  simpa using hu
/-- What Intake's variables hold. -/
structure In (wr : World) (p g gc base : Nat) (vM : Value) (l : List Mk) : Prop where
  bp : Blk wr p 26 #[.slice none 0 0, .slice none 0 0]
  bg : Blk wr g 26 #[vM, .slice none 0 0]
  own : wr.ownsRow base 72 3 vM l.length (l.flatMap Mk.vals)
  c : Codes wr gc
  s : base ≤ wr.heap.size
section
variable {wr w' : World} {p g gc base : Nat} {vM : Value} {l : List Mk}
theorem In.grown (h : In wr p g gc base vM l) (hg : wr.grownBy w' (some gc)) (hC : Codes w' gc) (h1 : gc < p) (h2 : p < g) (h3 : g < base) : In w' p g gc base vM l :=
  ⟨h.bp.grown hg (fun e => by injection e; omega), h.bg.grown hg (fun e => by injection e; omega), own_grown h.own hg (by omega), hC, Nat.le_trans h.s hg.size⟩
end
def IntakeRes (w : World) (gc : Nat) (e : Ending) (w' : World) : Prop :=
  ∃ vM vT lm l, e = .returned (.agg #[vM, vT]) ∧ Sl w' (btw w.heap.size w'.heap.size) 3 vM lm.length (lm.flatMap Mk.vals) ∧ Sl w' (btw w.heap.size w'.heap.size) 3 vT l.length (l.flatMap Tl.vals) ∧ asc mkLess lm = true ∧ asc tlLess l = true ∧ lm.length ≤ 6 ∧ l.length ≤ 4 ∧
    (∀ t ∈ lm, MkOk t) ∧ (∀ t ∈ l, TlOk 40 t) ∧ Codes w' gc ∧ w.grownBy w' (some gc)

set_option maxHeartbeats 2000000 in
set_option maxRecDepth 100000 in
theorem drawIntake (gc : Nat) (w : World) (h : Codes w gc) : Calls Try.prog 33 #[.pointer (some ⟨gc, 0, none⟩)] w (IntakeRes w gc) := by
  have hgc := h.lt_
  obtain ⟨W, hW⟩ : ∃ W, W = (w.alloc (.cells #[.slice none 0 0, .slice none 0 0] 26)).alloc (.cells #[.slice none 0 0, .slice none 0 0] 26) := ⟨_, rfl⟩
  have hsz : W.heap.size = w.heap.size + 2 := by rw [hW]; simp
  obtain ⟨p, hp⟩ : ∃ p, p = w.heap.size := ⟨_, rfl⟩
  obtain ⟨g, hg⟩ : ∃ g, g = p + 1 := ⟨_, rfl⟩
  have hI : In W p g gc W.heap.size (.slice none 0 0) [] := by
    refine ⟨?_, ?_, World.ownsRow_nil _ _ _ _, ?_, Nat.le_refl _⟩
    · rw [hW, hp]; exact (Blk.new _ _ _).alloc _
    · rw [hW, hg, hp]
      have := Blk.new (w.alloc (.cells #[.slice none 0 0, .slice none 0 0] 26)) 26 #[.slice none 0 0, .slice none 0 0]
      simpa using this
    · rw [hW]; exact (h.alloc _).alloc _
  have hGW : w.grownBy W (some gc) := by rw [hW]; exact grownBy_trans (World.grownBy_alloc _ _ _) (World.grownBy_alloc _ _ _)
  have o1 : gc < p := by omega
  have o2 : p < g := by omega
  have o3 : g < W.heap.size := by omega
  have HSZ := keep hsz
  clear hsz
  go_enter Try.func33, Try.ntmps33
  go_upto_region 2 with fail
  rw [← hW, ← hp, ← hg]
  have HP := keep hp
  clear hW hp hg
  go_wp2_with fail
  go_loopw [4, 5] (fun a _ wr => ∃ (hh : Int) (vM : Value) (l : List Mk), a = .int .i64 hh ∧ 1 ≤ hh ∧ hh ≤ 3 ∧ In wr p g gc W.heap.size vM l ∧ Hid (Less l hh 5) ∧ (l.length : Int) ≤ 3 * (hh - 1) ∧ w.grownBy wr (some gc)) (fun a _ _ => (3 - intOf a).toNat)
  case atStart => exact ⟨1, _, [], rfl, by omega, by omega, hI, keep ⟨rfl, by simp⟩, by simp, hGW⟩
  case round =>
    obtain ⟨hh, vM, l, rfl, q0, q1, hIr, HL, hll, hGr⟩ := hrel
    obtain ⟨wo, rfl⟩ : ∃ wo : World, wo = wr := ⟨_, rfl⟩
    clear hI hGW
    by_cases h2 : hh ≤ 2
    · have hd : decide (hh ≤ 2) = true := by simpa using h2
      go_wp2_with fail
      go_loopw [5] (fun a wr => ∃ (ff : Int) (vM : Value) (l : List Mk), a = .int .i64 ff ∧ 5 ≤ ff ∧ ff ≤ 8 ∧ In wr p g gc W.heap.size vM l ∧ Hid (Less l hh ff) ∧ (l.length : Int) ≤ 3 * (hh - 1) + (ff - 5) ∧ w.grownBy wr (some gc)) (fun a _ => (8 - intOf a).toNat)
      case atStart => exact ⟨5, vM, l, rfl, by omega, by omega, hIr, HL, by omega, hGr⟩
      case round =>
        clear hIr HL hll hGr
        obtain ⟨ff, vM2, l2, rfl, f0, f1, hI2, HL2, hl2, hG2⟩ := hrel
        obtain ⟨wx, rfl⟩ : ∃ wx : World, wx = wr := ⟨_, rfl⟩
        go_wp2_with fail
        refine (drawNext gc _ _ hI2.c (by omega) (by omega)).mono ?_
        rintro e w1 ⟨r3, rfl, r0, r1, _, hC1, hg1⟩
        have r2 := r1 (by omega)
        have hI3 := hI2.grown hg1 hC1 o1 o2 o3
        have hG3 := grownBy_trans hG2 hg1
        clear r1 hI2 hG2 hg1 hC1
        by_cases hle : ff ≤ 5 + r3
        · have hd2 : decide (ff ≤ 5 + r3) = true := by simpa using hle
          have f7 : ff ≤ 7 := by omega
          go_wp2_with fail
          refine (drawNext gc _ _ hI3.c (by omega) (by omega)).mono ?_
          rintro e w2 ⟨r4, rfl, s0, s1, _, hC2, hg2⟩
          have s2 := s1 (by omega)
          have hI4 := hI3.grown hg2 hC2 o1 o2 o3
          have hG4 := grownBy_trans hG3 hg2
          clear s1 hI3 hG3 hg2 hC2
          by_cases h1 : r4 = 1
          · have t0 : (r4 == 1) = true := by simpa using h1
            clear h1
            have hI5 : In w2.drew p g gc W.heap.size vM2 l2 := hI4.grown (grownBy_drew (World.grownBy.refl _ _)) hI4.c.drew o1 o2 o3
            have hG5 : w.grownBy w2.drew (some gc) := grownBy_drew hG4
            obtain ⟨c0, c1⟩ := hI5.bg.cell2
            have h63 : l2.length + 1 ≤ maxLen := by unfold maxLen; omega
            have hby : (l2.length + 1) * 24 ≤ 140737488355328 := by omega
            go_upto_region 9 with fail
            go_region_law (first
              | (refine step_appendS elMarks rfl _ _ rfl W.heap.size _ l2.length _ rfl hO _ _ 1 _ rfl hsrc hone h63 hby hbs ?_; intro v' w3 hown' hb' hgr'; obtain ⟨g', cap', rfl⟩ := ownsRow_succ hown'; have hB3 := (hI6.bg.alloc (.cells #[.int .i64 hh, .int .i64 ff, .int .i64 x] 72)).below hb' o3; obtain ⟨e0, e1⟩ := hB3.cell2; have ef0 := hB3.frozen 0)
              | (go_simp; go_at_call 31; refine (drawNext gc _ _ hI5.c (by omega) (by omega)).mono ?_; rintro e w' ⟨x, rfl, x0, x1, _, hC', hg'⟩; have x2 := x1 (by omega); clear x1; have hI6 := hI5.grown hg' hC' o1 o2 o3; have hG6 := grownBy_trans hG5 hg'; obtain ⟨d0, d1⟩ := hI6.bg.cell2; have hlg' := hI6.bg.lt; have hnn : ¬ g = w'.heap.size := (by omega); have hO := hI6.own.alloc (.cells #[.int .i64 hh, .int .i64 ff, .int .i64 x] 72); have hsrc := sl_one w' #[.int .i64 hh, .int .i64 ff, .int .i64 x] 72 3 rfl; have hbs : W.heap.size ≤ (w'.alloc (.cells #[.int .i64 hh, .int .i64 ff, .int .i64 x] 72)).heap.size := (by have := hI6.s; simp; omega); have hone : ∀ u ∈ (#[Value.int .i64 hh, .int .i64 ff, .int .i64 x] : Array Value).toList, u.oneCell' = true := (by intro u hu; simp at hu; rcases hu with rfl | rfl | rfl <;> rfl)))
            all_goals
              go_wp2_with fail
              go_roundw
              case rel =>
                have hbw : Below w.heap.size (w'.alloc (.cells #[.int .i64 hh, .int .i64 ff, .int .i64 x] 72)) w3 := hb'.mono (by have := HSZ.out; omega)
                have hG7 : w.grownBy w3 (some gc) := grownBy_below (grownBy_trans hG6 (World.grownBy_alloc _ _ _)) hbw
                have hgw : w.heap.size ≤ g := by have := HP.out; omega
                have hll : (l2 ++ [(⟨hh, ff, x⟩ : Mk)]).length = l2.length + 1 := by simp
                have hfl : (l2 ++ [(⟨hh, ff, x⟩ : Mk)]).flatMap Mk.vals = l2.flatMap Mk.vals ++ [.int .i64 hh, .int .i64 ff, .int .i64 x] := by simp [Mk.vals]
                have hsg : w3.grownBy (w3.setCell ⟨g, 0, none⟩ (.slice (some ⟨g', 0, none⟩) (l2.length + 1) cap')) (some g) := grownBy_set (World.grownBy.refl _ _) 0 _
                have hC3 : Codes w3 gc := (hI6.c.alloc _).under hb' (by omega)
                refine ⟨ff + 1, .slice (some ⟨g', 0, none⟩) (l2.length + 1) cap', l2 ++ [⟨hh, ff, x⟩], rfl, by omega, by omega, ⟨?_, ?_, ?_, ?_, ?_⟩, keep (HL2.out.push x ⟨q0, h2, by show 0 ≤ ff; omega, by show ff ≤ 100; omega, x0, by show x ≤ 100; omega⟩), by rw [hll]; omega, ?_⟩
                · exact ((hI6.bp.alloc _).below hb' (by omega)).far (p := ⟨g, 0, none⟩) (by show p ≠ g; omega) _
                · exact hB3.set_ 0 _
                · rw [hll, hfl]; exact own_grown hown' hsg o3
                · exact hC3.grown hsg (by omega)
                · have := hb'.size; have := hI6.s; simp at *; omega
                · exact grownBy_below hG7 ((Below.refl _ _).setCell (p := ⟨g, 0, none⟩) hgw _)
              case measure => simp [intOf]; omega
          · have t0 : (r4 == 1) = false := by simpa using h1
            clear h1
            go_wp2_with fail
            go_roundw
            case rel => exact ⟨ff + 1, vM2, l2, rfl, by omega, by omega, hI4, keep (HL2.out.more (.inr ⟨rfl, by omega⟩)), by omega, hG4⟩
            case measure => simp [intOf]; omega
        · have hd2 : decide (ff ≤ 5 + r3) = false := by simpa using hle
          go_wp2_with fail
          go_roundw
          case rel => exact ⟨hh + 1, vM2, l2, rfl, by omega, by omega, hI3, keep (HL2.out.more (.inl (by omega))), by omega, hG3⟩
          case measure => simp [intOf]; omega
    · have hd : decide (hh ≤ 2) = false := by simpa using h2
      go_wp2_with fail
      refine (drawTallies gc _ hIr.c).mono ?_
      rintro e w1 ⟨vT, lt', rfl, hS, ha, hl, ho, hC1, hg1⟩
      have hI1 := hIr.grown hg1 hC1 o1 o2 o3
      have hG1 := grownBy_trans hGr hg1
      obtain ⟨A, c, rfl, _, hS⟩ := hS.form
      have HA := keep ha
      have HO := keep ho
      have hso := hIr.s
      clear ha ho hg1 hIr hGr
      obtain ⟨A2, c2, rfl, _, hM⟩ := (Sl.of_own_btw hI1.own).form
      obtain ⟨x0, x1⟩ := hI1.bg.cell2
      obtain ⟨y0, y1⟩ := hI1.bp.cell2
      have xf1 := hI1.bg.frozen 1
      have yf0 := hI1.bp.frozen 0
      have yf1 := hI1.bp.frozen 1
      have hlg := hI1.bg.lt
      have hlp := hI1.bp.lt
      have hne : ¬ g = p := by omega
      have hne2 : ¬ p = g := by omega
      go_wp2_with fail
      have hsA : w1.grownBy (w1.setCell ⟨g, 1, none⟩ (.slice A lt'.length c)) (some g) := grownBy_set (World.grownBy.refl _ _) 1 _
      obtain ⟨wa, hwa⟩ : ∃ wa, wa = w1.setCell ⟨g, 1, none⟩ (.slice A lt'.length c) := ⟨_, rfl⟩
      rw [← hwa] at hsA ⊢
      have hPa : Blk wa p 26 #[.slice none 0 0, .slice none 0 0] := by rw [hwa]; exact hI1.bp.far (p := ⟨g, 1, none⟩) (by show p ≠ g; omega) _
      have hsB : wa.grownBy ((wa.setCell ⟨p, 0, none⟩ (.slice A2 l.length c2)).setCell ⟨p, 1, none⟩ (.slice A lt'.length c)) (some p) := grownBy_set (grownBy_set (World.grownBy.refl _ _) 0 _) 1 _
      have hPb : Blk ((wa.setCell ⟨p, 0, none⟩ (.slice A2 l.length c2)).setCell ⟨p, 1, none⟩ (.slice A lt'.length c)) p 26 #[.slice A2 l.length c2, .slice A lt'.length c] := (hPa.set_ 0 _).set_ 1 _
      obtain ⟨wb, hwb⟩ : ∃ wb, wb = (wa.setCell ⟨p, 0, none⟩ (.slice A2 l.length c2)).setCell ⟨p, 1, none⟩ (.slice A lt'.length c) := ⟨_, rfl⟩
      rw [← hwb] at hsB hPb ⊢
      obtain ⟨z0, z1⟩ := hPb.cell2
      have hSa : Sl wb (btw w.heap.size wb.heap.size) 3 (.slice A lt'.length c) lt'.length (lt'.flatMap Tl.vals) :=
        ((hS.grown hsA (fun b hb => ⟨hb.2, fun e => by injection e; have := hb.1; omega⟩)).grown hsB (fun b hb => ⟨Nat.lt_of_lt_of_le hb.2 hsA.size, fun e => by injection e; have := hb.1; omega⟩)).mono (fun b hb => ⟨by have := hb.1; have := HSZ.out; omega, Nat.lt_of_lt_of_le hb.2 (Nat.le_trans hsA.size hsB.size)⟩)
      have hMa : Sl wb (btw w.heap.size wb.heap.size) 3 (.slice A2 l.length c2) l.length (l.flatMap Mk.vals) :=
        ((hM.grown hsA (fun b hb => ⟨hb.2, fun e => by injection e; have := hb.1; omega⟩)).grown hsB (fun b hb => ⟨Nat.lt_of_lt_of_le hb.2 hsA.size, fun e => by injection e; have := hb.1; omega⟩)).mono (fun b hb => ⟨by have := hb.1; have := HSZ.out; omega, Nat.lt_of_lt_of_le hb.2 (Nat.le_trans hsA.size hsB.size)⟩)
      have hCb : Codes wb gc := (hC1.grown hsA (by omega)).grown hsB (by omega)
      have hGb : w.grownBy wb (some gc) := by
        have hpw : w.heap.size ≤ p := by have := HP.out; omega
        rw [hwb, hwa]
        exact grownBy_below hG1 ((((Below.refl _ _).setCell (p := ⟨g, 1, none⟩) (by show w.heap.size ≤ g; omega) _).setCell (p := ⟨p, 0, none⟩) hpw _).setCell (p := ⟨p, 1, none⟩) hpw _)
      refine bodyPost_ret (v := .agg #[.slice A2 l.length c2, .slice A lt'.length c]) (by simp [results, Try.results33, go_sem, z0, z1]) rfl ?_
      exact ⟨_, _, l, lt', rfl, hMa, hSa, HL.out.1, HA.out, by omega, hl, fun t ht => (HL.out.2 t ht).2, HO.out, hCb, hGb⟩
end Go.Proofs.Ytkjhnipjhefndaa
