/- FilterUnion: the walk of the statement's main way. -/
import Derived.Test.YtfainbgbeojcpaaUspec
namespace Go.Proofs.Ytfainbgbeojcpaa
open Go.RowKit

/-- What the statement 'x, e := Union(..)' leaves in its two variables. -/
def CutRel (wo : World) (r : Int × List Int × Int) (sp se : Value) (wc : World) : Prop :=
  ∃ b A c, sp = .pointer (some ⟨b, 0, none⟩) ∧ se = .int .i64 r.2.2 ∧ wo.heap.size ≤ b ∧ Blk wc b 27 #[.int .i64 r.1, .slice A r.2.1.length c] ∧ Sl wc (lt wc.heap.size) 1 (.slice A r.2.1.length c) r.2.1.length (r.2.1.map (.int .u64)) ∧ Below wo.heap.size wo wc
theorem CutRel.late {wo w3 : World} {r : Int × List Int × Int} {A : Option Addr} {c : Nat} {S : Nat} (hr3 : Sl w3 (btw S w3.heap.size) 1 (.slice A r.2.1.length c) r.2.1.length (r.2.1.map (.int .u64)))
    (hb : Below wo.heap.size wo (w3.alloc (.cells #[.int .i64 r.1, .slice A r.2.1.length c] 27))) (hz : wo.heap.size ≤ w3.heap.size) :
    CutRel wo r (.pointer (some ⟨w3.heap.size, 0, none⟩)) (.int .i64 r.2.2) (w3.alloc (.cells #[.int .i64 r.1, .slice A r.2.1.length c] 27)) :=
  ⟨_, A, c, rfl, rfl, hz, Blk.new _ _ _, (hr3.under ((Below.refl _ w3).alloc (Nat.le_refl _) _) (fun _ h => h.2)).mono (fun b h => by have := h.2; show b < _; simp; omega), hb⟩
theorem CutRel.early {wo w3 : World} {r : Int × List Int × Int} {A : Option Addr} {c : Nat} {cs : Array Value}
    (hr3 : Sl w3 (btw (wo.drew.alloc (.cells cs 27)).heap.size w3.heap.size) 1 (.slice A r.2.1.length c) r.2.1.length (r.2.1.map (.int .u64))) (hcs : cs.size = 2)
    (hb3 : Below (wo.drew.alloc (.cells cs 27)).heap.size (wo.drew.alloc (.cells cs 27)) w3)
    (hb : Below wo.heap.size wo ((w3.setCell ⟨wo.heap.size, 0, none⟩ (.int .i64 r.1)).setCell ⟨wo.heap.size, 1, none⟩ (.slice A r.2.1.length c))) :
    CutRel wo r (.pointer (some ⟨wo.heap.size, 0, none⟩)) (.int .i64 r.2.2) ((w3.setCell ⟨wo.heap.size, 0, none⟩ (.int .i64 r.1)).setCell ⟨wo.heap.size, 1, none⟩ (.slice A r.2.1.length c)) := by
  have hB := (((Blk.new wo.drew 27 cs).below hb3 (by simp)).set_ 0 (.int .i64 r.1)).set_ 1 (.slice A r.2.1.length c)
  have hcs' : (cs.setIfInBounds 0 (.int .i64 r.1)).setIfInBounds 1 (.slice A r.2.1.length c) = #[.int .i64 r.1, .slice A r.2.1.length c] := by
    obtain ⟨l⟩ := cs
    match l, hcs with
    | [x, y], _ => rfl
  rw [hcs'] at hB
  refine ⟨_, A, c, rfl, rfl, Nat.le_refl _, hB, ?_, hb⟩
  have h1 := (hr3.keep (w' := (w3.setCell ⟨wo.heap.size, 0, none⟩ (.int .i64 r.1)).setCell ⟨wo.heap.size, 1, none⟩ (.slice A r.2.1.length c)) (fun p hp => by
    have hp1 := hp.1
    simp only [World.size_alloc, World.size_drew] at hp1
    rw [World.cell?_setCell_other _ _ _ _ (fun e => by subst e; simp only at hp1; omega), World.cell?_setCell_other _ _ _ _ (fun e => by subst e; simp only at hp1; omega)]))
  exact h1.mono (fun b h => by have := h.2; show b < _; simpa using this)

theorem blk_new' {w : World} {n t : Nat} {cs : Array Value} (h : n = w.heap.size) : Blk (w.alloc (.cells cs t)) n t cs := h ▸ Blk.new w t cs

set_option maxHeartbeats 2000000 in
theorem law_union_short (h1 h2 : Int) (s1 s2 vc : Value) (l1 l2 bs : List Int) (w : World) (hs1 : Sl w (lt w.heap.size) 1 s1 l1.length (l1.map (.int .u64))) (hs2 : Sl w (lt w.heap.size) 1 s2 l2.length (l2.map (.int .u64)))
    (hsc : Sl w (lt w.heap.size) 1 vc bs.length (bs.map (.int .u8))) (hr : ∀ x ∈ bs, 0 ≤ x ∧ x ≤ 255) (hm : bs.length ≤ maxLen) (hl1 : l1.length ≤ 2000) (hl2 : l2.length ≤ 2000) :
    Calls Try.prog 4 #[.agg #[.int .i64 h1, s1], .agg #[.int .i64 h2, s2], vc] w fun e w' => e = .returned (.bool true) ∧ Below w.heap.size w w' := by
  have d1 : decide ((2000 : Int) < l1.length) = false := by simp; omega
  have d2 : decide ((2000 : Int) < l2.length) = false := by simp; omega
  obtain ⟨A1, c1, rfl, hc1, hs1⟩ := hs1.form
  obtain ⟨A2, c2, rfl, hc2, hs2⟩ := hs2.form
  go_enter Try.func4, Try.ntmps4
  go_wp2_with fail
  obtain ⟨W, hW⟩ : ∃ W, W = (w.alloc (.cells #[.int .i64 h1, .slice A1 l1.length c1] 27)).alloc (.cells #[.int .i64 h2, .slice A2 l2.length c2] 27) := ⟨_, rfl⟩
  have hf0 : Blk W w.heap.size 27 #[.int .i64 h1, .slice A1 l1.length c1] := hW ▸ (Blk.new _ _ _).alloc _
  have hg0 : Blk W (w.heap.size + 1) 27 #[.int .i64 h2, .slice A2 l2.length c2] := by have := Blk.new (w.alloc (.cells #[.int .i64 h1, .slice A1 l1.length c1] 27)) 27 #[.int .i64 h2, .slice A2 l2.length c2]; rw [← hW] at this; simpa using this
  have hbW : Below w.heap.size w W := hW ▸ (((Below.refl _ w).alloc (Nat.le_refl _) _).alloc (by simp) _)
  rw [← hW]
  clear hW
  refine (awake_true _).mono ?_
  rintro e w1 ⟨rfl, hb1⟩
  have hk1 := (hf0.below hb1 hf0.lt).cell 1
  have hk2 := (hg0.below hb1 hg0.lt).cell 1
  simp only [List.getElem?_toArray, List.getElem?_cons_succ, List.getElem?_cons_zero] at hk1 hk2
  go_wp2_with fail
  have hbw1 := bchain hbW hb1
  refine (drawNew vc bs 100 _ ((hsc.below hbw1 (Nat.le_refl _)).more hbw1.size) hr (by omega) hm).mono ?_
  rintro e w2 ⟨gc, rfl, hgc, hC2, hb2⟩
  have hgc2 := hC2.lt_
  go_wp2_with fail
  refine (words_any gc _ hC2).mono ?_
  rintro e w3 ⟨v3, l3, rfl, hl3, hll3, hown3, hC3, hg3⟩
  go_wp2_with fail
  refine (drawNext gc _ _ hC3 (by omega) (by omega)).mono ?_
  rintro e w4 ⟨r4, rfl, r40, r41, _, hC4, hg4⟩
  have r42 := r41 (by omega)
  have hown4 := own_grown hown3 hg4 hgc2
  have hgw4 := grownBy_trans hg3 hg4
  have hz4 := hgw4.size
  go_wp2_with fail
  refine (refBuild_ok v3 l3 (1 + r4) _ (Sl.of_own hown4) (by omega) (fun s hs => by have := hll3 s hs; unfold maxLen; omega) (by omega) (by omega)).mono ?_
  rintro e w5 ⟨v5, rfl, hown5, hb5⟩
  have hz5 := hb5.size
  have hC5 := hC4.under hb5 (by omega)
  have hln5 : (built (fwords (bmax l3.length * (1 + r4))) 3 l3).length = fwords (bmax l3.length * (1 + r4)) := built_len _ _ _
  have hS5 : Sl w5 (btw w4.heap.size w5.heap.size) 1 v5 (built (fwords (bmax l3.length * (1 + r4))) 3 l3).length ((built (fwords (bmax l3.length * (1 + r4))) 3 l3).map (.int .u64)) := by rw [hln5]; exact Sl.of_own_btw hown5
  have hf5 : fwords (bmax l3.length * (1 + r4)) ≤ 1024 := by have h := bprod_bd l3.length (1 + r4) (by omega) (by omega) (by omega); have := fwords_bd h.1 (by omega); omega
  rw [← hln5] at hf5
  generalize built (fwords (bmax l3.length * (1 + r4))) 3 l3 = b5 at *
  obtain ⟨A5, c5, rfl, _, hS5⟩ := hS5.form
  clear hown3 hown4 hown5 hg3 hg4 hC3 hC4 hC2 r41 hln5
  go_wp2_with fail
  have hB5 := Blk.new w5 27 #[.int .i64 3, .slice A5 b5.length c5]
  have hC5' := hC5.under ((Below.refl _ w5).alloc (Nat.le_refl _) (.cells #[.int .i64 3, .slice A5 b5.length c5] 27)) (by omega)
  have hS5' := hS5.under ((Below.refl _ w5).alloc (Nat.le_refl _) (.cells #[.int .i64 3, .slice A5 b5.length c5] 27)) (fun b hb => hb.2)
  have hb5' := hb5.alloc hz5 (.cells #[.int .i64 3, .slice A5 b5.length c5] 27)
  have hz5' : (w5.alloc (.cells #[.int .i64 3, .slice A5 b5.length c5] 27)).heap.size = w5.heap.size + 1 := by simp
  generalize w5.alloc (.cells #[.int .i64 3, .slice A5 b5.length c5] 27) = w6 at *
  clear hC5 hS5 hb5
  have hgw6 : w2.grownBy w6 (some gc) := grownBy_below hgw4 (hb5'.mono hz4)
  refine (words_any gc _ hC5').mono ?_
  rintro e w7 ⟨v7, l7, rfl, hl7, hll7, hown7, hC7, hg7⟩
  go_wp2_with fail
  refine (drawNext gc _ _ hC7 (by omega) (by omega)).mono ?_
  rintro e w8 ⟨r8, rfl, r80, r81, _, hC8, hg8⟩
  have r82 := r81 (by omega)
  have hown8 := own_grown hown7 hg8 (by omega)
  have hgw8 := grownBy_trans hg7 hg8
  have hz8 := hgw8.size
  go_wp2_with fail
  refine (refBuild_ok v7 l7 (1 + r8) _ (Sl.of_own hown8) (by omega) (fun s hs => by have := hll7 s hs; unfold maxLen; omega) (by omega) (by omega)).mono ?_
  rintro e w9 ⟨v9, rfl, hown9, hb9⟩
  have hz9 := hb9.size
  have hln9 : (built (fwords (bmax l7.length * (1 + r8))) 3 l7).length = fwords (bmax l7.length * (1 + r8)) := built_len _ _ _
  have hS9 : Sl w9 (btw w8.heap.size w9.heap.size) 1 v9 (built (fwords (bmax l7.length * (1 + r8))) 3 l7).length ((built (fwords (bmax l7.length * (1 + r8))) 3 l7).map (.int .u64)) := by rw [hln9]; exact Sl.of_own_btw hown9
  have hf9 : fwords (bmax l7.length * (1 + r8)) ≤ 1024 := by have h := bprod_bd l7.length (1 + r8) (by omega) (by omega) (by omega); have := fwords_bd h.1 (by omega); omega
  rw [← hln9] at hf9
  generalize built (fwords (bmax l7.length * (1 + r8))) 3 l7 = b9 at *
  obtain ⟨A9, c9, rfl, _, hS9⟩ := hS9.form
  -- what is known in w9 of all that came before
  have hg29 : w2.grownBy w9 (some gc) := grownBy_below (grownBy_trans hgw6 hgw8) (hb9.mono (by omega))
  have hb29 : Below gc w2 w9 := ⟨hg29.os, hg29.tape, hg29.output, hg29.size, fun k hk => hg29.block k (by omega) (fun e => by injection e; omega)⟩
  have hbw2 := bchain hbw1 hb2
  have hz1 := hb1.size
  have hz0 := hbW.size
  have hzg := hg0.lt
  have hf9' : Blk w9 w.heap.size 27 #[.int .i64 h1, .slice A1 l1.length c1] := ((hf0.below hb1 hf0.lt).below hb2 (by omega)).below hb29 (by omega)
  have hg9' : Blk w9 (w.heap.size + 1) 27 #[.int .i64 h2, .slice A2 l2.length c2] := ((hg0.below hb1 hg0.lt).below hb2 (by omega)).below hb29 (by omega)
  have hB9 : Blk w9 w5.heap.size 27 #[.int .i64 3, .slice A5 b5.length c5] := (hB5.grown hgw8 (fun e => by injection e; omega)).below hb9 (by omega)
  have hS1z := ((hs1.below hbw2 (Nat.le_refl _)).under hb29 (fun b hb => by have hb' : b < w.heap.size := hb; omega)).more (B' := w9.heap.size) (by omega)
  have hS2z := ((hs2.below hbw2 (Nat.le_refl _)).under hb29 (fun b hb => by have hb' : b < w.heap.size := hb; omega)).more (B' := w9.heap.size) (by omega)
  have hS5z := ((hS5'.grown hgw8 (fun b hb => ⟨by have := hb.2; omega, fun e => by have := hb.1; injection e; omega⟩)).under hb9 (fun b hb => by have := hb.2; omega)).mono (S' := lt w9.heap.size) (fun b hb => by have := hb.2; show b < _; omega)
  have hS9z := hS9.mono (S' := lt w9.heap.size) (fun b hb => hb.2)
  have hbz : Below w.heap.size w w9 := hbw2.trans (hb29.mono (by omega))
  clear hs1 hs2 hsc hbW hf0 hg0 hb1 hk1 hk2 hbw1 hb2 hC5' hB5 hS5' hb5' hgw4 hgw6 hown7 hC7 hg7 r81 hC8 hg8 hown8 hgw8 hown9 hb9 hS9 hln9 hg29 hb29 hbw2
  obtain ⟨q1, q2⟩ := hf9'.cell2
  obtain ⟨q3, q4⟩ := hg9'.cell2
  obtain ⟨q5, q6⟩ := hB9.cell2
  have z1 := hf9'.lt
  have z2 := hg9'.lt
  have z3 := hB9.lt
  go_wp2_with fail
  obtain ⟨WL, hWL⟩ : ∃ WL, WL = (w9.alloc (.cells #[.int .i64 3, .slice A9 b9.length c9] 27)).alloc (.cells #[.int .i64 h1, .slice A1 l1.length c1, .int .i64 h2, .slice A2 l2.length c2, .int .i64 h1, .slice A1 l1.length c1, .int .i64 h1, .slice A1 l1.length c1, .int .i64 3, .slice A5 b5.length c5, .int .i64 3, .slice A9 b9.length c9, .int .i64 3, .slice A5 b5.length c5, .int .i64 3, .slice A5 b5.length c5] 43) := ⟨_, rfl⟩
  rw [← hWL]
  have hbL : Below w9.heap.size w9 WL := hWL ▸ (((Below.refl _ w9).alloc (Nat.le_refl _) _).alloc (by simp) _)
  have hBL : Blk WL (w9.heap.size + 1) 43 #[.int .i64 h1, .slice A1 l1.length c1, .int .i64 h2, .slice A2 l2.length c2, .int .i64 h1, .slice A1 l1.length c1, .int .i64 h1, .slice A1 l1.length c1, .int .i64 3, .slice A5 b5.length c5, .int .i64 3, .slice A9 b9.length c9, .int .i64 3, .slice A5 b5.length c5, .int .i64 3, .slice A5 b5.length c5] := by
    rw [hWL]; exact blk_new' (by simp)
  clear hWL
  have hzL := hbL.size
  have hT1 := (hS1z.below hbL (Nat.le_refl _)).more hzL
  have hT2 := (hS2z.below hbL (Nat.le_refl _)).more hzL
  have hT5 := (hS5z.below hbL (Nat.le_refl _)).more hzL
  have hT9 := (hS9z.below hbL (Nat.le_refl _)).more hzL
  have hpair : ∀ k, k < 4 → ∃ (ha hb : Int) (sa sb : Value) (la lb : List Int), WL.cell? ⟨w9.heap.size + 1, k * 4, none⟩ = some (.int .i64 ha) ∧ WL.cell? ⟨w9.heap.size + 1, k * 4 + 1, none⟩ = some sa ∧
      WL.cell? ⟨w9.heap.size + 1, k * 4 + 2, none⟩ = some (.int .i64 hb) ∧ WL.cell? ⟨w9.heap.size + 1, k * 4 + 3, none⟩ = some sb ∧
      Sl WL (lt WL.heap.size) 1 sa la.length (la.map (.int .u64)) ∧ Sl WL (lt WL.heap.size) 1 sb lb.length (lb.map (.int .u64)) ∧ la.length ≤ 2000 := by
    intro k hk
    match k, hk with
    | 0, _ => exact ⟨h1, h2, _, _, l1, l2, (hBL.cell 0).trans rfl, (hBL.cell 1).trans rfl, (hBL.cell 2).trans rfl, (hBL.cell 3).trans rfl, hT1, hT2, hl1⟩
    | 1, _ => exact ⟨h1, h1, _, _, l1, l1, (hBL.cell 4).trans rfl, (hBL.cell 5).trans rfl, (hBL.cell 6).trans rfl, (hBL.cell 7).trans rfl, hT1, hT1, hl1⟩
    | 2, _ => exact ⟨3, 3, _, _, b5, b9, (hBL.cell 8).trans rfl, (hBL.cell 9).trans rfl, (hBL.cell 10).trans rfl, (hBL.cell 11).trans rfl, hT5, hT9, by omega⟩
    | 3, _ => exact ⟨3, 3, _, _, b5, b5, (hBL.cell 12).trans rfl, (hBL.cell 13).trans rfl, (hBL.cell 14).trans rfl, (hBL.cell 15).trans rfl, hT5, hT5, by omega⟩
  have hzB := hBL.lt
  have hbzL := bchain hbz hbL
  have hP := keep hpair
  clear hpair hBL hT1 hT2 hT5 hT9 hS1z hS2z hS5z hS9z hf9' hg9' hB9 q1 q2 q3 q4 q5 q6 hbz hbL z1 z2 z3
  go_loopw [13] (fun i wr => ∃ k : Nat, k ≤ 4 ∧ i = .int .i64 k ∧ Below WL.heap.size WL wr) (fun i _ => 4 - (intOf i).toNat)
  case atStart => exact ⟨0, Nat.zero_le _, rfl, Below.refl _ _⟩
  case round =>
    obtain ⟨k, hk, rfl, hbr⟩ := hrel
    by_cases hlt : k < 4
    · obtain ⟨ha, hb, sa, sb, la, lb, e0, e1, e2, e3, hSa, hSb, hla⟩ := hP.out k hlt
      obtain ⟨Aa, ca, rfl, _, hSa⟩ := hSa.form
      obtain ⟨Ab, cb, rfl, _, hSb⟩ := hSb.form
      have f0 := (hbr.cell (p := ⟨w9.heap.size + 1, k * 4, none⟩) hzB).trans e0
      have f1 := (hbr.cell (p := ⟨w9.heap.size + 1, k * 4 + 1, none⟩) hzB).trans e1
      have f2 := (hbr.cell (p := ⟨w9.heap.size + 1, k * 4 + 2, none⟩) hzB).trans e2
      have f3 := (hbr.cell (p := ⟨w9.heap.size + 1, k * 4 + 3, none⟩) hzB).trans e3
      have hSa' := (hSa.below hbr (Nat.le_refl _)).more hbr.size
      have hSb' := (hSb.below hbr (Nat.le_refl _)).more hbr.size
      obtain ⟨r, hur⟩ : ∃ r, uspec ha la hb lb = r := ⟨_, rfl⟩
      have hul : r.2.1.length ≤ la.length := hur ▸ uspec_len ha la hb lb
      have hur := keep hur
      clear e0 e1 e2 e3 hSa hSb
      have i0 : (0 : Int) ≤ (k : Int) := by omega
      have i1 : (k : Int) < (4 : Int) := by omega
      have hzr : w9.heap.size + 1 < wr.heap.size := by have := hbr.size; omega
      obtain ⟨wx, rfl⟩ : ∃ wx : World, wx = wr := ⟨_, rfl⟩
      have hslAx := keep (fun (a : World) (h : Held wx.heap.size wx a) => (hSa'.below h.2.2 (Nat.le_refl _)).more h.2.2.size)
      have hslBx := keep (fun (a : World) (h : Held wx.heap.size wx a) => (hSb'.below h.2.2 (Nat.le_refl _)).more h.2.2.size)
      go_upto_region 10 with fail
      go_cut [14, 15] (fun sp se wc => CutRel wx r sp se wc)
      case first =>
        go_region_held3 (Held wx.heap.size wx) (first | exact Held.start _ _ | exact Held.call (by assumption) (by assumption) (Nat.le_refl _) | exact Held.alloc (by assumption) _ (Nat.le_refl _) | ((repeat refine Held.set_ ?_ (by simp) _); assumption) | exact Held.realloc (by assumption) _ (by have h := hb3.size; simp at h; omega))
          (first | (go_at_call 20; refine (union_any ha hb la lb _ _ _ (hslAx.out _ (by assumption)) (hslBx.out _ (by assumption))).mono ?_; rw [hur.out]; rintro e w3 ⟨v3, rfl, hr3, hb3⟩; obtain ⟨A3, c3, rfl, _, hr3⟩ := hr3.form; obtain ⟨hc3, hf3⟩ := bcell hb3; (try simp only [World.size_alloc, World.size_drew] at hc3 hf3)))
        all_goals go_wp2_with fail
        all_goals go_meet
        · exact CutRel.late hr3 (by assumption : Held wx.heap.size wx _).2.2 (by have h := hb3.size; simpa using h)
        · exact CutRel.early hr3 rfl hb3 (by assumption : Held wx.heap.size wx _).2.2
      case rest =>
        obtain ⟨b1, A1', c1', rfl, rfl, hle1, hB1, hT1, hbx⟩ := hcut
        obtain ⟨wy, rfl⟩ : ∃ wy : World, wy = wc := ⟨_, rfl⟩
        have hzx := hbx.size
        have g0 := (hbx.cell (p := ⟨w9.heap.size + 1, k * 4, none⟩) hzr).trans f0
        have g1 := (hbx.cell (p := ⟨w9.heap.size + 1, k * 4 + 1, none⟩) hzr).trans f1
        have g2 := (hbx.cell (p := ⟨w9.heap.size + 1, k * 4 + 2, none⟩) hzr).trans f2
        have g3 := (hbx.cell (p := ⟨w9.heap.size + 1, k * 4 + 3, none⟩) hzr).trans f3
        have hSay := (hSa'.below hbx (Nat.le_refl _)).more hzx
        have hSby := (hSb'.below hbx (Nat.le_refl _)).more hzx
        have hzry : w9.heap.size + 1 < wy.heap.size := by omega
        have hslAy := keep (fun (a : World) (h : Held wy.heap.size wy a) => (hSay.below h.2.2 (Nat.le_refl _)).more h.2.2.size)
        have hslBy := keep (fun (a : World) (h : Held wy.heap.size wy a) => (hSby.below h.2.2 (Nat.le_refl _)).more h.2.2.size)
        clear f0 f1 f2 f3 hslAx hslBx hSa' hSb' hSay hSby
        go_upto_region 11 with fail
        go_cut [16, 17] (fun sp se wc => CutRel wy r sp se wc)
        case first =>
          go_region_held3 (Held wy.heap.size wy) (first | exact Held.start _ _ | exact Held.call (by assumption) (by assumption) (Nat.le_refl _) | exact Held.alloc (by assumption) _ (Nat.le_refl _) | ((repeat refine Held.set_ ?_ (by simp) _); assumption) | exact Held.realloc (by assumption) _ (by have h := hb3.size; simp at h; omega))
            (first | (go_at_call 21; refine (refUnion_any ha hb la lb _ _ _ (hslAy.out _ (by assumption)) (hslBy.out _ (by assumption))).mono ?_; rw [hur.out]; rintro e w3 ⟨v3, rfl, hr3, hb3⟩; obtain ⟨A3, c3, rfl, _, hr3⟩ := hr3.form; obtain ⟨hc3, hf3⟩ := bcell hb3; (try simp only [World.size_alloc, World.size_drew] at hc3 hf3)))
          all_goals go_wp2_with fail
          all_goals go_meet
          · exact CutRel.late hr3 (by assumption : Held wy.heap.size wy _).2.2 (by have h := hb3.size; simpa using h)
          · exact CutRel.early hr3 rfl hb3 (by assumption : Held wy.heap.size wy _).2.2
        case rest =>
          obtain ⟨b2, A2', c2', rfl, rfl, hle2, hB2, hT2, hby⟩ := hcut
          have hzy := hby.size
          have hB1' := hB1.below hby hB1.lt
          have hT1' := (hT1.below hby (Nat.le_refl _)).more hzy
          obtain ⟨u1, u2⟩ := hB1'.cell2
          obtain ⟨u3, u4⟩ := hB2.cell2
          have dne : (r.2.2 != r.2.2) = false := by simp
          clear hB1 hT1 hB1' hB2
          go_wp2_with (go_at_call 22; refine (same_true r.1 r.2.1 _ _ _ hT1' hT2 (by omega)).mono ?_; rintro e w7 ⟨rfl, hb7⟩)
          go_roundw
          case rel => exact ⟨k + 1, by omega, by go_num, bchain (bchain (bchain hbr hbx) hby) hb7⟩
          case measure => simp [intOf]; omega
    · go_wp2
      go_ret
      exact ⟨rfl, bchain hbzL hbr⟩
end Go.Proofs.Ytfainbgbeojcpaa
