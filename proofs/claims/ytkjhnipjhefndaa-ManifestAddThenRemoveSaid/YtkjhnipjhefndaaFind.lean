/- Contracts of fine, index, Find and awake; Check of a manifest with too many segments. -/
import Derived.Test.YtkjhnipjhefndaaManif
namespace Go.Proofs.Ytkjhnipjhefndaa
open Go.RowKit

def fineB (m : Man) : Bool := decide (m.segs.length ≤ 100) && decide (m.marks.length ≤ 50) && decide (m.tals.length ≤ 50) && decide (m.exps.length ≤ 50)
theorem fine_any (m : Man) (AS AM AT AE : Option Addr) (cS cM cT cE : Nat) (w : World) :
    Calls Try.prog 11 #[.agg (manCells m (.slice AS m.segs.length cS) (.slice AM m.marks.length cM) (.slice AT m.tals.length cT) (.slice AE m.exps.length cE))] w fun e w' => e = .returned (.bool (fineB m)) ∧ Below w.heap.size w w' := by
  obtain ⟨nu, nx, jo, ls, lm, lt', le⟩ := m
  obtain ⟨q, hq⟩ : ∃ q, fineB ⟨nu, nx, jo, ls, lm, lt', le⟩ = q := ⟨_, rfl⟩
  rw [hq]
  simp only [fineB] at hq
  have HQ := keep hq
  clear hq
  by_cases h1 : ls.length ≤ 100
  · have d1 : decide ((ls.length : Int) ≤ 100) = true := by simp; omega
    by_cases h2 : lm.length ≤ 50
    · have d2 : decide ((lm.length : Int) ≤ 50) = true := by simp; omega
      by_cases h3 : lt'.length ≤ 50
      · have d3 : decide ((lt'.length : Int) ≤ 50) = true := by simp; omega
        by_cases h4 : le.length ≤ 50
        · have d4 : decide ((le.length : Int) ≤ 50) = true := by simp; omega
          have hq : q = true := by rw [← HQ.out]; simp [h1, h2, h3, h4]
          clear HQ h1 h2 h3 h4
          subst hq
          go_enter Try.func11, Try.ntmps11
          go_wp2_with fail
          go_ret
          exact ⟨rfl, (Below.refl _ _).alloc (Nat.le_refl _) _⟩
        · have d4 : decide ((le.length : Int) ≤ 50) = false := by simp; omega
          have hq : q = false := by rw [← HQ.out]; simp [h1, h2, h3, h4]
          clear HQ h1 h2 h3 h4
          subst hq
          go_enter Try.func11, Try.ntmps11
          go_wp2_with fail
          go_ret
          exact ⟨rfl, (Below.refl _ _).alloc (Nat.le_refl _) _⟩
      · have d3 : decide ((lt'.length : Int) ≤ 50) = false := by simp; omega
        have hq : q = false := by rw [← HQ.out]; simp [h1, h2, h3]
        clear HQ h1 h2 h3
        subst hq
        go_enter Try.func11, Try.ntmps11
        go_wp2_with fail
        go_ret
        exact ⟨rfl, (Below.refl _ _).alloc (Nat.le_refl _) _⟩
    · have d2 : decide ((lm.length : Int) ≤ 50) = false := by simp; omega
      have hq : q = false := by rw [← HQ.out]; simp [h1, h2]
      clear HQ h1 h2
      subst hq
      go_enter Try.func11, Try.ntmps11
      go_wp2_with fail
      go_ret
      exact ⟨rfl, (Below.refl _ _).alloc (Nat.le_refl _) _⟩
  · have d1 : decide ((ls.length : Int) ≤ 100) = false := by simp; omega
    have hq : q = false := by rw [← HQ.out]; simp [h1]
    clear HQ h1
    subst hq
    go_enter Try.func11, Try.ntmps11
    go_wp2_with fail
    go_ret
    exact ⟨rfl, (Below.refl _ _).alloc (Nat.le_refl _) _⟩
theorem check_many (nu nx jo : Int) (A : Option Addr) (n c : Nat) (vM vT vE : Value) (w : World) (h : 64 < n) :
    Calls Try.prog 15 #[.agg #[.int .i64 nu, .int .i64 nx, .int .i64 jo, .slice A n c, vM, vT, vE]] w (IsErr w 4) := by
  have hd : decide ((n : Int) > 64) = true := by simp; omega
  go_enter Try.func15, Try.ntmps15
  go_wp2_with fail
  go_ret
  exact ⟨rfl, (Below.refl _ _).alloc (Nat.le_refl _) _⟩
def IndexRes (w : World) (l : List Seg) (id : Int) (e : Ending) (w' : World) : Prop :=
  ∃ r : Int, e = .returned (.tuple #[.int .i64 r, .bool (decide (0 ≤ r))]) ∧ IdxAt l (fun s => s.id == id) r ∧ Below w.heap.size w w'
set_option maxRecDepth 100000 in
theorem index_any (m : Man) (vS vM vT vE : Value) (id : Int) (w : World) (hL : Sl w (lt w.heap.size) 7 vS m.segs.length (m.segs.flatMap Seg.vals)) (hsm : m.segs.length ≤ 1000000) :
    Calls Try.prog 55 #[.agg (manCells m vS vM vT vE), .int .i64 id] w (IndexRes w m.segs id) := by
  obtain ⟨AS, cS, rfl, _, hL⟩ := hL.form
  obtain ⟨W, hW⟩ : ∃ W, W = (w.alloc (.cells (manCells m (.slice AS m.segs.length cS) vM vT vE) 28)).alloc (.cells #[.int .i64 id] 3) := ⟨_, rfl⟩
  obtain ⟨g, hg⟩ : ∃ g, g = w.heap.size := ⟨_, rfl⟩
  obtain ⟨p, hp⟩ : ∃ p, p = g + 1 := ⟨_, rfl⟩
  have hbX : Below w.heap.size w W := by rw [hW]; exact ((Below.refl _ _).alloc (Nat.le_refl _) _).alloc (by simp) _
  have hBg : Blk W g 28 (manCells m (.slice AS m.segs.length cS) vM vT vE) := by rw [hW, hg]; exact (Blk.new _ _ _).alloc _
  have hBp : Blk W p 3 #[.int .i64 id] := by
    rw [hW, hp, hg]
    have := Blk.new (w.alloc (.cells (manCells m (.slice AS m.segs.length cS) vM vT vE) 28)) 3 #[.int .i64 id]
    simpa using this
  have hLW := (hL.below hbX (Nat.le_refl _)).more hbX.size
  go_enter Try.func55, Try.ntmps55
  go_upto_region 1 with fail
  rw [← hW, ← hg]
  have hp' : g + 1 = p := by omega
  simp only [hp']
  clear hW hp hp' hg hL
  obtain ⟨a0, a1, a2, a3, a4, a5, a6⟩ := hBg.cell7
  go_wp2_with fail
  refine (idxId_any _ m.segs p id W hBp hLW hsm).mono ?_
  rintro e w1 ⟨r, rfl, hr, hb⟩
  have HR := keep hr
  clear hr
  go_wp2_with fail
  refine bodyPost_ret (v := .tuple #[.int .i64 r, .bool (decide (0 ≤ r))]) (by simp [results, Try.results55, go_sem]) rfl ?_
  exact ⟨r, rfl, HR.out, hbX.trans (hb.mono hbX.size)⟩
def seg0 : Seg := ⟨0, 0, 0, 0, 0, 0, 0⟩
def FindRes (w : World) (l : List Seg) (id : Int) (e : Ending) (w' : World) : Prop :=
  ∃ s ok, e = .returned (.tuple #[s.agg, .bool ok]) ∧ ((ok = false ∧ s = seg0 ∧ IdxAt l (fun s => s.id == id) (-1)) ∨ (ok = true ∧ ∃ i : Nat, ∃ h : i < l.length, s = l[i] ∧ IdxAt l (fun s => s.id == id) i)) ∧ Below w.heap.size w w'
abbrev segZ : Array Value := #[.int .i64 0, .int .i64 0, .int .i64 0, .int .i64 0, .int .i64 0, .int .i64 0, .int .i64 0]
set_option maxRecDepth 100000 in
set_option maxHeartbeats 2000000 in
theorem find_any (m : Man) (vS vM vT vE : Value) (id : Int) (w : World) (hL : Sl w (lt w.heap.size) 7 vS m.segs.length (m.segs.flatMap Seg.vals)) (hsm : m.segs.length ≤ 1000000) :
    Calls Try.prog 21 #[.agg (manCells m vS vM vT vE), .int .i64 id] w (FindRes w m.segs id) := by
  obtain ⟨AS, cS, rfl, _, hL⟩ := hL.form
  obtain ⟨W, hW⟩ : ∃ W, W = (w.alloc (.cells (manCells m (.slice AS m.segs.length cS) vM vT vE) 28)).alloc (.cells segZ 46) := ⟨_, rfl⟩
  obtain ⟨g, hg⟩ : ∃ g, g = w.heap.size := ⟨_, rfl⟩
  obtain ⟨p, hp⟩ : ∃ p, p = g + 1 := ⟨_, rfl⟩
  have hbX : Below w.heap.size w W := by rw [hW]; exact ((Below.refl _ _).alloc (Nat.le_refl _) _).alloc (by simp) _
  have hBg : Blk W g 28 (manCells m (.slice AS m.segs.length cS) vM vT vE) := by rw [hW, hg]; exact (Blk.new _ _ _).alloc _
  have hBp : Blk W p 46 segZ := by
    rw [hW, hp, hg]
    have := Blk.new (w.alloc (.cells (manCells m (.slice AS m.segs.length cS) vM vT vE) 28)) 46 segZ
    simpa using this
  have hLW := (hL.below hbX (Nat.le_refl _)).more hbX.size
  have hgw : w.heap.size ≤ g := by omega
  go_enter Try.func21, Try.ntmps21
  go_upto_region 1 with fail
  rw [← hW, ← hg]
  have hp' : g + 1 = p := by omega
  simp only [hp']
  have hgp : g < p := by omega
  have HP := keep (show w.heap.size ≤ p by omega)
  clear hW hp hp' hg hL
  obtain ⟨a0, a1, a2, a3, a4, a5, a6⟩ := hBg.cell7
  go_wp2_with fail
  refine (index_any m _ _ _ _ id W hLW hsm).mono ?_
  rintro e w1 ⟨r, rfl, hr, hb⟩
  have hLs := (hLW.below hb (Nat.le_refl _)).more hb.size
  have hBg1 := hBg.below hb hBg.lt
  have hBp1 := hBp.below hb hBp.lt
  have hbw := hbX.trans (hb.mono hbX.size)
  clear hLW hBg hBp hb hbX a0 a1 a2 a3 a4 a5 a6
  obtain ⟨b0, b1, b2, b3, b4, b5, b6⟩ := hBg1.cell7
  obtain ⟨p0, p1, p2, p3, p4, p5, p6⟩ := hBp1.cell7
  have pf0 := hBp1.frozen 0
  have pf1 := hBp1.frozen 1
  have pf2 := hBp1.frozen 2
  have pf3 := hBp1.frozen 3
  have pf4 := hBp1.frozen 4
  have pf5 := hBp1.frozen 5
  have pf6 := hBp1.frozen 6
  have hlp := hBp1.lt
  rcases hr with ⟨i, hi, rfl, hpi, hno⟩ | ⟨rfl, hno⟩
  · have hd : decide ((0 : Int) ≤ (i : Int)) = true := by simp
    have HI := keep (show IdxAt m.segs (fun s => s.id == id) (i : Int) from .inl ⟨i, hi, rfl, hpi, hno⟩)
    clear hpi hno
    obtain ⟨bb, o, rfl, hbb, c0, c1, c2, c3, c4, c5, c6⟩ := segs_cells hLs hi
    have hbb' : bb < w1.heap.size := hbb
    have hi1 : (i : Int) < (m.segs.length : Int) := by omega
    have hi0 : (0 : Int) ≤ (i : Int) := by omega
    go_wp2_with fail
    obtain ⟨wz, hwz⟩ : ∃ wz, wz = ((((((w1.setCell ⟨p, 0, none⟩ (.int .i64 m.segs[i].id)).setCell ⟨p, 1, none⟩ (.int .i64 m.segs[i].level)).setCell ⟨p, 2, none⟩ (.int .i64 m.segs[i].tier)).setCell ⟨p, 3, none⟩ (.int .i64 m.segs[i].count)).setCell ⟨p, 4, none⟩ (.int .i64 m.segs[i].lo)).setCell ⟨p, 5, none⟩ (.int .i64 m.segs[i].hi)).setCell ⟨p, 6, none⟩ (.int .i64 m.segs[i].size) := ⟨_, rfl⟩
    rw [← hwz]
    have hPc : Blk wz p 46 #[.int .i64 m.segs[i].id, .int .i64 m.segs[i].level, .int .i64 m.segs[i].tier, .int .i64 m.segs[i].count, .int .i64 m.segs[i].lo, .int .i64 m.segs[i].hi, .int .i64 m.segs[i].size] := by rw [hwz]; exact ((((((hBp1.set_ 0 _).set_ 1 _).set_ 2 _).set_ 3 _).set_ 4 _).set_ 5 _).set_ 6 _
    have hbc : Below w.heap.size w1 wz := by
      have hpw := HP.out
      rw [hwz]
      exact (((((((Below.refl _ _).setCell (p := ⟨p, 0, none⟩) hpw _).setCell (p := ⟨p, 1, none⟩) hpw _).setCell (p := ⟨p, 2, none⟩) hpw _).setCell (p := ⟨p, 3, none⟩) hpw _).setCell (p := ⟨p, 4, none⟩) hpw _).setCell (p := ⟨p, 5, none⟩) hpw _).setCell (p := ⟨p, 6, none⟩) hpw _
    obtain ⟨y0, y1, y2, y3, y4, y5, y6⟩ := hPc.cell7
    refine bodyPost_ret (v := .tuple #[m.segs[i].agg, .bool true]) (by simp [results, Try.results21, go_sem, y0, y1, y2, y3, y4, y5, y6, Seg.agg]) rfl ?_
    exact ⟨m.segs[i], true, rfl, .inr ⟨rfl, i, hi, rfl, HI.out⟩, hbw.trans hbc⟩
  · have HI := keep (show IdxAt m.segs (fun s => s.id == id) (-1) from .inr ⟨rfl, hno⟩)
    clear hno
    go_wp2_with fail
    obtain ⟨wz, hwz⟩ : ∃ wz, wz = ((((((w1.setCell ⟨p, 0, none⟩ (.int .i64 0)).setCell ⟨p, 1, none⟩ (.int .i64 0)).setCell ⟨p, 2, none⟩ (.int .i64 0)).setCell ⟨p, 3, none⟩ (.int .i64 0)).setCell ⟨p, 4, none⟩ (.int .i64 0)).setCell ⟨p, 5, none⟩ (.int .i64 0)).setCell ⟨p, 6, none⟩ (.int .i64 0) := ⟨_, rfl⟩
    rw [← hwz]
    have hPc : Blk wz p 46 segZ := by rw [hwz]; exact ((((((hBp1.set_ 0 _).set_ 1 _).set_ 2 _).set_ 3 _).set_ 4 _).set_ 5 _).set_ 6 _
    have hbc : Below w.heap.size w1 wz := by
      have hpw := HP.out
      rw [hwz]
      exact (((((((Below.refl _ _).setCell (p := ⟨p, 0, none⟩) hpw _).setCell (p := ⟨p, 1, none⟩) hpw _).setCell (p := ⟨p, 2, none⟩) hpw _).setCell (p := ⟨p, 3, none⟩) hpw _).setCell (p := ⟨p, 4, none⟩) hpw _).setCell (p := ⟨p, 5, none⟩) hpw _).setCell (p := ⟨p, 6, none⟩) hpw _
    obtain ⟨y0, y1, y2, y3, y4, y5, y6⟩ := hPc.cell7
    refine bodyPost_ret (v := .tuple #[seg0.agg, .bool false]) (by simp [results, Try.results21, go_sem, y0, y1, y2, y3, y4, y5, y6, Seg.agg, seg0]) rfl ?_
    exact ⟨seg0, false, rfl, .inl ⟨rfl, rfl, HI.out⟩, hbw.trans hbc⟩
theorem awake_any (w : World) : Calls Try.prog 10 #[] w fun e w' => e = .returned (.bool true) ∧ Below w.heap.size w w' := by
  obtain ⟨W, hW⟩ : ∃ W, W = w.alloc (.cells #[.int .i64 2, .int .i64 1, .int .i64 0, .int .i64 0, .int .i64 0, .int .i64 0, .int .i64 0] 46) := ⟨_, rfl⟩
  have hb0 : Below w.heap.size w W := by rw [hW]; exact (Below.refl _ _).alloc (Nat.le_refl _) _
  have hS : Sl W (lt W.heap.size) 7 (.slice (some ⟨w.heap.size, 0, none⟩) 1 1) 1 (([⟨2, 1, 0, 0, 0, 0, 0⟩] : List Seg).flatMap Seg.vals) := by rw [hW]; exact sl_one w _ 46 7 rfl
  have H := keep (find_any ⟨0, 3, 0, [⟨2, 1, 0, 0, 0, 0, 0⟩], [], [], []⟩ (.slice (some ⟨w.heap.size, 0, none⟩) 1 1) (.slice none 0 0) (.slice none 0 0) (.slice none 0 0) 2 W hS (by simp))
  clear hS
  go_enter Try.func10, Try.ntmps10
  go_wp2_with fail
  rw [← hW]
  refine H.out.mono ?_
  rintro e w1 ⟨s, ok, rfl, hr, hb⟩
  have hok : ok = true ∧ s = ⟨2, 1, 0, 0, 0, 0, 0⟩ := by
    rcases hr with ⟨_, _, h⟩ | ⟨h1, i, hi, h2, _⟩
    · rcases h with ⟨i, _, h, _⟩ | ⟨_, h⟩
      · omega
      · have := h 0 (by simp); simp at this
    · have : i = 0 := by simp at hi; omega
      subst this
      exact ⟨h1, h2⟩
  obtain ⟨rfl, rfl⟩ := hok
  clear hr hW
  have hbb := hb0.trans (hb.mono hb0.size)
  clear H
  go_wp2_with fail
  go_ret
  exact ⟨rfl, hbb.alloc hbb.size _⟩
end Go.Proofs.Ytkjhnipjhefndaa
