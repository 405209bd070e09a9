/- The contracts of Remove at one identifier: that of the last segment, and one that is not there. -/
import Derived.Test.YtkjhnipjhefndaaAdd
namespace Go.Proofs.Ytkjhnipjhefndaa
open Go.RowKit

set_option maxHeartbeats 4000000 in
set_option maxRecDepth 100000 in
theorem remove_missing (m : Man) (id : Int) (vS vM vT vE vi : Value) (w : World) (hL : Lies w (lt w.heap.size) m vS vM vT vE) (hi : Sl w (lt w.heap.size) 1 vi 1 [.int .i64 id]) (hsm : Small m) (he0 : manErr m = 0) (hno : ∀ j, (h : j < m.segs.length) → (m.segs[j].id == id) = false) :
    Calls Try.prog 22 #[.agg (manCells m vS vM vT vE), vi] w fun e w' => e = .returned (.tuple #[.agg manZ7, .int .i64 9]) ∧ Below w.heap.size w w' := by
  obtain ⟨E1, f1, h1s, _⟩ := hL.s.form
  obtain ⟨E2, f2, h2s, _⟩ := hL.m_.form
  obtain ⟨E3, f3, h3s, _⟩ := hL.t.form
  obtain ⟨E4, f4, h4s, _⟩ := hL.e.form
  obtain ⟨Ai, ci, h5s, _, hi⟩ := hi.form
  subst h1s h2s h3s h4s h5s
  obtain ⟨X, hX⟩ : ∃ X, X = manCells m (.slice E1 m.segs.length f1) (.slice E2 m.marks.length f2) (.slice E3 m.tals.length f3) (.slice E4 m.exps.length f4) := ⟨_, rfl⟩
  obtain ⟨W, hW⟩ : ∃ W, W = ((w.alloc (.cells X 28)).alloc (.cells #[.slice Ai 1 ci] 50)).alloc (.cells manZ7 28) := ⟨_, rfl⟩
  obtain ⟨g, hg⟩ : ∃ g, g = w.heap.size := ⟨_, rfl⟩
  obtain ⟨gi, hgi⟩ : ∃ gi, gi = g + 1 := ⟨_, rfl⟩
  obtain ⟨p, hp⟩ : ∃ p, p = gi + 1 := ⟨_, rfl⟩
  have hgi' : g + 1 = gi := hgi.symm
  have hp' : gi + 1 = p := hp.symm
  have hbW : Below w.heap.size w W := by rw [hW]; exact (((Below.refl _ _).alloc (Nat.le_refl _) _).alloc (by simp) _).alloc (by simp; omega) _
  have hG : Blk W g 28 X := by rw [hW, hg]; exact ((Blk.new _ _ _).alloc _).alloc _
  have hI : Blk W gi 50 #[.slice Ai 1 ci] := by
    rw [hW, hgi, hg]
    have := (Blk.new (w.alloc (.cells X 28)) 50 #[.slice Ai 1 ci]).alloc (.cells manZ7 28)
    simpa using this
  have hP : Blk W p 28 manZ7 := by
    rw [hW, hp, hgi, hg]
    have := Blk.new ((w.alloc (.cells X 28)).alloc (.cells #[.slice Ai 1 ci] 50)) 28 manZ7
    simpa using this
  have hLW : Lies W (lt w.heap.size) m (.slice E1 m.segs.length f1) (.slice E2 m.marks.length f2) (.slice E3 m.tals.length f3) (.slice E4 m.exps.length f4) := ⟨hL.s.below hbW (Nat.le_refl _), hL.m_.below hbW (Nat.le_refl _), hL.t.below hbW (Nat.le_refl _), hL.e.below hbW (Nat.le_refl _)⟩
  have hiW : Sl W (lt w.heap.size) 1 (.slice Ai 1 ci) 1 [.int .i64 id] := hi.below hbW (Nat.le_refl _)
  have hgw : w.heap.size ≤ g := by omega
  have hggi : g < gi := by omega
  have hgip : gi < p := by omega
  go_enter Try.func22, Try.ntmps22
  go_upto_region 1 with fail
  rw [← hX, ← hW, ← hg]
  simp only [hgi', hp']
  subst hX
  clear hW hg hgi hp hgi' hp' hL hi
  have hzW := hbW.size
  obtain ⟨a0, a1, a2, a3, a4, a5, a6⟩ := (show Blk W g 28 #[.int .i64 m.nu, .int .i64 m.nx, .int .i64 m.jo, .slice E1 m.segs.length f1, .slice E2 m.marks.length f2, .slice E3 m.tals.length f3, .slice E4 m.exps.length f4] from hG).cell7
  go_wp2_with fail
  refine (check_any m _ _ _ _ W (hLW.mono (fun k hk => Nat.lt_of_lt_of_le hk hzW)) hsm).mono ?_
  rintro e w1 ⟨hee, hb1⟩
  rw [he0] at hee
  subst hee
  have hG1 := hG.below hb1 hG.lt
  have hI1 := hI.below hb1 hI.lt
  have hP1 := hP.below hb1 hP.lt
  have hbw1 := bchain hbW hb1
  have hL1 : Lies w1 (lt w.heap.size) m (.slice E1 m.segs.length f1) (.slice E2 m.marks.length f2) (.slice E3 m.tals.length f3) (.slice E4 m.exps.length f4) := ⟨hLW.s.below hb1 hzW, hLW.m_.below hb1 hzW, hLW.t.below hb1 hzW, hLW.e.below hb1 hzW⟩
  have hi1 : Sl w1 (lt w.heap.size) 1 (.slice Ai 1 ci) 1 [.int .i64 id] := hiW.below hb1 hzW
  have hz1 := hbw1.size
  clear hG hI hP hb1 hbW hLW hiW a0 a1 a2 a3 a4 a5 a6
  have i0 : w1.cell? ⟨gi, 0, none⟩ = some (.slice Ai 1 ci) := by rw [hI1.cell]; rfl
  have hlG := hG1.lt
  have hlI := hI1.lt
  have hlP := hP1.lt
  obtain ⟨bi, oi, rfl, hbi, hrowi⟩ := hi1.row (by omega)
  have id0 : w1.cell? ⟨bi, oi, none⟩ = some (.int .i64 id) := by have := hrowi 0 (.int .i64 id) rfl; simpa using this
  have hbil : bi < w.heap.size := hbi
  have hgr := fun w3 => put7_grown w3 p (.int .i64 0) (.int .i64 0) (.int .i64 0) (.slice none 0 0) (.slice none 0 0) (.slice none 0 0) (.slice none 0 0)
  go_wp2_with fail
  go_loopw [7, 8, 9, 10, 19] (fun _ _ _ _ i wr => i = .int .i64 0 ∧ wr = w1) (fun _ _ _ _ _ _ => 0)
  case atStart => exact ⟨rfl, rfl⟩
  case round =>
    obtain ⟨rfl, rfl⟩ := hrel
    obtain ⟨a0, a1, a2, a3, a4, a5, a6⟩ := (show Blk wr g 28 #[.int .i64 m.nu, .int .i64 m.nx, .int .i64 m.jo, .slice E1 m.segs.length f1, .slice E2 m.marks.length f2, .slice E3 m.tals.length f3, .slice E4 m.exps.length f4] from hG1).cell7
    go_wp2_with fail
    refine (index_any m _ _ _ _ id wr (hL1.s.mono (fun k hk => Nat.lt_of_lt_of_le hk hz1)) hsm.s).mono ?_
    rintro e w2 ⟨r, rfl, hr, hb2⟩
    have hr1 : r = -1 := by
      rcases hr with ⟨i, hi2, _, hp2, _⟩ | ⟨h, _⟩
      · have := hno i hi2
        simp only at hp2
        rw [this] at hp2
        cases hp2
      · exact h
    subst hr1
    have hP2 := hP1.below hb2 hlP
    have hbw2 := bchain hbw1 hb2
    have HF : Hid (Below w.heap.size w (put7 w2 p (.int .i64 0) (.int .i64 0) (.int .i64 0) (.slice none 0 0) (.slice none 0 0) (.slice none 0 0) (.slice none 0 0))) := keep (below_grown hbw2 (hgr w2) hbw2.size (by omega))
    obtain ⟨y0, y1, y2, y3, y4, y5, y6⟩ := (put7_blk hP2 (.int .i64 0) (.int .i64 0) (.int .i64 0) (.slice none 0 0) (.slice none 0 0) (.slice none 0 0) (.slice none 0 0)).cell7
    obtain ⟨e0, e1, e2, e3, e4, e5, e6⟩ := hP2.cell7
    have g0 := hP2.frozen 0
    have g1 := hP2.frozen 1
    have g2 := hP2.frozen 2
    have g3 := hP2.frozen 3
    have g4 := hP2.frozen 4
    have g5 := hP2.frozen 5
    have g6 := hP2.frozen 6
    clear hr hb2 hP2 hbw2 hgr hno a0 a1 a2 a3 a4 a5 a6 hL1 hi1 hG1 hI1 hP1 hbw1 i0 id0 hrowi
    go_wp2_with fail
    refine bodyPost_ret (v := .tuple #[.agg manZ7, .int .i64 9]) (by simp [results, Try.results22, go_sem, y0, y1, y2, y3, y4, y5, y6]) rfl ?_
    exact ⟨rfl, HF.out⟩
/-- The manifest without its last segment. -/
def without (m : Man) (l : List Seg) : Man := ⟨m.nu, m.nx, m.jo, l, m.marks, m.tals, m.exps⟩
def RmvRes (w : World) (m : Man) (l : List Seg) (vM vT vE : Value) (e : Ending) (w' : World) : Prop :=
  ∃ vS, e = .returned (.tuple #[.agg (manCells (counted (without m l)) vS vM vT vE), .int .i64 0]) ∧ Sl w' (btw w.heap.size w'.heap.size) 7 vS l.length (l.flatMap Seg.vals) ∧ Below w.heap.size w w'
set_option maxHeartbeats 8000000 in
set_option maxRecDepth 100000 in
theorem remove_last (m : Man) (l : List Seg) (y : Seg) (id : Int) (vS vM vT vE vi : Value) (w : World) (hL : Lies w (lt w.heap.size) m vS vM vT vE) (hi : Sl w (lt w.heap.size) 1 vi 1 [.int .i64 id]) (hsm : Small m) (he0 : manErr m = 0) (hsg : m.segs = l ++ [y]) (hno : ∀ j, (h : j < l.length) → (l[j].id == id) = false) (hy : (y.id == id) = true)
    (h0 : 0 ≤ m.nu) (h1 : m.nu ≤ 1000000) (he : manErr (counted (without m l)) = 0) :
    Calls Try.prog 22 #[.agg (manCells m vS vM vT vE), vi] w (RmvRes w m l vM vT vE) := by
  have hHL : Hid (m.segs.length = l.length + 1) := keep (by rw [hsg]; simp)
  have hidx : Hid (∀ r, IdxAt m.segs (fun s => s.id == id) r → r = (l.length : Int)) := keep (fun r hr => by
    rw [hsg] at hr
    rcases hr with ⟨i, hi2, rfl, hp2, hn⟩ | ⟨rfl, hn⟩
    · rcases Nat.lt_or_ge i l.length with h | h
      · have h2 := hno i h
        simp only [List.getElem_append_left h] at hp2
        rw [h2] at hp2
        cases hp2
      · have : i < l.length + 1 := by simpa using hi2
        congr 1; omega
    · have h2 := hn l.length (by simp)
      simp at h2
      rw [beq_iff_eq] at hy
      exact absurd hy h2)
  have HSG := keep hsg
  clear hsg
  obtain ⟨E1, f1, h1s, _⟩ := hL.s.form
  obtain ⟨E2, f2, h2s, _⟩ := hL.m_.form
  obtain ⟨E3, f3, h3s, _⟩ := hL.t.form
  obtain ⟨E4, f4, h4s, _⟩ := hL.e.form
  obtain ⟨Ai, ci, h5s, _, hi⟩ := hi.form
  subst h1s h2s h3s h4s h5s
  obtain ⟨X, hX⟩ : ∃ X, X = manCells m (.slice E1 m.segs.length f1) (.slice E2 m.marks.length f2) (.slice E3 m.tals.length f3) (.slice E4 m.exps.length f4) := ⟨_, rfl⟩
  obtain ⟨W, hW⟩ : ∃ W, W = ((w.alloc (.cells X 28)).alloc (.cells #[.slice Ai 1 ci] 50)).alloc (.cells manZ7 28) := ⟨_, rfl⟩
  obtain ⟨g, hg⟩ : ∃ g, g = w.heap.size := ⟨_, rfl⟩
  obtain ⟨gi, hgi⟩ : ∃ gi, gi = g + 1 := ⟨_, rfl⟩
  obtain ⟨p, hp⟩ : ∃ p, p = gi + 1 := ⟨_, rfl⟩
  have hgi' : g + 1 = gi := hgi.symm
  have hp' : gi + 1 = p := hp.symm
  have hbW : Below w.heap.size w W := by rw [hW]; exact (((Below.refl _ _).alloc (Nat.le_refl _) _).alloc (by simp) _).alloc (by simp; omega) _
  have hG : Blk W g 28 X := by rw [hW, hg]; exact ((Blk.new _ _ _).alloc _).alloc _
  have hI : Blk W gi 50 #[.slice Ai 1 ci] := by
    rw [hW, hgi, hg]
    have := (Blk.new (w.alloc (.cells X 28)) 50 #[.slice Ai 1 ci]).alloc (.cells manZ7 28)
    simpa using this
  have hP : Blk W p 28 manZ7 := by
    rw [hW, hp, hgi, hg]
    have := Blk.new ((w.alloc (.cells X 28)).alloc (.cells #[.slice Ai 1 ci] 50)) 28 manZ7
    simpa using this
  have hLW : Lies W (lt w.heap.size) m (.slice E1 m.segs.length f1) (.slice E2 m.marks.length f2) (.slice E3 m.tals.length f3) (.slice E4 m.exps.length f4) := ⟨hL.s.below hbW (Nat.le_refl _), hL.m_.below hbW (Nat.le_refl _), hL.t.below hbW (Nat.le_refl _), hL.e.below hbW (Nat.le_refl _)⟩
  have hiW : Sl W (lt w.heap.size) 1 (.slice Ai 1 ci) 1 [.int .i64 id] := hi.below hbW (Nat.le_refl _)
  have hgw : w.heap.size ≤ g := by omega
  have hggi : g < gi := by omega
  have hgip : gi < p := by omega
  go_enter Try.func22, Try.ntmps22
  go_upto_region 1 with fail
  rw [← hX, ← hW, ← hg]
  simp only [hgi', hp']
  subst hX
  clear hW hg hgi hp hgi' hp' hL hi
  have hzW := hbW.size
  obtain ⟨a0, a1, a2, a3, a4, a5, a6⟩ := (show Blk W g 28 #[.int .i64 m.nu, .int .i64 m.nx, .int .i64 m.jo, .slice E1 m.segs.length f1, .slice E2 m.marks.length f2, .slice E3 m.tals.length f3, .slice E4 m.exps.length f4] from hG).cell7
  go_wp2_with fail
  refine (check_any m _ _ _ _ W (hLW.mono (fun k hk => Nat.lt_of_lt_of_le hk hzW)) hsm).mono ?_
  rintro e w1 ⟨hee, hb1⟩
  rw [he0] at hee
  subst hee
  have hG1 := hG.below hb1 hG.lt
  have hI1 := hI.below hb1 hI.lt
  have hP1 := hP.below hb1 hP.lt
  have hbw1 := bchain hbW hb1
  have hL1 : Lies w1 (lt w.heap.size) m (.slice E1 m.segs.length f1) (.slice E2 m.marks.length f2) (.slice E3 m.tals.length f3) (.slice E4 m.exps.length f4) := ⟨hLW.s.below hb1 hzW, hLW.m_.below hb1 hzW, hLW.t.below hb1 hzW, hLW.e.below hb1 hzW⟩
  have hi1 : Sl w1 (lt w.heap.size) 1 (.slice Ai 1 ci) 1 [.int .i64 id] := hiW.below hb1 hzW
  have hz1 := hbw1.size
  clear hG hI hP hb1 hbW hLW hiW a0 a1 a2 a3 a4 a5 a6
  have i0 : w1.cell? ⟨gi, 0, none⟩ = some (.slice Ai 1 ci) := by rw [hI1.cell]; rfl
  have hlG := hG1.lt
  have hlI := hI1.lt
  have hlP := hP1.lt
  obtain ⟨bi, oi, rfl, hbi, hrowi⟩ := hi1.row (by omega)
  have id0 : w1.cell? ⟨bi, oi, none⟩ = some (.int .i64 id) := by have := hrowi 0 (.int .i64 id) rfl; simpa using this
  have hbil : bi < w.heap.size := hbi
  go_wp2_with fail
  go_loopw [7, 8, 9, 10, 19] (fun _ _ _ _ i wr => ∃ k : Nat, k ≤ 1 ∧ i = .int .i64 k ∧ Below w1.heap.size w1 wr) (fun _ _ _ _ i _ => 1 - (intOf i).toNat)
  case atStart => exact ⟨0, by omega, rfl, Below.refl _ _⟩
  case round =>
    obtain ⟨k, hk, rfl, hbr⟩ := hrel
    obtain ⟨wo, rfl⟩ : ∃ wo : World, wo = wr := ⟨_, rfl⟩
    have hGo := hG1.below hbr hlG
    have hIo := hI1.below hbr hlI
    have hPo := hP1.below hbr hlP
    have hzo := hbr.size
    have i0' : wo.cell? ⟨gi, 0, none⟩ = some (.slice (some ⟨bi, oi, none⟩) 1 ci) := by rw [hIo.cell]; rfl
    have id0' : wo.cell? ⟨bi, oi, none⟩ = some (.int .i64 id) := (hbr.cell (p := ⟨bi, oi, none⟩) (by show bi < w1.heap.size; omega)).trans id0
    have hLo : Lies wo (lt w.heap.size) m (.slice E1 m.segs.length f1) (.slice E2 m.marks.length f2) (.slice E3 m.tals.length f3) (.slice E4 m.exps.length f4) := ⟨hL1.s.below hbr hz1, hL1.m_.below hbr hz1, hL1.t.below hbr hz1, hL1.e.below hbr hz1⟩
    have hio : Sl wo (lt w.heap.size) 1 (.slice (some ⟨bi, oi, none⟩) 1 ci) 1 [.int .i64 id] := hi1.below hbr hz1
    obtain ⟨a0, a1, a2, a3, a4, a5, a6⟩ := (show Blk wo g 28 #[.int .i64 m.nu, .int .i64 m.nx, .int .i64 m.jo, .slice E1 m.segs.length f1, .slice E2 m.marks.length f2, .slice E3 m.tals.length f3, .slice E4 m.exps.length f4] from hGo).cell7
    clear i0 id0
    by_cases hlt : k < 1
    · obtain rfl : k = 0 := by omega
      clear hk hlt
      go_wp2_with fail
      refine (index_any m _ _ _ _ id wo (hLo.s.mono (fun k hk => by have hk' : k < w.heap.size := hk; show k < wo.heap.size; omega)) hsm.s).mono ?_
      rintro e w2 ⟨r, rfl, hr, hb2⟩
      have hrl := hidx.out r hr
      subst hrl
      have hbr2 := hbr.trans (hb2.mono hzo)
      have i0'' : w2.cell? ⟨gi, 0, none⟩ = some (.slice (some ⟨bi, oi, none⟩) 1 ci) := by rw [(hIo.below hb2 hIo.lt).cell]; rfl
      clear hr a0 a1 a2 a3 a4 a5 a6 i0' id0' hLo hio hGo hIo hPo
      go_wp2_with fail
      refine (contains_any _ [] id (lt 0) w2 (Sl.nil _ _ _ _ _) (by simp)).mono ?_
      rintro e w3 ⟨rfl, rfl⟩
      simp only [List.any_nil]
      go_wp2_with fail
      go_roundw
      case rel => exact ⟨1, by omega, rfl, hbr2⟩
      case measure => simp [intOf]
    · obtain rfl : k = 1 := by omega
      have hbwo := hbw1.trans (hbr.mono hz1)
      have hlGo := hGo.lt
      have hlIo := hIo.lt
      have hlPo := hPo.lt
      have hzwo := hbwo.size
      have hHS : Sl wo (lt wo.heap.size) 7 (.slice E1 m.segs.length f1) m.segs.length (m.segs.flatMap Seg.vals) := hLo.s.mono (fun k hk => by have hk' : k < w.heap.size := hk; show k < wo.heap.size; omega)
      have HNO := keep hno
      have HY := keep hy
      clear hk hlt hbr hG1 hI1 hP1 hbw1 hL1 hi1 hno hy hrowi
      go_wp2_with fail
      refine (clone_any _ m.segs wo hHS hsm.s).mono ?_
      rintro e wC ⟨vC, rfl, hoC, hbC⟩
      have hoC' : wC.ownsRow wo.heap.size 46 7 vC (l.length + 1) (l.flatMap Seg.vals ++ y.vals) := by
        have h := hoC
        rw [hHL.out, HSG.out, List.flatMap_append] at h
        simpa using h
      have hGC := hGo.below hbC hlGo
      have hIC := hIo.below hbC hlIo
      have hPC := hPo.below hbC hlPo
      have hiC : Sl wC (lt wo.heap.size) 1 (.slice (some ⟨bi, oi, none⟩) 1 ci) 1 [.int .i64 id] := (hio.below hbC hzwo).mono (fun k hk => by have hk' : k < w.heap.size := hk; show k < wo.heap.size; omega)
      have hLC : Lies wC (lt w.heap.size) m (.slice E1 m.segs.length f1) (.slice E2 m.marks.length f2) (.slice E3 m.tals.length f3) (.slice E4 m.exps.length f4) := ⟨hLo.s.below hbC hzwo, hLo.m_.below hbC hzwo, hLo.t.below hbC hzwo, hLo.e.below hbC hzwo⟩
      have hzC := hbC.size
      have hbwC := bchain hbwo hbC
      have hms1 : l.length + 1 ≤ 1000000 := by have := hHL.out; have := hsm.s; omega
      clear hoC hHS hGo hIo hPo hio hLo hbC a0 a1 a2 a3 a4 a5 a6 i0' id0' hbwo
      go_wp2_with fail
      refine (delLast_any vC _ l y gi wo.heap.size id wC hoC' hIC hiC hzC HNO.out HY.out hms1).mono ?_
      rintro e wD ⟨gq, cq, hvC, hgq, hgql, rfl, hSD, hgD⟩
      have hGD := hGC.grown hgD (fun e => by injection e; omega)
      have hPD := hPC.grown hgD (fun e => by injection e; omega)
      have hLD := hLC.kept hgD (fun k hk => by have hk' : k < w.heap.size := hk; exact ⟨by omega, fun e => by injection e; omega⟩)
      have hbwD := below_grown hbwC hgD hbwC.size (by omega)
      have hzD := hgD.size
      have a3 := hGD.cell7.2.2.2.1
      have fa3 := hGD.frozen 3
      clear hvC hoC' hGC hIC hPC hiC hLC hbwC hgD
      go_upto_region 12 with fail
      obtain ⟨wE, hwE⟩ : ∃ wE, wE = wD.setCell ⟨g, 3, none⟩ (.slice (some ⟨gq, 0, none⟩) l.length cq) := ⟨_, rfl⟩
      rw [← hwE]
      have hgE : wD.grownBy wE (some g) := by rw [hwE]; exact grownBy_set (World.grownBy.refl _ _) _ _
      have hGE : Blk wE g 28 #[.int .i64 m.nu, .int .i64 m.nx, .int .i64 m.jo, .slice (some ⟨gq, 0, none⟩) l.length cq, .slice E2 m.marks.length f2, .slice E3 m.tals.length f3, .slice E4 m.exps.length f4] := by rw [hwE]; exact hGD.set_ 3 _
      have hPE := hPD.grown hgE (fun e => by injection e; omega)
      have hLE := hLD.kept hgE (fun k hk => by have hk' : k < w.heap.size := hk; exact ⟨by omega, fun e => by injection e; omega⟩)
      have hSE := hSD.grown hgE (fun k hk => by subst hk; exact ⟨by omega, fun e => by injection e; omega⟩)
      have hbwE := below_grown hbwD hgE hbwD.size (by omega)
      have hzE := hgE.size
      have hLf : Lies wE (lt wE.heap.size) (without m l) (.slice (some ⟨gq, 0, none⟩) l.length cq) (.slice E2 m.marks.length f2) (.slice E3 m.tals.length f3) (.slice E4 m.exps.length f4) :=
        ⟨hSE.mono (fun k hk => by subst hk; show _ < _; omega), hLE.m_.mono (fun k hk => by have hk' : k < w.heap.size := hk; show k < _; omega), hLE.t.mono (fun k hk => by have hk' : k < w.heap.size := hk; show k < _; omega), hLE.e.mono (fun k hk => by have hk' : k < w.heap.size := hk; show k < _; omega)⟩
      have hsmA : Small (without m l) := ⟨by show l.length ≤ _; omega, hsm.m_, hsm.t, hsm.e⟩
      clear hwE hgE hGD hPD hLD hSD hbwD a3 fa3 hLE
      obtain ⟨a0, a1, a2, a3, a4, a5, a6⟩ := hGE.cell7
      go_wp2_with fail
      have hc5 : Calls Try.prog 54 #[.agg #[.int .i64 m.nu, .int .i64 m.nx, .int .i64 m.jo, .slice (some ⟨gq, 0, none⟩) l.length cq, .slice E2 m.marks.length f2, .slice E3 m.tals.length f3, .slice E4 m.exps.length f4]] wE (fun e w' => e = .returned (.tuple #[.agg #[.int .i64 (m.nu + 1), .int .i64 m.nx, .int .i64 m.jo, .slice (some ⟨gq, 0, none⟩) l.length cq, .slice E2 m.marks.length f2, .slice E3 m.tals.length f3, .slice E4 m.exps.length f4], .int .i64 0]) ∧ Below wE.heap.size wE w') := counted_any (without m l) _ _ _ _ wE hLf hsmA h0 h1 he
      refine hc5.mono ?_
      rintro e wF ⟨rfl, hbF⟩
      clear hc5
      have hPF := hPE.below hbF hPE.lt
      have hbwF := bchain hbwE hbF
      have hzF := hbF.size
      have hSF := hSE.under hbF (fun k hk => by subst hk; omega)
      have hgr := put7_grown wF p (.int .i64 (m.nu + 1)) (.int .i64 m.nx) (.int .i64 m.jo) (.slice (some ⟨gq, 0, none⟩) l.length cq) (.slice E2 m.marks.length f2) (.slice E3 m.tals.length f3) (.slice E4 m.exps.length f4)
      have HF : Hid (RmvRes w m l (.slice E2 m.marks.length f2) (.slice E3 m.tals.length f3) (.slice E4 m.exps.length f4) (.returned (.tuple #[.agg #[.int .i64 (m.nu + 1), .int .i64 m.nx, .int .i64 m.jo, .slice (some ⟨gq, 0, none⟩) l.length cq, .slice E2 m.marks.length f2, .slice E3 m.tals.length f3, .slice E4 m.exps.length f4], .int .i64 0])) (put7 wF p (.int .i64 (m.nu + 1)) (.int .i64 m.nx) (.int .i64 m.jo) (.slice (some ⟨gq, 0, none⟩) l.length cq) (.slice E2 m.marks.length f2) (.slice E3 m.tals.length f3) (.slice E4 m.exps.length f4))) := by
        refine keep ⟨.slice (some ⟨gq, 0, none⟩) l.length cq, rfl, ?_, below_grown hbwF hgr hbwF.size (by omega)⟩
        exact (hSF.grown hgr (fun k hk => by subst hk; exact ⟨by omega, fun e => by injection e; omega⟩)).mono (fun k hk => by subst hk; exact ⟨by omega, Nat.lt_of_lt_of_le (by omega) hgr.size⟩)
      obtain ⟨y0, y1, y2, y3, y4, y5, y6⟩ := (put7_blk hPF (.int .i64 (m.nu + 1)) (.int .i64 m.nx) (.int .i64 m.jo) (.slice (some ⟨gq, 0, none⟩) l.length cq) (.slice E2 m.marks.length f2) (.slice E3 m.tals.length f3) (.slice E4 m.exps.length f4)).cell7
      obtain ⟨e0, e1, e2, e3, e4, e5, e6⟩ := hPF.cell7
      have g0 := hPF.frozen 0
      have g1 := hPF.frozen 1
      have g2 := hPF.frozen 2
      have g3 := hPF.frozen 3
      have g4 := hPF.frozen 4
      have g5 := hPF.frozen 5
      have g6 := hPF.frozen 6
      clear hgr hSF hSE hPF hPE hGE hbF hbwF hbwE hLf a0 a1 a2 a3 a4 a5 a6
      go_wp2_with fail
      refine bodyPost_ret (v := .tuple #[.agg #[.int .i64 (m.nu + 1), .int .i64 m.nx, .int .i64 m.jo, .slice (some ⟨gq, 0, none⟩) l.length cq, .slice E2 m.marks.length f2, .slice E3 m.tals.length f3, .slice E4 m.exps.length f4], .int .i64 0]) (by simp [results, Try.results22, go_sem, y0, y1, y2, y3, y4, y5, y6]) rfl ?_
      exact HF.out
end Go.Proofs.Ytkjhnipjhefndaa
