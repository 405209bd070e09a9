/- The contract of the law's function wrong. -/
import Derived.Test.YtkjhnipjhefndaaManif
import Derived.Deep.CutBlock
namespace Go.Proofs.Ytkjhnipjhefndaa
open Go.RowKit

abbrev manZ : Array Value := #[.int .i64 0, .int .i64 0, .int .i64 0, .slice none 0 0, .slice none 0 0, .slice none 0 0, .slice none 0 0]
theorem own_under {w w' : World} {base e size n B : Nat} {v : Value} {xs : List Value} (h : w.ownsRow base e size v n xs) (hlt : ∀ k, v.ownBlock = some k → k < B) (hb : Below B w w') : w'.ownsRow base e size v n xs := by
  refine ⟨h.1, ?_⟩
  rcases h.2 with hn | ⟨g, cap, cur, rfl, hg, hgg, rest⟩
  · exact .inl hn
  · exact .inr ⟨g, cap, cur, rfl, hg, (hb.block g (hlt g rfl)).trans hgg, rest⟩
theorem flat_set : ∀ (l : List Seg) (k j : Nat) (x : Int), k < l.length → j < 7 → ∃ l' : List Seg, l'.length = l.length ∧ (l.flatMap Seg.vals).set (k * 7 + j) (.int .i64 x) = l'.flatMap Seg.vals
  | [], _, _, _, h, _ => absurd h (by simp)
  | s :: l, 0, j, x, _, hj => by
    obtain ⟨s', hs'⟩ : ∃ s' : Seg, s.vals.set j (.int .i64 x) = s'.vals := by
      rcases (by omega : j = 0 ∨ j = 1 ∨ j = 2 ∨ j = 3 ∨ j = 4 ∨ j = 5 ∨ j = 6) with rfl | rfl | rfl | rfl | rfl | rfl | rfl
      · exact ⟨{ s with id := x }, rfl⟩
      · exact ⟨{ s with level := x }, rfl⟩
      · exact ⟨{ s with tier := x }, rfl⟩
      · exact ⟨{ s with count := x }, rfl⟩
      · exact ⟨{ s with lo := x }, rfl⟩
      · exact ⟨{ s with hi := x }, rfl⟩
      · exact ⟨{ s with size := x }, rfl⟩
    refine ⟨s' :: l, by simp, ?_⟩
    rw [List.flatMap_cons, List.flatMap_cons, Nat.zero_mul, Nat.zero_add, List.set_append_left _ _ (by show j < 7; exact hj), hs']
  | s :: l, k + 1, j, x, hk, hj => by
    obtain ⟨l', h1, h2⟩ := flat_set l k j x (by simpa using hk) hj
    refine ⟨s :: l', by simp [h1], ?_⟩
    rw [List.flatMap_cons, List.flatMap_cons, ← h2, List.set_append_right _ _ (by show 7 ≤ _; omega)]
    have hx : (k + 1) * 7 + j - s.vals.length = k * 7 + j := by show (k + 1) * 7 + j - 7 = k * 7 + j; omega
    rw [hx]
theorem own_put {w : World} {base gS cap k j : Nat} {l : List Seg} (x : Int) (h : w.ownsRow base 46 7 (.slice (some ⟨gS, 0, none⟩) l.length cap) l.length (l.flatMap Seg.vals)) (hk : k < l.length) (hj : j < 7) :
    ∃ l' : List Seg, l'.length = l.length ∧ (w.setCell ⟨gS, k * 7 + j, none⟩ (.int .i64 x)).ownsRow base 46 7 (.slice (some ⟨gS, 0, none⟩) l.length cap) l.length (l'.flatMap Seg.vals) := by
  rcases h.2 with ⟨h0, _⟩ | ⟨g, c, cur, hv, hb, hg, hnc, hcm, hcs, ht⟩
  · cases h0
  injection hv with hv1 hv2 hv3
  injection hv1 with hv1
  injection hv1 with hv1
  subst hv1 hv3
  obtain ⟨l', h1, h2⟩ := flat_set l k j x hk hj
  refine ⟨l', h1, ?_, .inr ⟨gS, cap, cur.setIfInBounds (k * 7 + j) (.int .i64 x), rfl, hb, Blk.set_ (t := 46) hg _ _, hnc, hcm, by simp [hcs], ?_⟩⟩
  · rw [← h2, List.length_set]; exact h.1
  · rw [← h2, ← ht, Array.toList_setIfInBounds, List.take_set]
theorem own_cell {w : World} {base gS cap k j : Nat} {l : List Seg} (h : w.ownsRow base 46 7 (.slice (some ⟨gS, 0, none⟩) l.length cap) l.length (l.flatMap Seg.vals)) (hk : k < l.length) (hj : j < 7) :
    (∃ u, w.cell? ⟨gS, k * 7 + j, none⟩ = some u) ∧ w.frozen? ⟨gS, k * 7 + j, none⟩ = false ∧ base ≤ gS ∧ gS < w.heap.size := by
  rcases h.2 with ⟨h0, _⟩ | ⟨g, c, cur, hv, hb, hg, hnc, hcm, hcs, ht⟩
  · cases h0
  injection hv with hv1 hv2 hv3
  injection hv1 with hv1
  injection hv1 with hv1
  subst hv1 hv3
  have hB : Blk w gS 46 cur := hg
  refine ⟨?_, hB.frozen _, hb, hB.lt⟩
  have hlt : k * 7 + j < cur.size := by omega
  exact ⟨cur[k * 7 + j], by rw [hB.cell]; simp [hlt]⟩
/-- What wrong's variables hold behind its three copies. -/
structure Wr (wr : World) (g p gc B0 B1 B2 : Nat) (nu nx jo : Int) (ls : List Seg) (lm : List Mk) (lt' le : List Tl) (vS vM vT vE : Value) : Prop where
  bg : Blk wr g 28 #[.int .i64 nu, .int .i64 nx, .int .i64 jo, vS, vM, vT, vE]
  bp : Blk wr p 28 manZ
  s : wr.ownsRow B0 46 7 vS ls.length (ls.flatMap Seg.vals)
  s1 : ∀ k, vS.ownBlock = some k → k < B1
  m_ : wr.ownsRow B1 72 3 vM lm.length (lm.flatMap Mk.vals)
  m1 : ∀ k, vM.ownBlock = some k → k < B2
  e : wr.ownsRow B2 116 3 vE le.length (le.flatMap Tl.vals)
  t : Sl wr (fun b => b < g ∧ b ≠ gc) 3 vT lt'.length (lt'.flatMap Tl.vals)
  c : Codes wr gc
  z : B2 ≤ wr.heap.size
structure Ords (g p gc B0 B1 B2 : Nat) : Prop where
  a : gc < g
  b : g < p
  c : p < B0
  d : B0 ≤ B1
  e : B1 ≤ B2
section
variable {wr w' : World} {g p gc B0 B1 B2 : Nat} {nu nx jo : Int} {ls : List Seg} {lm : List Mk} {lt' le : List Tl} {vS vM vT vE : Value}
theorem Wr.keep_ {r : Nat} (h : Wr wr g p gc B0 B1 B2 nu nx jo ls lm lt' le vS vM vT vE) (hg : wr.grownBy w' (some r)) (hC : Codes w' gc) (hr : r = gc) (o : Ords g p gc B0 B1 B2) : Wr w' g p gc B0 B1 B2 nu nx jo ls lm lt' le vS vM vT vE := by
  subst hr
  obtain ⟨o1, o2, o3, o4, o5⟩ := o
  exact ⟨h.bg.grown hg (fun e => by injection e; omega), h.bp.grown hg (fun e => by injection e; omega), own_grown h.s hg (by omega), h.s1, own_grown h.m_ hg (by omega), h.m1, own_grown h.e hg (by omega), h.t.grown hg (fun b hb => ⟨Nat.lt_trans hb.1 h.bg.lt, fun e => by injection e with e; exact hb.2 e⟩), hC, Nat.le_trans h.z hg.size⟩
theorem Wr.grown (h : Wr wr g p gc B0 B1 B2 nu nx jo ls lm lt' le vS vM vT vE) (hg : wr.grownBy w' (some gc)) (hC : Codes w' gc) (o : Ords g p gc B0 B1 B2) : Wr w' g p gc B0 B1 B2 nu nx jo ls lm lt' le vS vM vT vE := h.keep_ hg hC rfl o
theorem Wr.drew_ (h : Wr wr g p gc B0 B1 B2 nu nx jo ls lm lt' le vS vM vT vE) (o : Ords g p gc B0 B1 B2) : Wr wr.drew g p gc B0 B1 B2 nu nx jo ls lm lt' le vS vM vT vE := h.grown (grownBy_drew (World.grownBy.refl _ _)) h.c.drew o
theorem Wr.alloc_ (h : Wr wr g p gc B0 B1 B2 nu nx jo ls lm lt' le vS vM vT vE) (x : Obj) (o : Ords g p gc B0 B1 B2) : Wr (wr.alloc x) g p gc B0 B1 B2 nu nx jo ls lm lt' le vS vM vT vE := h.grown (World.grownBy_alloc _ _ _) (h.c.alloc _) o
theorem Wr.set_ (h : Wr wr g p gc B0 B1 B2 nu nx jo ls lm lt' le vS vM vT vE) (o : Ords g p gc B0 B1 B2) (i : Nat) (u : Value) {nu' nx' jo' : Int} (hb : Blk (wr.setCell ⟨g, i, none⟩ u) g 28 #[.int .i64 nu', .int .i64 nx', .int .i64 jo', vS, vM, vT, vE]) :
    Wr (wr.setCell ⟨g, i, none⟩ u) g p gc B0 B1 B2 nu' nx' jo' ls lm lt' le vS vM vT vE := by
  obtain ⟨o1, o2, o3, o4, o5⟩ := o
  have hs : wr.grownBy (wr.setCell ⟨g, i, none⟩ u) (some g) := grownBy_set (World.grownBy.refl _ _) i _
  exact ⟨hb, h.bp.grown hs (fun e => by injection e; omega), own_grown h.s hs (by omega), h.s1, own_grown h.m_ hs (by omega), h.m1, own_grown h.e hs (by omega), h.t.grown hs (fun b hb => ⟨Nat.lt_trans hb.1 h.bg.lt, fun e => by injection e with e; have := hb.1; omega⟩), h.c.grown hs o1, Nat.le_trans h.z hs.size⟩
theorem Wr.putE (h : Wr wr g p gc B0 B1 B2 nu nx jo ls lm lt' le vS vM vT vE) (o : Ords g p gc B0 B1 B2) (hb : Below B2 wr w') {v' : Value} {le' : List Tl} (hown : w'.ownsRow B2 116 3 v' le'.length (le'.flatMap Tl.vals)) :
    Wr (w'.setCell ⟨g, 6, none⟩ v') g p gc B0 B1 B2 nu nx jo ls lm lt' le' vS vM vT v' := by
  obtain ⟨o1, o2, o3, o4, o5⟩ := o
  have hs : w'.grownBy (w'.setCell ⟨g, 6, none⟩ v') (some g) := grownBy_set (World.grownBy.refl _ _) 6 _
  exact ⟨(h.bg.below hb (by omega)).set_ 6 _, (h.bp.below hb (by omega)).grown hs (fun e => by injection e; omega), own_grown (own_under h.s (fun k hk => by have := h.s1 k hk; omega) hb) hs (by omega), h.s1, own_grown (own_under h.m_ h.m1 hb) hs (by omega), h.m1, own_grown hown hs (by omega), (h.t.under hb (fun b hx => by have := hx.1; omega)).grown hs (fun b hx => ⟨by have := hx.1; have := h.bg.lt; have := h.z; have := hb.size; omega, fun e => by injection e with e; have := hx.1; omega⟩), (h.c.under hb (by omega)).grown hs o1, Nat.le_trans (Nat.le_trans h.z hb.size) hs.size⟩
/-- What is asked behind the switch. -/
structure Fin_ (wd : World) (g p gc : Nat) (m' : Man) (vS vM vT vE : Value) : Prop where
  bg : Blk wd g 28 (manCells m' vS vM vT vE)
  bp : Blk wd p 28 manZ
  l : Lies wd (fun b => b < wd.heap.size ∧ b ≠ gc ∧ b ≠ p) m' vS vM vT vE
  c : Codes wd gc
theorem Wr.fin (h : Wr wr g p gc B0 B1 B2 nu nx jo ls lm lt' le vS vM vT vE) (o : Ords g p gc B0 B1 B2) : Fin_ wr g p gc ⟨nu, nx, jo, ls, lm, lt', le⟩ vS vM vT vE := by
  obtain ⟨o1, o2, o3, o4, o5⟩ := o
  refine ⟨h.bg, h.bp, ⟨?_, ?_, ?_, ?_⟩, h.c⟩
  · exact (Sl.of_own_btw h.s).mono (fun b hb => ⟨hb.2, by have := hb.1; omega, by have := hb.1; omega⟩)
  · exact (Sl.of_own_btw h.m_).mono (fun b hb => ⟨hb.2, by have := hb.1; omega, by have := hb.1; omega⟩)
  · exact h.t.mono (fun b hb => ⟨by have := hb.1; have := h.bg.lt; omega, hb.2, by have := hb.1; omega⟩)
  · exact (Sl.of_own_btw h.e).mono (fun b hb => ⟨hb.2, by have := hb.1; omega, by have := hb.1; omega⟩)
theorem Wr.putM (h : Wr wr g p gc B0 B1 B2 nu nx jo ls lm lt' le vS vM vT vE) (o : Ords g p gc B0 B1 B2) (hb : Below B1 wr w') (hgr : wr.grownBy w' vM.ownBlock) {v' : Value} {lm' : List Mk} (hown : w'.ownsRow B1 72 3 v' lm'.length (lm'.flatMap Mk.vals)) :
    Fin_ (w'.setCell ⟨g, 4, none⟩ v') g p gc ⟨nu, nx, jo, ls, lm', lt', le⟩ vS v' vT vE := by
  obtain ⟨o1, o2, o3, o4, o5⟩ := o
  have hs : w'.grownBy (w'.setCell ⟨g, 4, none⟩ v') (some g) := grownBy_set (World.grownBy.refl _ _) 4 _
  have hown2 := own_grown hown hs (by omega)
  have hS := own_grown (own_under h.s h.s1 hb) hs (by omega)
  have hE := own_grown (h.e.kept hgr (by
    cases hv : vE.ownBlock with
    | none => exact .inl rfl
    | some k =>
      refine .inr (fun e => ?_)
      have h1 := h.m1 k e.symm
      have h2 := (h.e.lt k hv).1
      omega)) hs (by omega)
  refine ⟨(h.bg.below hb (by omega)).set_ 4 _, (h.bp.below hb (by omega)).grown hs (fun e => by injection e; omega), ⟨?_, ?_, ?_, ?_⟩, (h.c.under hb (by omega)).grown hs o1⟩
  · exact (Sl.of_own_btw hS).mono (fun b hb => ⟨hb.2, by have := hb.1; omega, by have := hb.1; omega⟩)
  · exact (Sl.of_own_btw hown2).mono (fun b hb => ⟨hb.2, by have := hb.1; omega, by have := hb.1; omega⟩)
  · exact ((h.t.under hb (fun b hx => by have := hx.1; omega)).grown hs (fun b hx => ⟨by have := hx.1; have := h.bg.lt; have := h.z; have := hb.size; omega, fun e => by injection e with e; have := hx.1; omega⟩)).mono (fun b hx => ⟨by have := hx.1; have := h.bg.lt; have := hb.size; have := hs.size; omega, hx.2, by have := hx.1; omega⟩)
  · exact (Sl.of_own_btw hE).mono (fun b hb => ⟨hb.2, by have := hb.1; omega, by have := hb.1; omega⟩)
theorem Wr.putS {gS cap k j : Nat} (h : Wr wr g p gc B0 B1 B2 nu nx jo ls lm lt' le (.slice (some ⟨gS, 0, none⟩) ls.length cap) vM vT vE) (o : Ords g p gc B0 B1 B2) (x : Int) (hk : k < ls.length) (hj : j < 7) :
    ∃ ls' : List Seg, ls'.length = ls.length ∧ Wr (wr.setCell ⟨gS, k * 7 + j, none⟩ (.int .i64 x)) g p gc B0 B1 B2 nu nx jo ls' lm lt' le (.slice (some ⟨gS, 0, none⟩) ls.length cap) vM vT vE := by
  obtain ⟨o1, o2, o3, o4, o5⟩ := o
  obtain ⟨l', h1, h2⟩ := own_put x h.s hk hj
  have hlt := h.s1 gS rfl
  have hge := (h.s.lt gS rfl).1
  have hs : wr.grownBy (wr.setCell ⟨gS, k * 7 + j, none⟩ (.int .i64 x)) (some gS) := grownBy_set (World.grownBy.refl _ _) _ _
  refine ⟨l', h1, h.bg.grown hs (fun e => by injection e; omega), h.bp.grown hs (fun e => by injection e; omega), by rw [h1]; exact h2, h.s1, own_grown h.m_ hs (by omega), h.m1, own_grown h.e hs (by omega), h.t.grown hs (fun b hb => ⟨Nat.lt_trans hb.1 h.bg.lt, fun e => by injection e with e; have := hb.1; omega⟩), h.c.grown hs (by omega), Nat.le_trans h.z hs.size⟩
end
/-- The tallies behind wrong: those that were there, and at most four drawn ones. -/
def ExpsOk (le le' : List Tl) : Prop := le'.length ≤ le.length + 4 ∧ ∀ t ∈ le', t ∈ le ∨ TlOk 40 t
theorem ExpsOk.refl (le : List Tl) : ExpsOk le le := ⟨Nat.le_add_right _ _, fun _ h => .inl h⟩
theorem ExpsOk.add (le : List Tl) {l2 : List Tl} (h : l2.length ≤ 4) (hk : ∀ t ∈ l2, TlOk 40 t) : ExpsOk le (le ++ l2) :=
  ⟨by rw [List.length_append]; omega, fun t ht => (List.mem_append.1 ht).imp id (hk t)⟩
def WrongRes (w : World) (gc : Nat) (m : Man) (e : Ending) (w' : World) : Prop :=
  ∃ m' vS vM vT vE, e = .returned (.agg (manCells m' vS vM vT vE)) ∧ Lies w' (But w' gc) m' vS vM vT vE ∧ m'.segs.length = m.segs.length ∧ m'.marks.length ≤ m.marks.length + 1 ∧ m'.tals = m.tals ∧ ExpsOk m.exps m'.exps ∧ Codes w' gc ∧ w.grownBy w' (some gc)

set_option maxHeartbeats 4000000 in
set_option maxRecDepth 100000 in
theorem wrong_law (gc : Nat) (m : Man) (vS vM vT vE : Value) (w : World) (h : Codes w gc) (hL : Lies w (But w gc) m vS vM vT vE) (hs : m.segs.length ≤ 1000) (hm : m.marks.length ≤ 1000) (ht : m.tals.length ≤ 1000) (he : m.exps.length ≤ 1000) :
    Calls Try.prog 14 #[.agg (manCells m vS vM vT vE), .pointer (some ⟨gc, 0, none⟩)] w (WrongRes w gc m) := by
  have hgc := h.lt_
  obtain ⟨AS, cS, rfl, _, hS⟩ := hL.s.form
  obtain ⟨AM, cM, rfl, _, hM⟩ := hL.m_.form
  obtain ⟨AT, cT, rfl, _, hT⟩ := hL.t.form
  obtain ⟨AE, cE, rfl, _, hE⟩ := hL.e.form
  clear hL
  obtain ⟨nu, nx, jo, ls, lm, lt', le⟩ := m
  dsimp only at *
  obtain ⟨W, hW⟩ : ∃ W, W = (w.alloc (.cells #[.int .i64 nu, .int .i64 nx, .int .i64 jo, .slice AS ls.length cS, .slice AM lm.length cM, .slice AT lt'.length cT, .slice AE le.length cE] 28)).alloc (.cells manZ 28) := ⟨_, rfl⟩
  obtain ⟨g, hg⟩ : ∃ g, g = w.heap.size := ⟨_, rfl⟩
  obtain ⟨p, hp⟩ : ∃ p, p = g + 1 := ⟨_, rfl⟩
  have hsz : W.heap.size = w.heap.size + 2 := by rw [hW]; simp
  have hbX : Below w.heap.size w W := by rw [hW]; exact ((Below.refl _ _).alloc (Nat.le_refl _) _).alloc (by simp) _
  have hBg : Blk W g 28 #[.int .i64 nu, .int .i64 nx, .int .i64 jo, .slice AS ls.length cS, .slice AM lm.length cM, .slice AT lt'.length cT, .slice AE le.length cE] := by rw [hW, hg]; exact (Blk.new _ _ _).alloc _
  have hBp : Blk W p 28 manZ := by
    rw [hW, hp, hg]
    have := Blk.new (w.alloc (.cells #[.int .i64 nu, .int .i64 nx, .int .i64 jo, .slice AS ls.length cS, .slice AM lm.length cM, .slice AT lt'.length cT, .slice AE le.length cE] 28)) 28 manZ
    simpa using this
  have hC : Codes W gc := h.under hbX hgc
  have hSW := hS.under hbX (fun b hb => hb.1)
  have hMW := hM.under hbX (fun b hb => hb.1)
  have hTW := hT.under hbX (fun b hb => hb.1)
  have hEW := hE.under hbX (fun b hb => hb.1)
  have o0 : gc < g := by omega
  have o1 : g < p := by omega
  have o2 : p < W.heap.size := by omega
  have HGW := keep hg
  go_enter Try.func14, Try.ntmps14
  go_upto_region 1 with fail
  rw [← hW, ← hg]
  have hp' : g + 1 = p := by omega
  simp only [hp']
  clear hW hp hp' hsz hS hM hT hE h hgc hg
  obtain ⟨a0, a1, a2, a3, a4, a5, a6⟩ := hBg.cell7
  have hlg := hBg.lt
  have h63 : 0 + ls.length ≤ maxLen := by unfold maxLen; omega
  go_upto_region 2 with (refine wpList_appendS elSegs rfl _ _ rfl W.heap.size (.slice none 0 0) 0 [] rfl (World.ownsRow_nil _ _ _ _) _ _ ls.length _ rfl hSW (oneS ls) h63 (by omega) (Nat.le_refl _) ?_; intro v' w1 hown1 hb hgr; rw [Nat.zero_add, List.nil_append] at hown1; obtain ⟨A1, k1, rfl, _, _⟩ := (Sl.of_own_btw hown1).form; have hBn := hBg.below hb hlg; obtain ⟨d0, d1, d2, d3, d4, d5, d6⟩ := hBn.cell7; have hfz := hBn.frozen 3)
  obtain ⟨Y1, hY⟩ : ∃ Y, Y = w1.setCell ⟨g, 3, none⟩ (.slice A1 ls.length k1) := ⟨_, rfl⟩
  rw [← hY]
  have hsY : w1.grownBy Y1 (some g) := by rw [hY]; exact grownBy_set (World.grownBy.refl _ _) 3 _
  have hgw : w.heap.size ≤ g := by have := HGW.out; omega
  have hbXY : Below w.heap.size W Y1 := by rw [hY]; exact (hb.mono (by omega)).setCell (p := ⟨g, 3, none⟩) hgw _
  have hBgY : Blk Y1 g 28 #[.int .i64 nu, .int .i64 nx, .int .i64 jo, .slice A1 ls.length k1, .slice AM lm.length cM, .slice AT lt'.length cT, .slice AE le.length cE] := by rw [hY]; exact hBn.set_ 3 _
  have hBpY : Blk Y1 p 28 manZ := (hBp.below hb (by omega)).grown hsY (fun e => by injection e; omega)
  have hCY : Codes Y1 gc := (hC.under hb (by omega)).grown hsY o0
  have hown1Y := own_grown hown1 hsY (by omega)
  have hz1 : W.heap.size ≤ Y1.heap.size := Nat.le_trans hb.size hsY.size
  have hzz : w1.heap.size ≤ Y1.heap.size := hsY.size
  have hl1 : ∀ k, (Value.slice A1 ls.length k1).ownBlock = some k → k < Y1.heap.size := fun k hk => (hown1Y.lt k hk).2
  have hMW := (hMW.under hb (fun b hx => by have := hx.1; omega)).grown hsY (fun b hx => ⟨by have := hx.1; have := hb.size; omega, fun e => by injection e with e; have := hx.1; omega⟩)
  have hEW := (hEW.under hb (fun b hx => by have := hx.1; omega)).grown hsY (fun b hx => ⟨by have := hx.1; have := hb.size; omega, fun e => by injection e with e; have := hx.1; omega⟩)
  have hTW := (hTW.under hb (fun b hx => by have := hx.1; omega)).grown hsY (fun b hx => ⟨by have := hx.1; have := hb.size; omega, fun e => by injection e with e; have := hx.1; omega⟩)
  have hbX := hbX.trans hbXY
  clear hY hBn hBg hBp hC hb hgr hown1 hbXY a0 a1 a2 a3 a4 a5 a6 d0 d1 d2 d3 d4 d5 d6 hfz hsY hlg h63
  have hBg := hBgY
  have hBp := hBpY
  have hC := hCY
  clear hBgY hBpY hCY
  obtain ⟨a0, a1, a2, a3, a4, a5, a6⟩ := hBg.cell7
  have hlg := hBg.lt
  have h63 : 0 + lm.length ≤ maxLen := by unfold maxLen; omega
  go_upto_region 3 with (refine wpList_appendS elMarks rfl _ _ rfl Y1.heap.size (.slice none 0 0) 0 [] rfl (World.ownsRow_nil _ _ _ _) _ _ lm.length _ rfl hMW (oneM lm) h63 (by omega) (Nat.le_refl _) ?_; intro v' w2 hown2 hb hgr; rw [Nat.zero_add, List.nil_append] at hown2; obtain ⟨A2, k2, rfl, _, _⟩ := (Sl.of_own_btw hown2).form; have hBn := hBg.below hb hlg; obtain ⟨d0, d1, d2, d3, d4, d5, d6⟩ := hBn.cell7; have hfz := hBn.frozen 4)
  obtain ⟨Y2, hY⟩ : ∃ Y, Y = w2.setCell ⟨g, 4, none⟩ (.slice A2 lm.length k2) := ⟨_, rfl⟩
  rw [← hY]
  have hsY : w2.grownBy Y2 (some g) := by rw [hY]; exact grownBy_set (World.grownBy.refl _ _) 4 _
  have hgw : w.heap.size ≤ g := by have := HGW.out; omega
  have hbXY : Below w.heap.size Y1 Y2 := by rw [hY]; exact (hb.mono (by omega)).setCell (p := ⟨g, 4, none⟩) hgw _
  have hBgY : Blk Y2 g 28 #[.int .i64 nu, .int .i64 nx, .int .i64 jo, .slice A1 ls.length k1, .slice A2 lm.length k2, .slice AT lt'.length cT, .slice AE le.length cE] := by rw [hY]; exact hBn.set_ 4 _
  have hBpY : Blk Y2 p 28 manZ := (hBp.below hb (by omega)).grown hsY (fun e => by injection e; omega)
  have hCY : Codes Y2 gc := (hC.under hb (by omega)).grown hsY o0
  have hown2Y := own_grown hown2 hsY (by omega)
  have hz2 : Y1.heap.size ≤ Y2.heap.size := Nat.le_trans hb.size hsY.size
  have hzz : w2.heap.size ≤ Y2.heap.size := hsY.size
  have hl2 : ∀ k, (Value.slice A2 lm.length k2).ownBlock = some k → k < Y2.heap.size := fun k hk => (hown2Y.lt k hk).2
  have hEW := (hEW.under hb (fun b hx => by have := hx.1; omega)).grown hsY (fun b hx => ⟨by have := hx.1; have := hb.size; omega, fun e => by injection e with e; have := hx.1; omega⟩)
  have hTW := (hTW.under hb (fun b hx => by have := hx.1; omega)).grown hsY (fun b hx => ⟨by have := hx.1; have := hb.size; omega, fun e => by injection e with e; have := hx.1; omega⟩)
  have hown1Y := own_grown (own_under hown1Y (fun k hk => by have := hl1 k hk; omega) hb) hsY (by omega)
  have hbX := hbX.trans hbXY
  clear hY hBn hBg hBp hC hb hgr hown2 hbXY a0 a1 a2 a3 a4 a5 a6 d0 d1 d2 d3 d4 d5 d6 hfz hsY hlg h63
  have hBg := hBgY
  have hBp := hBpY
  have hC := hCY
  clear hBgY hBpY hCY
  obtain ⟨a0, a1, a2, a3, a4, a5, a6⟩ := hBg.cell7
  have hlg := hBg.lt
  have h63 : 0 + le.length ≤ maxLen := by unfold maxLen; omega
  go_upto_region 4 with (refine wpList_appendS elTals rfl _ _ rfl Y2.heap.size (.slice none 0 0) 0 [] rfl (World.ownsRow_nil _ _ _ _) _ _ le.length _ rfl hEW (oneT le) h63 (by omega) (Nat.le_refl _) ?_; intro v' w3 hown3 hb hgr; rw [Nat.zero_add, List.nil_append] at hown3; obtain ⟨A3, k3, rfl, _, _⟩ := (Sl.of_own_btw hown3).form; have hBn := hBg.below hb hlg; obtain ⟨d0, d1, d2, d3, d4, d5, d6⟩ := hBn.cell7; have hfz := hBn.frozen 6)
  obtain ⟨Y3, hY⟩ : ∃ Y, Y = w3.setCell ⟨g, 6, none⟩ (.slice A3 le.length k3) := ⟨_, rfl⟩
  rw [← hY]
  have hsY : w3.grownBy Y3 (some g) := by rw [hY]; exact grownBy_set (World.grownBy.refl _ _) 6 _
  have hgw : w.heap.size ≤ g := by have := HGW.out; omega
  have hbXY : Below w.heap.size Y2 Y3 := by rw [hY]; exact (hb.mono (by omega)).setCell (p := ⟨g, 6, none⟩) hgw _
  have hBgY : Blk Y3 g 28 #[.int .i64 nu, .int .i64 nx, .int .i64 jo, .slice A1 ls.length k1, .slice A2 lm.length k2, .slice AT lt'.length cT, .slice A3 le.length k3] := by rw [hY]; exact hBn.set_ 6 _
  have hBpY : Blk Y3 p 28 manZ := (hBp.below hb (by omega)).grown hsY (fun e => by injection e; omega)
  have hCY : Codes Y3 gc := (hC.under hb (by omega)).grown hsY o0
  have hown3Y := own_grown hown3 hsY (by omega)
  have hz3 : Y2.heap.size ≤ Y3.heap.size := Nat.le_trans hb.size hsY.size
  have hzz : w3.heap.size ≤ Y3.heap.size := hsY.size
  have hl3 : ∀ k, (Value.slice A3 le.length k3).ownBlock = some k → k < Y3.heap.size := fun k hk => (hown3Y.lt k hk).2
  have hTW := (hTW.under hb (fun b hx => by have := hx.1; omega)).grown hsY (fun b hx => ⟨by have := hx.1; have := hb.size; omega, fun e => by injection e with e; have := hx.1; omega⟩)
  have hown1Y := own_grown (own_under hown1Y (fun k hk => by have := hl1 k hk; omega) hb) hsY (by omega)
  have hown2Y := own_grown (own_under hown2Y (fun k hk => by have := hl2 k hk; omega) hb) hsY (by omega)
  have hbX := hbX.trans hbXY
  clear hY hBn hBg hBp hC hb hgr hown3 hbXY a0 a1 a2 a3 a4 a5 a6 d0 d1 d2 d3 d4 d5 d6 hfz hsY hlg h63
  have hBg := hBgY
  have hBp := hBpY
  have hC := hCY
  clear hBgY hBpY hCY
  have O : Ords g p gc W.heap.size Y1.heap.size Y2.heap.size := ⟨o0, o1, o2, hz1, hz2⟩
  have hR : Wr Y3 g p gc W.heap.size Y1.heap.size Y2.heap.size nu nx jo ls lm lt' le (.slice A1 ls.length k1) (.slice A2 lm.length k2) (.slice AT lt'.length cT) (.slice A3 le.length k3) := ⟨hBg, hBp, hown1Y, hl1, hown2Y, hl2, hown3Y, hTW.mono (fun b hx => ⟨by have := hx.1; have := HGW.out; omega, hx.2⟩), hC, hz3⟩
  have hG : w.grownBy Y3 (some gc) := grownBy_of_below hbX _
  clear hBg hBp hown1Y hown2Y hown3Y hTW hC hbX hMW hEW hSW
  obtain ⟨B0, hB0⟩ : ∃ B0, B0 = W.heap.size := ⟨_, rfl⟩
  obtain ⟨B1, hB1⟩ : ∃ B1, B1 = Y1.heap.size := ⟨_, rfl⟩
  obtain ⟨B2, hB2⟩ : ∃ B2, B2 = Y2.heap.size := ⟨_, rfl⟩
  rw [← hB0, ← hB1, ← hB2] at hR O
  have hgw : w.heap.size ≤ g := by have := HGW.out; omega
  have hwB1 : w.heap.size ≤ B1 := by have := O.b; have := O.c; have := O.d; omega
  have hwB2 : w.heap.size ≤ B2 := by have := O.e; omega
  have hgB1 : g < B1 := by have := O.b; have := O.c; have := O.d; omega
  have hgB2 : g < B2 := by have := O.e; omega
  have hgcp : gc < p := by have := O.a; have := O.b; omega
  have hgp : g < p := O.b
  have hset : ∀ (wx : World) (i : Nat) (u : Value), w.grownBy wx (some gc) → w.grownBy (wx.setCell ⟨g, i, none⟩ u) (some gc) := fun wx i u hx => grownBy_below hx ((Below.refl _ _).setCell (p := ⟨g, i, none⟩) hgw _)
  have HSET := keep hset
  clear hset hl1 hl2 hl3 hz1 hz2 hz3 hzz o0 o1 o2 hB0 hB1 hB2 HGW
  go_wp2_with fail
  refine (drawNext gc _ _ hR.c (by omega) (by omega)).mono ?_
  rintro e w4 ⟨r, rfl, r0, r1, _, hC4, hg4⟩
  have r2 := r1 (by omega)
  have hR4 := hR.grown hg4 hC4 O
  have hG4 := grownBy_trans hG hg4
  clear r1 hR hG hg4 hC4
  go_upto_block 0 with (fail)
  go_cut [] (fun wd => ∃ m' vS vM vT vE, Fin_ wd g p gc m' vS vM vT vE ∧ m'.segs.length = ls.length ∧ m'.marks.length ≤ lm.length + 1 ∧ m'.tals = lt' ∧ ExpsOk le m'.exps ∧ w.grownBy wd (some gc))
  case first =>
    by_cases e0 : r = 0
    · subst e0
      clear r0 r2
      go_wp2_with fail
      refine (drawInt gc _ hR4.c).mono ?_
      rintro e w5 ⟨x, rfl, x0, x1, hC5, hg5⟩
      have hR5 := hR4.grown hg5 hC5 O
      have hG5 := grownBy_trans hG4 hg5
      obtain ⟨a0, a1, a2, a3, a4, a5, a6⟩ := hR5.bg.cell7
      have hf := hR5.bg.frozen 0
      clear hR4 hG4 hg5 hC5
      go_wp2_with fail
      go_meet
      exact ⟨_, _, _, _, _, (hR5.set_ O 0 (.int .i64 x) (hR5.bg.set_ 0 _)).fin O, rfl, Nat.le_succ _, rfl, ExpsOk.refl _, HSET.out _ _ _ hG5⟩
    have t0 : (r == 0) = false := by simpa using e0
    by_cases e1 : r = 1
    · subst e1
      clear r0 r2
      go_wp2_with fail
      refine (drawInt gc _ hR4.c).mono ?_
      rintro e w5 ⟨x, rfl, x0, x1, hC5, hg5⟩
      have hR5 := hR4.grown hg5 hC5 O
      have hG5 := grownBy_trans hG4 hg5
      obtain ⟨a0, a1, a2, a3, a4, a5, a6⟩ := hR5.bg.cell7
      have hf := hR5.bg.frozen 1
      clear hR4 hG4 hg5 hC5
      go_wp2_with fail
      go_meet
      exact ⟨_, _, _, _, _, (hR5.set_ O 1 (.int .i64 x) (hR5.bg.set_ 1 _)).fin O, rfl, Nat.le_succ _, rfl, ExpsOk.refl _, HSET.out _ _ _ hG5⟩
    have t1 : (r == 1) = false := by simpa using e1
    by_cases e2 : r = 2
    · subst e2
      clear r0 r2
      go_wp2_with fail
      refine (drawInt gc _ hR4.c).mono ?_
      rintro e w5 ⟨x, rfl, x0, x1, hC5, hg5⟩
      have hR5 := hR4.grown hg5 hC5 O
      have hG5 := grownBy_trans hG4 hg5
      obtain ⟨a0, a1, a2, a3, a4, a5, a6⟩ := hR5.bg.cell7
      have hf := hR5.bg.frozen 2
      clear hR4 hG4 hg5 hC5
      go_wp2_with fail
      go_meet
      exact ⟨_, _, _, _, _, (hR5.set_ O 2 (.int .i64 x) (hR5.bg.set_ 2 _)).fin O, rfl, Nat.le_succ _, rfl, ExpsOk.refl _, HSET.out _ _ _ hG5⟩
    have t2 : (r == 2) = false := by simpa using e2
    by_cases e3 : r = 3
    · subst e3
      clear r0 r2
      have hJ0 := hR4.drew_ O
      have hK0 : w.grownBy w4.drew (some gc) := grownBy_drew hG4
      obtain ⟨_, _, _, _, _, _, c6⟩ := hJ0.bg.cell7
      clear hR4 hG4
      go_upto_region 26 with fail
      go_region_law (first
        | (refine step_appendS elTals rfl _ _ rfl B2 _ le.length _ rfl hO _ _ l2.length _ rfl hsrc (oneT l2) h63 hby hbs ?_; intro v' w3 hown' hb' hgr'; obtain ⟨A', cap', rfl, _, _⟩ := (Sl.of_own_btw hown').form; have hB3 := hJ1.bg.below hb' hgB2; obtain ⟨_, _, _, _, _, _, e6⟩ := hB3.cell7; have ef := hB3.frozen 6)
        | (go_simp; go_at_call 34; refine (drawTallies gc _ hJ0.c).mono ?_; rintro e w' ⟨vE2, l2, rfl, hSl, _, hl2, hok2', hC', hg'⟩; have hok2 := keep hok2'; clear hok2'; obtain ⟨AE2, cE2, rfl, _, hsrc⟩ := hSl.form; have hJ1 := hJ0.grown hg' hC' O; have hK1 := grownBy_trans hK0 hg'; obtain ⟨_, _, _, _, _, _, d6⟩ := hJ1.bg.cell7; have hO := hJ1.e; have h63 : le.length + l2.length ≤ maxLen := (by unfold maxLen; omega); have hby : (le.length + l2.length) * 32 ≤ 140737488355328 := (by omega); have hbs := hJ1.z))
      all_goals
        go_wp2_with fail
        go_meet
        have hll : (le ++ l2).length = le.length + l2.length := List.length_append
        exact ⟨_, _, _, _, _, (hJ1.putE O hb' (le' := le ++ l2) (by rw [hll, List.flatMap_append]; exact hown')).fin O, rfl, Nat.le_succ _, rfl, ExpsOk.add le hl2 hok2.out, HSET.out _ _ _ (grownBy_below hK1 (hb'.mono hwB2))⟩
    have t3 : (r == 3) = false := by simpa using e3
    by_cases e4 : r = 4
    · subst e4
      clear r0 r2
      have hJ0 := hR4.drew_ O
      have hK0 : w.grownBy w4.drew (some gc) := grownBy_drew hG4
      obtain ⟨_, _, _, _, c4, _, _⟩ := hJ0.bg.cell7
      have h63 : lm.length + 1 ≤ maxLen := by unfold maxLen; omega
      have hby : (lm.length + 1) * 24 ≤ 140737488355328 := by omega
      clear hR4 hG4
      go_upto_region 28 with fail
      go_region_law (first
        | (refine step_appendS elMarks rfl _ _ rfl B1 _ lm.length _ rfl hO _ _ 1 _ rfl hsrc hone h63 hby hbs ?_; intro v' w3 hown' hb' hgr'; obtain ⟨g', cap', rfl⟩ := ownsRow_succ hown'; have hB3 := (hJ3.bg.alloc (.cells #[.int .i64 xa, .int .i64 xb, .int .i64 xc] 72)).below hb' hgB1; obtain ⟨_, _, _, _, e4', _, _⟩ := hB3.cell7; have ef4 := hB3.frozen 4)
        | (go_simp; go_at_call 35; refine (drawInt gc _ hJ2.c).mono ?_; rintro e u3 ⟨xc, rfl, xc0, xc1, hC3, hg3⟩; have hJ3 := hJ2.grown hg3 hC3 O; have hK3 := grownBy_trans hK2 hg3; obtain ⟨_, _, _, _, d3, _, _⟩ := hJ3.bg.cell7; have hlg' := hJ3.bg.lt; have hnn : ¬ g = u3.heap.size := (by omega); have hO := hJ3.m_.alloc (.cells #[.int .i64 xa, .int .i64 xb, .int .i64 xc] 72); have hsrc := sl_one u3 #[.int .i64 xa, .int .i64 xb, .int .i64 xc] 72 3 rfl; have hbs : B1 ≤ (u3.alloc (.cells #[.int .i64 xa, .int .i64 xb, .int .i64 xc] 72)).heap.size := (by have := hJ3.z; have := O.e; simp; omega); have hone : ∀ u ∈ (#[Value.int .i64 xa, .int .i64 xb, .int .i64 xc] : Array Value).toList, u.oneCell' = true := (by intro u hu; simp at hu; rcases hu with rfl | rfl | rfl <;> rfl))
        | (go_simp; go_at_call 31; refine (drawNext gc _ _ hJ1.c (by omega) (by omega)).mono ?_; rintro e u2 ⟨xb, rfl, xb0, xb1, _, hC2, hg2⟩; clear xb1; have hJ2 := hJ1.grown hg2 hC2 O; have hK2 := grownBy_trans hK1 hg2; obtain ⟨_, _, _, _, d2, _, _⟩ := hJ2.bg.cell7)
        | (go_simp; go_at_call 31; refine (drawNext gc _ _ hJ0.c (by omega) (by omega)).mono ?_; rintro e u1 ⟨xa, rfl, xa0, xa1, _, hC1, hg1⟩; clear xa1; have hJ1 := hJ0.grown hg1 hC1 O; have hK1 := grownBy_trans hK0 hg1; obtain ⟨_, _, _, _, d1, _, _⟩ := hJ1.bg.cell7))
      all_goals
        go_wp2_with fail
        go_meet
        have hll : (lm ++ [(⟨xa, xb, xc⟩ : Mk)]).length = lm.length + 1 := by simp
        have hfl : (lm ++ [(⟨xa, xb, xc⟩ : Mk)]).flatMap Mk.vals = lm.flatMap Mk.vals ++ [.int .i64 xa, .int .i64 xb, .int .i64 xc] := by simp [Mk.vals]
        exact ⟨_, _, _, _, _, (hJ3.alloc_ _ O).putM O hb' hgr' (lm' := lm ++ [⟨xa, xb, xc⟩]) (by rw [hll, hfl]; exact hown'), rfl, by show (lm ++ [(⟨xa, xb, xc⟩ : Mk)]).length ≤ _; rw [hll]; omega, rfl, ExpsOk.refl _, HSET.out _ _ _ (grownBy_below (grownBy_trans hK3 (World.grownBy_alloc _ _ _)) (hb'.mono hwB1))⟩
    have t4 : (r == 4) = false := by simpa using e4
    clear e0 e1 e2 e3 e4
    obtain ⟨a0, a1, a2, a3, a4, a5, a6⟩ := hR4.bg.cell7
    by_cases hpos : 0 < ls.length
    · have hd : decide ((0 : Int) < (ls.length : Int)) = true := by simpa using hpos
      obtain ⟨gS, rfl⟩ : ∃ gS, A1 = some ⟨gS, 0, none⟩ := by
        rcases hR4.s.2 with ⟨hv, hn⟩ | ⟨gS, cap, cur, hv, _⟩
        · omega
        · injection hv with hv1; exact ⟨gS, hv1⟩
      go_upto_region 7 with fail
      go_cut [6] (fun s6 wd => ∃ k o : Nat, k < ls.length ∧ s6 = .pointer (some ⟨gS, o, none⟩) ∧ Hid (o = k * 7) ∧ Wr wd g p gc B0 B1 B2 nu nx jo ls lm lt' le (.slice (some ⟨gS, 0, none⟩) ls.length k1) (.slice A2 lm.length k2) (.slice AT lt'.length cT) (.slice A3 le.length k3) ∧ w.grownBy wd (some gc))
      case first =>
        have hJ0 := hR4.drew_ O
        have hK0 : w.grownBy w4.drew (some gc) := grownBy_drew hG4
        obtain ⟨_, _, _, c3, _, _, _⟩ := hJ0.bg.cell7
        go_region_law (first
          | (go_simp; go_at_call 31; refine (drawNext gc _ _ hJ0.c (by omega) (by omega)).mono ?_; rintro e w' ⟨x, rfl, x0, x1, _, hC', hg'⟩; have x2 := x1 (by omega); obtain ⟨k, rfl⟩ := Int.eq_ofNat_of_zero_le x0; clear x1; have hk : k < ls.length := (by omega); have hJ1 := hJ0.grown hg' hC' O; have hK1 := grownBy_trans hK0 hg'; obtain ⟨_, _, _, d3, _, _, _⟩ := hJ1.bg.cell7))
        all_goals
          go_wp2_with fail
          go_meet
          exact ⟨k, _, hk, rfl, keep (by omega), hJ1, hK1⟩
      case rest =>
        obtain ⟨k, o, hk, rfl, HO, hR5, hG5⟩ := hcut
        obtain ⟨w5, rfl⟩ : ∃ w5 : World, w5 = wc := ⟨_, rfl⟩
        clear hR4 hG4 a0 a1 a2 a3 a4 a5 a6
        go_wp2_with fail
        refine (drawNext gc _ _ hR5.c (by omega) (by omega)).mono ?_
        rintro e w6 ⟨q, rfl, q0, q1, _, hC6, hg6⟩
        have q2 := q1 (by omega)
        have hR6 := hR5.grown hg6 hC6 O
        have hG6 := grownBy_trans hG5 hg6
        clear q1 hR5 hG5 hg6 hC6
        have hsetS : ∀ (wx : World) (i : Nat) (u : Value), gS ≥ g → w.grownBy wx (some gc) → w.grownBy (wx.setCell ⟨gS, i, none⟩ u) (some gc) := fun wx i u hx hy => grownBy_below hy ((Below.refl _ _).setCell (p := ⟨gS, i, none⟩) (by show w.heap.size ≤ gS; omega) _)
        have hgS : gS ≥ g := by have := (hR6.s.lt gS rfl).1; have := O.b; have := O.c; omega
        have HSS := keep hsetS
        clear hsetS
        rcases (by omega : q = 0 ∨ q = 1 ∨ q = 2 ∨ q = 3 ∨ q = 4) with rfl | rfl | rfl | rfl | rfl
        · go_wp2_with fail
          refine (drawInt gc _ hR6.c).mono ?_
          rintro e w7 ⟨x, rfl, x0, x1, hC7, hg7⟩
          have hR7 := hR6.grown hg7 hC7 O
          have hG7 := grownBy_trans hG6 hg7
          obtain ⟨⟨u, hu⟩, hf, _, hlt⟩ := own_cell (j := 0) hR7.s hk (by omega)
          obtain ⟨ls', hll, hR8⟩ := hR7.putS O (k := k) (j := 0) x hk (by omega)
          rw [← HO.out] at hu hf hR8
          simp only [Nat.add_zero] at hu hf hR8
          go_wp2_with fail
          go_meet
          exact ⟨_, _, _, _, _, hR8.fin O, hll, Nat.le_succ _, rfl, ExpsOk.refl _, HSS.out _ _ _ hgS hG7⟩
        · go_wp2_with fail
          refine (drawInt gc _ hR6.c).mono ?_
          rintro e w7 ⟨x, rfl, x0, x1, hC7, hg7⟩
          have hR7 := hR6.grown hg7 hC7 O
          have hG7 := grownBy_trans hG6 hg7
          obtain ⟨⟨u, hu⟩, hf, _, hlt⟩ := own_cell (j := 2) hR7.s hk (by omega)
          obtain ⟨ls', hll, hR8⟩ := hR7.putS O (k := k) (j := 2) x hk (by omega)
          rw [← HO.out] at hu hf hR8
          skip
          go_wp2_with fail
          go_meet
          exact ⟨_, _, _, _, _, hR8.fin O, hll, Nat.le_succ _, rfl, ExpsOk.refl _, HSS.out _ _ _ hgS hG7⟩
        · go_wp2_with fail
          refine (drawInt gc _ hR6.c).mono ?_
          rintro e w7 ⟨x, rfl, x0, x1, hC7, hg7⟩
          have hR7 := hR6.grown hg7 hC7 O
          have hG7 := grownBy_trans hG6 hg7
          obtain ⟨⟨u, hu⟩, hf, _, hlt⟩ := own_cell (j := 4) hR7.s hk (by omega)
          obtain ⟨ls', hll, hR8⟩ := hR7.putS O (k := k) (j := 4) x hk (by omega)
          rw [← HO.out] at hu hf hR8
          skip
          go_wp2_with fail
          go_meet
          exact ⟨_, _, _, _, _, hR8.fin O, hll, Nat.le_succ _, rfl, ExpsOk.refl _, HSS.out _ _ _ hgS hG7⟩
        · go_wp2_with fail
          refine (drawInt gc _ hR6.c).mono ?_
          rintro e w7 ⟨x, rfl, x0, x1, hC7, hg7⟩
          have hR7 := hR6.grown hg7 hC7 O
          have hG7 := grownBy_trans hG6 hg7
          clear hR6 hG6 hC7 hg7
          go_wp2_with fail
          refine (drawInt gc _ hR7.c).mono ?_
          rintro e w8 ⟨y, rfl, y0, y1, hC8, hg8⟩
          have hR8 := hR7.grown hg8 hC8 O
          have hG8 := grownBy_trans hG7 hg8
          obtain ⟨⟨u, hu⟩, hf, _, hlt⟩ := own_cell (j := 3) hR8.s hk (by omega)
          obtain ⟨⟨u6, hu6⟩, hf6, _, _⟩ := own_cell (j := 6) hR8.s hk (by omega)
          obtain ⟨ls', hll, hR9⟩ := hR8.putS O (k := k) (j := 3) x hk (by omega)
          have hR9' : Wr (w8.setCell ⟨gS, k * 7 + 3, none⟩ (.int .i64 x)) g p gc B0 B1 B2 nu nx jo ls' lm lt' le (.slice (some ⟨gS, 0, none⟩) ls'.length k1) (.slice A2 lm.length k2) (.slice AT lt'.length cT) (.slice A3 le.length k3) := by rw [hll]; exact hR9
          obtain ⟨ls2, hll2, hRx⟩ := hR9'.putS O (k := k) (j := 6) y (by omega) (by omega)
          rw [← HO.out] at hu hf hu6 hf6 hRx
          rw [hll] at hRx
          go_wp2_with fail
          go_meet
          exact ⟨_, _, _, _, _, hRx.fin O, hll2.trans hll, Nat.le_succ _, rfl, ExpsOk.refl _, HSS.out _ _ _ hgS (HSS.out _ _ _ hgS hG8)⟩
        · go_wp2_with fail
          refine (drawInt gc _ hR6.c).mono ?_
          rintro e w7 ⟨x, rfl, x0, x1, hC7, hg7⟩
          have hR7 := hR6.grown hg7 hC7 O
          have hG7 := grownBy_trans hG6 hg7
          obtain ⟨⟨u, hu⟩, hf, _, hlt⟩ := own_cell (j := 1) hR7.s hk (by omega)
          obtain ⟨ls', hll, hR8⟩ := hR7.putS O (k := k) (j := 1) x hk (by omega)
          rw [← HO.out] at hu hf hR8
          skip
          go_wp2_with fail
          go_meet
          exact ⟨_, _, _, _, _, hR8.fin O, hll, Nat.le_succ _, rfl, ExpsOk.refl _, HSS.out _ _ _ hgS hG7⟩
    · have hd : decide ((0 : Int) < (ls.length : Int)) = false := by simpa using hpos
      go_wp2_with fail
      go_meet
      exact ⟨_, _, _, _, _, hR4.fin O, rfl, Nat.le_succ _, rfl, ExpsOk.refl _, hG4⟩
  case rest =>
    obtain ⟨m', vS, vM, vT, vE, hF, f1, f2, f3, f4, hGd⟩ := hcut
    obtain ⟨wd, rfl⟩ : ∃ wd : World, wd = wc := ⟨_, rfl⟩
    have HFF := keep (And.intro f1 (And.intro f2 (And.intro f3 f4)))
    clear f1 f2 f3 f4
    obtain ⟨AS2, cS2, rfl, _, _⟩ := hF.l.s.form
    obtain ⟨AM2, cM2, rfl, _, _⟩ := hF.l.m_.form
    obtain ⟨AT2, cT2, rfl, _, _⟩ := hF.l.t.form
    obtain ⟨AE2, cE2, rfl, _, _⟩ := hF.l.e.form
    obtain ⟨b0, b1, b2, b3, b4, b5, b6⟩ := hF.bg.cell7
    obtain ⟨p0, p1, p2, p3, p4, p5, p6⟩ := hF.bp.cell7
    have pf0 := hF.bp.frozen 0
    have pf1 := hF.bp.frozen 1
    have pf2 := hF.bp.frozen 2
    have pf3 := hF.bp.frozen 3
    have pf4 := hF.bp.frozen 4
    have pf5 := hF.bp.frozen 5
    have pf6 := hF.bp.frozen 6
    have hlg5 := hF.bg.lt
    have hlp5 := hF.bp.lt
    have hne : ¬ g = p := by omega
    have hne2 : ¬ p = g := by omega
    clear hR4 hG4
    go_wp2_with fail
    obtain ⟨wz, hwz⟩ : ∃ wz, wz = ((((((wd.setCell ⟨p, 0, none⟩ (.int .i64 m'.nu)).setCell ⟨p, 1, none⟩ (.int .i64 m'.nx)).setCell ⟨p, 2, none⟩ (.int .i64 m'.jo)).setCell ⟨p, 3, none⟩ (.slice AS2 m'.segs.length cS2)).setCell ⟨p, 4, none⟩ (.slice AM2 m'.marks.length cM2)).setCell ⟨p, 5, none⟩ (.slice AT2 m'.tals.length cT2)).setCell ⟨p, 6, none⟩ (.slice AE2 m'.exps.length cE2) := ⟨_, rfl⟩
    rw [← hwz]
    have hsC : wd.grownBy wz (some p) := by rw [hwz]; exact grownBy_set (grownBy_set (grownBy_set (grownBy_set (grownBy_set (grownBy_set (grownBy_set (World.grownBy.refl _ _) 0 _) 1 _) 2 _) 3 _) 4 _) 5 _) 6 _
    have hPc : Blk wz p 28 (manCells m' (.slice AS2 m'.segs.length cS2) (.slice AM2 m'.marks.length cM2) (.slice AT2 m'.tals.length cT2) (.slice AE2 m'.exps.length cE2)) := by rw [hwz]; exact ((((((hF.bp.set_ 0 _).set_ 1 _).set_ 2 _).set_ 3 _).set_ 4 _).set_ 5 _).set_ 6 _
    have hpw : w.heap.size ≤ p := by omega
    have hbc : Below w.heap.size wd wz := by
      rw [hwz]
      exact (((((((Below.refl _ _).setCell (p := ⟨p, 0, none⟩) hpw _).setCell (p := ⟨p, 1, none⟩) hpw _).setCell (p := ⟨p, 2, none⟩) hpw _).setCell (p := ⟨p, 3, none⟩) hpw _).setCell (p := ⟨p, 4, none⟩) hpw _).setCell (p := ⟨p, 5, none⟩) hpw _).setCell (p := ⟨p, 6, none⟩) hpw _
    obtain ⟨y0, y1, y2, y3, y4, y5, y6⟩ := hPc.cell7
    refine bodyPost_ret (v := .agg (manCells m' (.slice AS2 m'.segs.length cS2) (.slice AM2 m'.marks.length cM2) (.slice AT2 m'.tals.length cT2) (.slice AE2 m'.exps.length cE2))) (by simp [results, Try.results14, go_sem, y0, y1, y2, y3, y4, y5, y6]) rfl ?_
    refine ⟨m', _, _, _, _, rfl, ⟨?_, ?_, ?_, ?_⟩, HFF.out.1, HFF.out.2.1, HFF.out.2.2.1, HFF.out.2.2.2, hF.c.grown hsC hgcp, grownBy_below hGd hbc⟩
    · exact (hF.l.s.grown hsC (fun b hb => ⟨hb.1, fun e => by injection e with e; exact hb.2.2 e⟩)).mono (fun b hb => ⟨Nat.lt_of_lt_of_le hb.1 hsC.size, hb.2.1⟩)
    · exact (hF.l.m_.grown hsC (fun b hb => ⟨hb.1, fun e => by injection e with e; exact hb.2.2 e⟩)).mono (fun b hb => ⟨Nat.lt_of_lt_of_le hb.1 hsC.size, hb.2.1⟩)
    · exact (hF.l.t.grown hsC (fun b hb => ⟨hb.1, fun e => by injection e with e; exact hb.2.2 e⟩)).mono (fun b hb => ⟨Nat.lt_of_lt_of_le hb.1 hsC.size, hb.2.1⟩)
    · exact (hF.l.e.grown hsC (fun b hb => ⟨hb.1, fun e => by injection e with e; exact hb.2.2 e⟩)).mono (fun b hb => ⟨Nat.lt_of_lt_of_le hb.1 hsC.size, hb.2.1⟩)
end Go.Proofs.Ytkjhnipjhefndaa
