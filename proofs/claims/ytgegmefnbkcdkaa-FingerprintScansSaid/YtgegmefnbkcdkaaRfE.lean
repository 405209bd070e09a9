/- The reference's add. -/
import Derived.Test.YtgegmefnbkcdkaaRfD
namespace Go.Proofs.Ytgegmefnbkcdkaa
open Go.RowKit
/-- A file put at a place: all behind it have a greater inode. -/
def InsAt (F : List Fi) (t : Fi) (p : Nat) : Prop := p ≤ F.length ∧ (∀ j, p ≤ j → (h : j < F.length) → t.ino < F[j].ino) ∧ (0 < p → (h : p - 1 < F.length) → F[p - 1].ino ≤ t.ino)
def putAt (F : List Fi) (t : Fi) (p : Nat) : List Fi := F.take p ++ t :: F.drop p
def RefAdd (fs : FS) (t : Fi) (B : Nat) (vN vO : Value) (w : World) (x : Ending) (w' : World) : Prop :=
  ∃ (p : Nat) (vF' : Value), InsAt fs.F t p ∧ x = .returned (.agg #[vN, vF', vO]) ∧ FsO w' B vN vF' vO ⟨fs.N, putAt fs.F t p, fs.O⟩ ∧ Below B w w'
def Shf (F R : List Fi) (k : Nat) : Prop := R.length = F.length + 1 ∧ R.take k = F.take k ∧ R.drop (k + 1) = F.drop k
theorem Shf.start (F : List Fi) (t : Fi) : Shf F (F ++ [t]) F.length := ⟨by simp, by simp, by simp⟩
theorem Shf.at_ {F R : List Fi} {k : Nat} (h : Shf F R (k + 1)) (hk : k < F.length) : R[k]'(by have := h.1; omega) = F[k] := by
  have h1 := congrArg (fun l : List Fi => l[k]?) h.2.1
  simp only [List.getElem?_take, show k < k + 1 by omega, if_true] at h1
  rw [List.getElem?_eq_getElem (by have := h.1; omega), List.getElem?_eq_getElem hk] at h1
  exact Option.some.inj h1
theorem Shf.step {F R : List Fi} {k : Nat} (h : Shf F R (k + 1)) (hk : k < F.length) : Shf F (R.set (k + 1) F[k]) k := by
  obtain ⟨h1, h2, h3⟩ := h
  refine ⟨by simpa using h1, ?_, ?_⟩
  · rw [List.take_set_of_le (by omega)]
    have := congrArg (List.take k) h2
    rwa [List.take_take, List.take_take, Nat.min_eq_left (by omega)] at this
  · rw [List.drop_eq_getElem_cons (by simp; omega), List.getElem_set_self, List.drop_set_of_lt (by omega), h3, List.drop_eq_getElem_cons hk]
theorem Shf.put {F R : List Fi} {k : Nat} (h : Shf F R k) (hk : k ≤ F.length) (t : Fi) : R.set k t = putAt F t k := by
  obtain ⟨h1, h2, h3⟩ := h
  unfold putAt
  rw [List.set_eq_take_append_cons_drop, if_pos (by omega), h2, h3]
/-- A new block is none of an own row's. -/
theorem own_ltB {w : World} {B e size n g : Nat} {v : Value} {xs : List Value} (h : w.ownsRow B e size v n xs) (hg : w.heap.size ≤ g) : some g ≠ v.ownBlock := fun e => by
  obtain ⟨_, _, _, _, h2, _⟩ := own_at h e.symm
  have := (Array.getElem?_eq_some_iff.1 h2).1
  omega
set_option maxHeartbeats 3000000 in
set_option maxRecDepth 100000 in
theorem refAdd_any (vN vF vO : Value) (fs : FS) (t : Fi) (B : Nat) (w : World) (hB : B ≤ w.heap.size) (h : FsO w B vN vF vO fs) (ht : FiR w t) (hm : fs.F.length ≤ 1000000) :
    Calls Try.prog 36 #[.agg #[vN, vF, vO], .agg (fiV t).toArray] w (RefAdd fs t B vN vO w) := by
  obtain ⟨A1, c1, rfl, _⟩ := own_sl h.n
  obtain ⟨A2, c2, rfl, _⟩ := own_sl h.f
  obtain ⟨A3, c3, rfl, _⟩ := own_sl h.o
  obtain ⟨FA, FC, hfd⟩ := ht.form
  obtain ⟨ino, dv, data, cp, wh, left⟩ := t
  simp only at hfd
  subst hfd
  simp only [fiV]
  obtain ⟨W, hW⟩ : ∃ W, W = (((w.alloc (.cells #[.slice A1 fs.N.length c1, .slice A2 fs.F.length c2, .slice A3 fs.O.length c3] 40)).alloc (.cells #[.int .i64 ino, .slice FA data.length FC, .bool cp, .bool wh, .int .i64 left] 72)).alloc (.cells #[.slice none 0 0, .slice none 0 0, .slice none 0 0] 40)) := ⟨_, rfl⟩
  have hb : Below w.heap.size w W := hW ▸ (((Below.refl _ w).alloc (Nat.le_refl _) _).alloc (by simp) _).alloc (by simp; omega) _
  have hF : Blk W w.heap.size 40 #[.slice A1 fs.N.length c1, .slice A2 fs.F.length c2, .slice A3 fs.O.length c3] := hW ▸ (((Blk.new w _ _).alloc _).alloc _)
  have hX : Blk W (w.heap.size + 1) 72 #[.int .i64 ino, .slice FA data.length FC, .bool cp, .bool wh, .int .i64 left] := hW ▸ ((Blk.new_at (by simp)).alloc _)
  have hZ : Blk W (w.heap.size + 1 + 1) 40 #[.slice none 0 0, .slice none 0 0, .slice none 0 0] := hW ▸ Blk.new_at (by simp)
  have HO := keep (h.up hb)
  have HT := keep (ht.up hb)
  have HB := keep hb
  have HF := keep hF
  have HX := keep hX
  have HZ := keep hZ
  have hWS : W.heap.size = w.heap.size + 1 + 1 + 1 := by rw [hW]; simp
  have HWS := keep hWS
  obtain ⟨f0, f1, f2⟩ := hF.cell3
  obtain ⟨x0, x1, x2, x3, x4⟩ := hX.cell5
  have q1 := hF.frozen 1
  have hown := HO.out.f
  have HNE := keep (own_ltB h.f (g := w.heap.size) (by omega))
  have HNX := keep (own_ltB h.f (g := w.heap.size + 1) (by omega))
  have HNZ := keep (own_ltB h.f (g := w.heap.size + 1 + 1) (by omega))
  clear h ht hb hF hX hZ hWS
  go_enter Try.func36, Try.ntmps36
  go_upto_region 2 with fail
  rw [← hW]
  clear hW
  go_wp2_with (refine wpList_push elFi rfl rfl _ _ 12 rfl rfl rfl B _ (.agg #[.int .i64 ino, .slice FA data.length FC, .bool cp, .bool wh, .int .i64 left]) fs.F.length _ rfl (fun _ => rfl) (fun _ => rfl) hown rfl (by intro c hc; simp [Value.cells] at hc; rcases hc with rfl | rfl | rfl | rfl | rfl <;> rfl) (by decide) (by unfold maxLen; omega) (by omega) (by have := HWS.out; omega) ?_; intro gF cap w9 hown9 hb9 hg9 hgF hgl; have hF9 := HF.out.grown hg9 HNE.out; obtain ⟨u0, u1, u2⟩ := hF9.cell3; have v1 := hF9.frozen 1)
  have hgn : some w.heap.size ≠ some gF ∧ some (w.heap.size + 1) ≠ some gF ∧ some (w.heap.size + 1 + 1) ≠ some gF := by
    rcases hgF with hgF | hgF
    · exact ⟨hgF ▸ HNE.out, hgF ▸ HNX.out, hgF ▸ HNZ.out⟩
    · have := HWS.out
      exact ⟨fun e => by injection e; omega, fun e => by injection e; omega, fun e => by injection e; omega⟩
  have HGB : Hid (B ≤ gF) := keep (by obtain ⟨_, _, _, h, _⟩ := own_at hown9 rfl; exact h)
  have HN0 := keep hgn.1
  have HN1 := keep hgn.2.1
  have HN2 := keep hgn.2.2
  obtain ⟨W2, hW2⟩ : ∃ W2, W2 = w9.setCell ⟨w.heap.size, 1, none⟩ (.slice (some ⟨gF, 0, none⟩) (fs.F.length + 1) cap) := ⟨_, rfl⟩
  have hX9 := HX.out.grown hg9 HNX.out
  have hZ9 := HZ.out.grown hg9 HNZ.out
  have hS9 : FsO w9 B (.slice A1 fs.N.length c1) (.slice (some ⟨gF, 0, none⟩) (fs.F.length + 1) cap) (.slice A3 fs.O.length c3) ⟨fs.N, fs.F ++ [⟨ino, .slice FA data.length FC, data, cp, wh, left⟩], fs.O⟩ := by
    refine HO.out.putF hg9 (F' := fs.F ++ [⟨ino, .slice FA data.length FC, data, cp, wh, left⟩]) ?_ (fun t ht => ?_)
    · rw [List.length_append, fis, List.flatMap_append]
      exact hown9
    · rcases List.mem_append.1 ht with h | h
      · exact (HO.out.d t h).grown hg9 (own_noU8 HO.out.f (by decide))
      · rw [List.mem_singleton] at h
        subst h
        exact HT.out.grown hg9 (own_noU8 HO.out.f (by decide))
  have hg2 : w9.grownBy W2 (some w.heap.size) := hW2 ▸ grownBy_set (World.grownBy.refl w9 (some w.heap.size)) 1 _
  have HF2 : Hid (Blk W2 w.heap.size 40 #[.slice A1 fs.N.length c1, .slice (some ⟨gF, 0, none⟩) (fs.F.length + 1) cap, .slice A3 fs.O.length c3]) := keep (hW2 ▸ hF9.set_ 1 _)
  have HX2 := keep (hX9.grown hg2 (fun e => by injection e; omega))
  have HZ2 := keep (hZ9.grown hg2 (fun e => by injection e; omega))
  have HS2 : Hid (FsO W2 B (.slice A1 fs.N.length c1) (.slice (some ⟨gF, 0, none⟩) (fs.F.length + 1) cap) (.slice A3 fs.O.length c3) ⟨fs.N, fs.F ++ [⟨ino, .slice FA data.length FC, data, cp, wh, left⟩], fs.O⟩) := keep
    ⟨hS9.n.kept hg2 (.inr (own_off hS9.n hF9 (by decide))), hS9.f.kept hg2 (.inr (own_off hS9.f hF9 (by decide))), hS9.o.kept hg2 (.inr (own_off hS9.o hF9 (by decide))), fun t ht => (hS9.d t ht).grown hg2 (noU8 hF9 (by decide))⟩
  have HB2 : Hid (Below B w W2) := keep (by
    rw [hW2]
    exact ((HB.out.mono hB).trans hb9).setCell (p := ⟨w.heap.size, 1, none⟩) hB _)
  rw [← hW2]
  have hR0 : W2.ownsRow B 72 5 (.slice (some ⟨gF, 0, none⟩) (fs.F.length + 1) cap) (fs.F.length + 1) (fis (fs.F ++ [⟨ino, .slice FA data.length FC, data, cp, wh, left⟩])) := by
    have := HS2.out.f
    rw [List.length_append] at this
    exact this
  have HR0 := keep hR0
  clear hW2 hX9 hZ9 hS9 hg2 hF9 hown9 hb9 hg9 hgF hgl hgn u0 u1 u2 v1 f0 f1 f2 x0 x1 x2 x3 x4 q1 hown hR0
  go_loopw [5] (fun i wr => ∃ (k : Nat) (R : List Fi), k ≤ fs.F.length ∧ i = .int .i64 k ∧ Hid (Shf fs.F R k) ∧ Hid (wr.ownsRow B 72 5 (.slice (some ⟨gF, 0, none⟩) (fs.F.length + 1) cap) (fs.F.length + 1) (fis R)) ∧ Hid (W2.grownBy wr (some gF)) ∧ Hid (∀ j, k ≤ j → (h : j < fs.F.length) → ino < fs.F[j].ino)) (fun i _ => (intOf i).toNat)
  case atStart => exact ⟨fs.F.length, _, Nat.le_refl _, rfl, keep (Shf.start _ _), HR0, keep (World.grownBy.refl _ _), keep (fun j h1 h2 => by omega)⟩
  case round =>
    obtain ⟨k, R, hk, rfl, hS, hR, hG, hL⟩ := hrel
    obtain ⟨wo, rfl⟩ : ∃ wo : World, wo = wr := ⟨_, rfl⟩
    have i2 : (fs.F.length : Int) ≤ 1000000 := by omega
    obtain ⟨s0, s1, s2⟩ := (HF2.out.grown hG.out HN0.out).cell3
    obtain ⟨y0, y1, y2, y3, y4⟩ := (HX2.out.grown hG.out HN1.out).cell5
    rcases Nat.eq_zero_or_pos k with rfl | hk0
    · go_wp2_with fail
      go_quiet (fail)
      obtain ⟨Wq, hWq⟩ : ∃ Wq, Wq = wo.drewN nq := ⟨_, rfl⟩
      have hGq : W2.grownBy Wq (some gF) := by rw [hWq]; exact grownBy_drewN hG.out nq
      have hRq : Wq.ownsRow B 72 5 (.slice (some ⟨gF, 0, none⟩) (fs.F.length + 1) cap) (fs.F.length + 1) (fis R) := by rw [hWq]; exact own_bel hR.out (below_drewN (Below.refl _ _) nq)
      have hRl : R.length = fs.F.length + 1 := hS.out.1
      have hFq := HF2.out.grown hGq HN0.out
      have hXq := HX2.out.grown hGq HN1.out
      have hZq := HZ2.out.grown hGq HN2.out
      have u1 := (hFq.cell 1).trans rfl
      obtain ⟨x0, x1, x2, x3, x4⟩ := hXq.cell5
      obtain ⟨k0, k1, k2, k3, k4⟩ := own_fiCells hRq hRl (k := 0) (by omega)
      have g0 : Wq.frozen? ⟨gF, 0 * 5, none⟩ = false := own_frozen hRq rfl _
      have g1 : Wq.frozen? ⟨gF, 0 * 5 + 1, none⟩ = false := own_frozen hRq rfl _
      have g2 : Wq.frozen? ⟨gF, 0 * 5 + 2, none⟩ = false := own_frozen hRq rfl _
      have g3 : Wq.frozen? ⟨gF, 0 * 5 + 3, none⟩ = false := own_frozen hRq rfl _
      have g4 : Wq.frozen? ⟨gF, 0 * 5 + 4, none⟩ = false := own_frozen hRq rfl _
      simp only [Nat.zero_mul, Nat.zero_add] at k0 k1 k2 k3 k4 g0 g1 g2 g3 g4
      have hS5 := own_fi hRq rfl hRl.symm 0 (by omega) ⟨ino, .slice FA data.length FC, data, cp, wh, left⟩
      rw [hS.out.put (by omega)] at hS5
      have hg5 := grown_stores gF (fiV ⟨ino, .slice FA data.length FC, data, cp, wh, left⟩) (0 * 5) Wq
      have hZ5 := hZq.grown hg5 HN2.out
      have hgr := grown_three (Wq.setCells gF (0 * 5) (fiV ⟨ino, .slice FA data.length FC, data, cp, wh, left⟩)) (w.heap.size + 1 + 1) (.slice A1 fs.N.length c1) (.slice (some ⟨gF, 0, none⟩) (fs.F.length + 1) cap) (.slice A3 fs.O.length c3)
      have hFS5 : FsO (Wq.setCells gF (0 * 5) (fiV ⟨ino, .slice FA data.length FC, data, cp, wh, left⟩)) B (.slice A1 fs.N.length c1) (.slice (some ⟨gF, 0, none⟩) (fs.F.length + 1) cap) (.slice A3 fs.O.length c3) ⟨fs.N, putAt fs.F ⟨ino, .slice FA data.length FC, data, cp, wh, left⟩ 0, fs.O⟩ := by
        have h1 := HS2.out.putF (v' := .slice (some ⟨gF, 0, none⟩) (fs.F.length + 1) cap) (grownBy_trans hGq hg5) (F' := putAt fs.F ⟨ino, .slice FA data.length FC, data, cp, wh, left⟩ 0) (by rw [show (putAt fs.F ⟨ino, .slice FA data.length FC, data, cp, wh, left⟩ 0).length = fs.F.length + 1 by unfold putAt; rw [List.length_append, List.length_cons, List.length_take, List.length_drop]; omega]; exact hS5) (fun t ht => by
          refine ((HS2.out.d t ?_).grown (grownBy_trans hGq hg5) (own_noU8 HS2.out.f (by decide)))
          unfold putAt at ht
          rcases List.mem_append.1 ht with h | h
          · exact List.mem_append.2 (.inl (List.mem_of_mem_take h))
          · rcases List.mem_cons.1 h with rfl | h
            · simp
            · exact List.mem_append.2 (.inl (List.mem_of_mem_drop h)))
        exact h1
      have hX5 := hZ5.three (.slice A1 fs.N.length c1) (.slice (some ⟨gF, 0, none⟩) (fs.F.length + 1) cap) (.slice A3 fs.O.length c3)
      have hFS6 : FsO _ B (.slice A1 fs.N.length c1) (.slice (some ⟨gF, 0, none⟩) (fs.F.length + 1) cap) (.slice A3 fs.O.length c3) ⟨fs.N, putAt fs.F ⟨ino, .slice FA data.length FC, data, cp, wh, left⟩ 0, fs.O⟩ :=
        ⟨hFS5.n.kept hgr (.inr (own_off hFS5.n hZ5 (by decide))), hFS5.f.kept hgr (.inr (own_off hFS5.f hZ5 (by decide))), hFS5.o.kept hgr (.inr (own_off hFS5.o hZ5 (by decide))), fun t ht => (hFS5.d t ht).grown hgr (noU8 hZ5 (by decide))⟩
      have hB5 : Below B w (Wq.setCells gF (0 * 5) (fiV ⟨ino, .slice FA data.length FC, data, cp, wh, left⟩)) := (HB2.out.grown hGq (Nat.le_trans hB HB2.out.size) (fun k hk => by injection hk with hk; have := HGB.out; omega)).grown hg5 (Nat.le_trans (Nat.le_trans hB HB2.out.size) hGq.size) (fun k hk => by injection hk with hk; have := HGB.out; omega)
      have hB6 := below_three hB5 (show B ≤ w.heap.size + 1 + 1 by omega) (.slice A1 fs.N.length c1) (.slice (some ⟨gF, 0, none⟩) (fs.F.length + 1) cap) (.slice A3 fs.O.length c3)
      have HINS : Hid (InsAt fs.F ⟨ino, .slice FA data.length FC, data, cp, wh, left⟩ 0) := keep ⟨by omega, hL.out, fun h => absurd h (by omega)⟩
      have hF5 := hFq.grown hg5 HN0.out
      have HX5 := keep hX5
      have HFS6 := keep hFS6
      have HB6 := keep hB6
      have HF5 := keep hF5
      have HZ5 := keep hZ5
      rw [← hWq]
      clear hWq hGq hRq hFq hXq hZq hS5 hg5 hZ5 hgr hFS5 hX5 hFS6 hB5 hB6 hR hG hS hL hF5
      go_upto_region 7 with fail
      change Code.wp _ _ _ _ (Wq.setCells gF (0 * 5) (fiV ⟨ino, .slice FA data.length FC, data, cp, wh, left⟩))
      clear u1 x0 x1 x2 x3 x4 k0 k1 k2 k3 k4 g0 g1 g2 g3 g4
      generalize Wq.setCells gF (0 * 5) (fiV ⟨ino, .slice FA data.length FC, data, cp, wh, left⟩) = Ws at *
      obtain ⟨u0, u1, u2⟩ := HF5.out.cell3
      obtain ⟨z0, z1, z2⟩ := HZ5.out.cell3
      obtain ⟨r0, r1, r2⟩ := HZ5.out.froz3
      go_wp2_with fail
      refine bodyPost_ret (results_cell_row rfl _ _ (w.heap.size + 1 + 1) _ _ _ _ rfl HX5.out Try.underlying40 rfl (by kernel_rfl)) rfl ?_
      exact ⟨_, _, HINS.out, rfl, HFS6.out, HB6.out⟩
    · obtain ⟨k', hk'⟩ : ∃ k', k = k' + 1 := ⟨k - 1, by omega⟩
      have hS' : Shf fs.F R (k' + 1) := hk' ▸ hS.out
      have hkF : k' < fs.F.length := by omega
      have hat := hS'.at_ (k := k') hkF
      obtain ⟨l0, l1, l2, l3, l4⟩ := own_fiCells hR.out hS.out.1 (k := k') (by have := hS.out.1; omega)
      rw [hat] at l0 l1 l2 l3 l4
      obtain ⟨y, hy⟩ : ∃ y, fs.F[k'].ino = y := ⟨_, rfl⟩
      rw [hy] at l0
      have i0 : (0 : Int) < (k : Int) := by omega
      have i3 : (0 : Int) ≤ (k' : Int) := by omega
      have i4 : (k' : Int) < (fs.F.length : Int) + 1 := by omega
      have i5 : (k : Int) < (fs.F.length : Int) + 1 := by omega
      have e1 : (k : Int) - 1 = (k' : Int) := by omega
      have hw1 : IntKind.i64.wrap (k' : Int) = (k' : Int) := IntWalk.i64_in _ (by omega)
      have d0 : decide ((0 : Int) < (k : Int)) = true := decide_eq_true i0
      have HK' := keep hk'
      clear hk'
      have HY := keep hy
      have HAT := keep hat
      clear hat hy
      by_cases hlt : ino < y
      · have d1 : decide (ino < y) = true := decide_eq_true hlt
        go_wp2_with fail
        go_quiet (fail)
        go_wp2_with fail
        obtain ⟨Wq, hWq⟩ : ∃ Wq, Wq = wo.drewN nq := ⟨_, rfl⟩
        have hGq : W2.grownBy Wq (some gF) := by rw [hWq]; exact grownBy_drewN hG.out nq
        have hRq : Wq.ownsRow B 72 5 (.slice (some ⟨gF, 0, none⟩) (fs.F.length + 1) cap) (fs.F.length + 1) (fis R) := by rw [hWq]; exact own_bel hR.out (below_drewN (Below.refl _ _) nq)
        rw [← hWq]
        clear hWq
        have hRl : R.length = fs.F.length + 1 := hS.out.1
        obtain ⟨u0, u1, u2⟩ := (HF2.out.grown hGq HN0.out).cell3
        obtain ⟨k0, k1, k2, k3, k4⟩ := own_fiCells hRq hRl (k := k) (by omega)
        obtain ⟨l0, l1, l2, l3, l4⟩ := own_fiCells hRq hRl (k := k') (by have := HK'.out; omega)
        obtain ⟨DA, DC, hdv⟩ := (HS2.out.d fs.F[k'] (List.mem_append.2 (.inl (List.getElem_mem _)))).form
        obtain ⟨T, hT⟩ : ∃ T, fs.F[k'] = T := ⟨_, rfl⟩
        have hset := own_fi hRq rfl hRl.symm k (by omega) T
        have hSn : Shf fs.F (R.set k fs.F[k']) k' := by rw [HK'.out]; exact hS'.step (by have := HK'.out; omega)
        rw [HAT.out, hT] at l0 l1 l2 l3 l4
        rw [hT] at hSn hdv
        have hyT : T.ino = y := by rw [← hT]; exact HY.out
        obtain ⟨tino, tdv, tdata, tcp, twh, tleft⟩ := T
        simp only at hdv hyT l0 l1 l2 l3 l4
        subst hdv hyT
        have g0 : Wq.frozen? ⟨gF, k * 5, none⟩ = false := own_frozen hRq rfl _
        have g1 : Wq.frozen? ⟨gF, k * 5 + 1, none⟩ = false := own_frozen hRq rfl _
        have g2 : Wq.frozen? ⟨gF, k * 5 + 2, none⟩ = false := own_frozen hRq rfl _
        have g3 : Wq.frozen? ⟨gF, k * 5 + 3, none⟩ = false := own_frozen hRq rfl _
        have g4 : Wq.frozen? ⟨gF, k * 5 + 4, none⟩ = false := own_frozen hRq rfl _
        have HRN := keep hset
        have HGN := keep (grownBy_trans hGq (grown_stores gF (fiV ⟨tino, .slice DA tdata.length DC, tdata, tcp, twh, tleft⟩) (k * 5) Wq))
        have HSN := keep hSn
        have HLN : Hid (∀ j, k' ≤ j → (h : j < fs.F.length) → ino < fs.F[j].ino) := keep (fun j h1 h2 => by
          by_cases e : j = k'
          · subst e
            rw [hT]
            exact hlt
          · exact hL.out j (by have := HK'.out; omega) h2)
        clear HAT HY hS'
        clear hGq hRq hset hSn hT hG hR hS hL s0 s1 s2 y0 y1 y2 y3 y4
        go_region
        go_wp2_with fail
        go_roundw
        case rel => exact ⟨k', _, by have := HK'.out; omega, rfl, HSN, HRN, keep (grownBy_drewN HGN.out 1), HLN⟩
        case measure => have := HK'.out; simp [intOf]; omega
      · have d1 : decide (ino < y) = false := decide_eq_false hlt
        go_wp2_with fail
        go_quiet (fail)
        clear HAT hS' l0 l1 l2 l3 l4 s0 s1 s2 y0 y1 y2 y3 y4
        obtain ⟨Wq, hWq⟩ : ∃ Wq, Wq = wo.drewN nq := ⟨_, rfl⟩
        have hGq : W2.grownBy Wq (some gF) := by rw [hWq]; exact grownBy_drewN hG.out nq
        have hRq : Wq.ownsRow B 72 5 (.slice (some ⟨gF, 0, none⟩) (fs.F.length + 1) cap) (fs.F.length + 1) (fis R) := by rw [hWq]; exact own_bel hR.out (below_drewN (Below.refl _ _) nq)
        have hRl : R.length = fs.F.length + 1 := hS.out.1
        have hFq := HF2.out.grown hGq HN0.out
        have hXq := HX2.out.grown hGq HN1.out
        have hZq := HZ2.out.grown hGq HN2.out
        have u1 := (hFq.cell 1).trans rfl
        obtain ⟨x0, x1, x2, x3, x4⟩ := hXq.cell5
        obtain ⟨k0, k1, k2, k3, k4⟩ := own_fiCells hRq hRl (k := k) (by omega)
        have g0 : Wq.frozen? ⟨gF, k * 5, none⟩ = false := own_frozen hRq rfl _
        have g1 : Wq.frozen? ⟨gF, k * 5 + 1, none⟩ = false := own_frozen hRq rfl _
        have g2 : Wq.frozen? ⟨gF, k * 5 + 2, none⟩ = false := own_frozen hRq rfl _
        have g3 : Wq.frozen? ⟨gF, k * 5 + 3, none⟩ = false := own_frozen hRq rfl _
        have g4 : Wq.frozen? ⟨gF, k * 5 + 4, none⟩ = false := own_frozen hRq rfl _
        have hS5 := own_fi hRq rfl hRl.symm k (by omega) ⟨ino, .slice FA data.length FC, data, cp, wh, left⟩
        rw [hS.out.put (by omega)] at hS5
        have hg5 := grown_stores gF (fiV ⟨ino, .slice FA data.length FC, data, cp, wh, left⟩) (k * 5) Wq
        have hZ5 := hZq.grown hg5 HN2.out
        have hgr := grown_three (Wq.setCells gF (k * 5) (fiV ⟨ino, .slice FA data.length FC, data, cp, wh, left⟩)) (w.heap.size + 1 + 1) (.slice A1 fs.N.length c1) (.slice (some ⟨gF, 0, none⟩) (fs.F.length + 1) cap) (.slice A3 fs.O.length c3)
        have hFS5 : FsO (Wq.setCells gF (k * 5) (fiV ⟨ino, .slice FA data.length FC, data, cp, wh, left⟩)) B (.slice A1 fs.N.length c1) (.slice (some ⟨gF, 0, none⟩) (fs.F.length + 1) cap) (.slice A3 fs.O.length c3) ⟨fs.N, putAt fs.F ⟨ino, .slice FA data.length FC, data, cp, wh, left⟩ k, fs.O⟩ := by
          have h1 := HS2.out.putF (v' := .slice (some ⟨gF, 0, none⟩) (fs.F.length + 1) cap) (grownBy_trans hGq hg5) (F' := putAt fs.F ⟨ino, .slice FA data.length FC, data, cp, wh, left⟩ k) (by rw [show (putAt fs.F ⟨ino, .slice FA data.length FC, data, cp, wh, left⟩ k).length = fs.F.length + 1 by unfold putAt; rw [List.length_append, List.length_cons, List.length_take, List.length_drop]; omega]; exact hS5) (fun t ht => by
            refine ((HS2.out.d t ?_).grown (grownBy_trans hGq hg5) (own_noU8 HS2.out.f (by decide)))
            unfold putAt at ht
            rcases List.mem_append.1 ht with h | h
            · exact List.mem_append.2 (.inl (List.mem_of_mem_take h))
            · rcases List.mem_cons.1 h with rfl | h
              · simp
              · exact List.mem_append.2 (.inl (List.mem_of_mem_drop h)))
          exact h1
        have hX5 := hZ5.three (.slice A1 fs.N.length c1) (.slice (some ⟨gF, 0, none⟩) (fs.F.length + 1) cap) (.slice A3 fs.O.length c3)
        have hFS6 : FsO _ B (.slice A1 fs.N.length c1) (.slice (some ⟨gF, 0, none⟩) (fs.F.length + 1) cap) (.slice A3 fs.O.length c3) ⟨fs.N, putAt fs.F ⟨ino, .slice FA data.length FC, data, cp, wh, left⟩ k, fs.O⟩ :=
          ⟨hFS5.n.kept hgr (.inr (own_off hFS5.n hZ5 (by decide))), hFS5.f.kept hgr (.inr (own_off hFS5.f hZ5 (by decide))), hFS5.o.kept hgr (.inr (own_off hFS5.o hZ5 (by decide))), fun t ht => (hFS5.d t ht).grown hgr (noU8 hZ5 (by decide))⟩
        have hB5 : Below B w (Wq.setCells gF (k * 5) (fiV ⟨ino, .slice FA data.length FC, data, cp, wh, left⟩)) := (HB2.out.grown hGq (Nat.le_trans hB HB2.out.size) (fun k hk => by injection hk with hk; have := HGB.out; omega)).grown hg5 (Nat.le_trans (Nat.le_trans hB HB2.out.size) hGq.size) (fun k hk => by injection hk with hk; have := HGB.out; omega)
        have hB6 := below_three hB5 (show B ≤ w.heap.size + 1 + 1 by omega) (.slice A1 fs.N.length c1) (.slice (some ⟨gF, 0, none⟩) (fs.F.length + 1) cap) (.slice A3 fs.O.length c3)
        have HINS : Hid (InsAt fs.F ⟨ino, .slice FA data.length FC, data, cp, wh, left⟩ k) := keep ⟨by omega, hL.out, fun _ h => by have h1 := HY.out; have h2 := HK'.out; subst h2; show fs.F[k' + 1 - 1].ino ≤ ino; simp only [Nat.add_sub_cancel]; rw [h1]; omega⟩
        have hF5 := hFq.grown hg5 HN0.out
        have HX5 := keep hX5
        have HFS6 := keep hFS6
        have HB6 := keep hB6
        have HF5 := keep hF5
        have HZ5 := keep hZ5
        rw [← hWq]
        clear hWq hGq hRq hFq hXq hZq hS5 hg5 hZ5 hgr hFS5 hX5 hFS6 hB5 hB6 hR hG hS hL hF5
        go_upto_region 7 with fail
        change Code.wp _ _ _ _ (Wq.setCells gF (k * 5) (fiV ⟨ino, .slice FA data.length FC, data, cp, wh, left⟩))
        clear u1 x0 x1 x2 x3 x4 k0 k1 k2 k3 k4 g0 g1 g2 g3 g4
        generalize Wq.setCells gF (k * 5) (fiV ⟨ino, .slice FA data.length FC, data, cp, wh, left⟩) = Ws at *
        obtain ⟨u0, u1, u2⟩ := HF5.out.cell3
        obtain ⟨z0, z1, z2⟩ := HZ5.out.cell3
        obtain ⟨r0, r1, r2⟩ := HZ5.out.froz3
        go_wp2_with fail
        refine bodyPost_ret (results_cell_row rfl _ _ (w.heap.size + 1 + 1) _ _ _ _ rfl HX5.out Try.underlying40 rfl (by kernel_rfl)) rfl ?_
        exact ⟨_, _, HINS.out, rfl, HFS6.out, HB6.out⟩
end Go.Proofs.Ytgegmefnbkcdkaa
