/- The reference's link. -/
import Derived.Test.YtgegmefnbkcdkaaRfE
import Derived.Sort.Walk0
namespace Go.Proofs.Ytgegmefnbkcdkaa
open Go.RowKit
theorem nms_setAt (X : List Nm) (i : Nat) (h : i < X.length) (a : Nm) : (nms X).take (i * 2) ++ nmV a ++ (nms X).drop (i * 2 + (nmV a).length) = nms (X.set i a) := by
  have e2 : X.set i a = X.take i ++ a :: X.drop (i + 1) := by rw [List.set_eq_take_append_cons_drop, if_pos h]
  have e3 : i * 2 + (nmV a).length = (i + 1) * 2 := by rw [nmV_len]; omega
  rw [e2, e3, show nms X = X.flatMap nmV from rfl, rows_take nmV_len X i (by omega), rows_drop nmV_len X (i + 1) (by omega)]
  simp [nms]
theorem own_nmSet {w : World} {B n g : Nat} {v : Value} {X : List Nm} (h : w.ownsRow B 77 2 v n (nms X)) (hg : v.ownBlock = some g) (hn : n = X.length) (i : Nat) (hi : i < X.length) (a : Nm) :
    (w.setCells g (i * 2) (nmV a)).ownsRow B 77 2 v n (nms (X.set i a)) := by
  have := own_stores (nmV a) (i * 2) h hg (by rw [nmV_len]; omega)
  rwa [nms_setAt X i hi a] at this
/-- A name put at a place: all behind it are greater. -/
def InsN (M : List Nm) (s : ByteArray) (p : Nat) : Prop := p ≤ M.length ∧ (∀ j, p ≤ j → (h : j < M.length) → lb s < lb M[j].nm) ∧ (0 < p → (h : p - 1 < M.length) → ¬ lb s < lb M[p - 1].nm)
def putNm (M : List Nm) (t : Nm) (p : Nat) : List Nm := M.take p ++ t :: M.drop p
def RefLnk (fs : FS) (s : ByteArray) (ino : Int) (vF vO : Value) (w : World) (x : Ending) (w' : World) : Prop :=
  ∃ (p : Nat) (vN' : Value), InsN (rmName fs.N s) s p ∧ x = .returned (.agg #[vN', vF, vO]) ∧ w'.ownsRow w.heap.size 77 2 vN' (putNm (rmName fs.N s) ⟨s, ino⟩ p).length (nms (putNm (rmName fs.N s) ⟨s, ino⟩ p)) ∧ Below w.heap.size w w'
def ShN (F R : List Nm) (k : Nat) : Prop := R.length = F.length + 1 ∧ R.take k = F.take k ∧ R.drop (k + 1) = F.drop k
theorem ShN.start (F : List Nm) (t : Nm) : ShN F (F ++ [t]) F.length := ⟨by simp, by simp, by simp⟩
theorem ShN.at_ {F R : List Nm} {k : Nat} (h : ShN F R (k + 1)) (hk : k < F.length) : R[k]'(by have := h.1; omega) = F[k] := by
  have h1 := congrArg (fun l : List Nm => l[k]?) h.2.1
  simp only [List.getElem?_take, show k < k + 1 by omega, if_true] at h1
  rw [List.getElem?_eq_getElem (by have := h.1; omega), List.getElem?_eq_getElem hk] at h1
  exact Option.some.inj h1
theorem ShN.step {F R : List Nm} {k : Nat} (h : ShN F R (k + 1)) (hk : k < F.length) : ShN F (R.set (k + 1) F[k]) k := by
  obtain ⟨h1, h2, h3⟩ := h
  refine ⟨by simpa using h1, ?_, ?_⟩
  · rw [List.take_set_of_le (by omega)]
    have := congrArg (List.take k) h2
    rwa [List.take_take, List.take_take, Nat.min_eq_left (by omega)] at this
  · rw [List.drop_eq_getElem_cons (by simp; omega), List.getElem_set_self, List.drop_set_of_lt (by omega), h3, List.drop_eq_getElem_cons hk]
theorem ShN.put {F R : List Nm} {k : Nat} (h : ShN F R k) (hk : k ≤ F.length) (t : Nm) : R.set k t = putNm F t k := by
  obtain ⟨h1, h2, h3⟩ := h
  unfold putNm
  rw [List.set_eq_take_append_cons_drop, if_pos (by omega), h2, h3]
set_option maxHeartbeats 8000000 in
set_option maxRecDepth 100000 in
theorem refLink_any (vN vF vO : Value) (fs : FS) (s : ByteArray) (ino : Int) (w : World) (h : FsT w vN vF vO fs) (hmN : fs.N.length ≤ 1000000) :
    Calls Try.prog 35 #[.agg #[vN, vF, vO], .string s, .int .i64 ino] w (RefLnk fs s ino vF vO w) := by
  obtain ⟨A1, c1, rfl, _, _⟩ := h.n.form
  obtain ⟨A2, c2, rfl, _, _⟩ := h.f.form
  obtain ⟨A3, c3, rfl, _, _⟩ := h.o.form
  obtain ⟨W, hW⟩ : ∃ W, W = ((w.alloc (.cells #[.slice A1 fs.N.length c1, .slice A2 fs.F.length c2, .slice A3 fs.O.length c3] 40)).alloc (.cells #[.slice none 0 0, .slice none 0 0, .slice none 0 0] 40)) := ⟨_, rfl⟩
  have hb : Below w.heap.size w W := hW ▸ ((Below.refl _ w).alloc (Nat.le_refl _) _).alloc (by simp) _
  have hF : Blk W w.heap.size 40 #[.slice A1 fs.N.length c1, .slice A2 fs.F.length c2, .slice A3 fs.O.length c3] := hW ▸ ((Blk.new w _ _).alloc _)
  have hZ : Blk W (w.heap.size + 1) 40 #[.slice none 0 0, .slice none 0 0, .slice none 0 0] := hW ▸ Blk.new_at (by simp)
  have HO := keep (h.up hb)
  have HB := keep hb
  have HF := keep hF
  have HZ := keep hZ
  have hWS : W.heap.size = w.heap.size + 1 + 1 := by rw [hW]; simp
  have HWS := keep hWS
  have HUN := keep (refUnlink_any _ _ _ fs s W HO.out hmN)
  obtain ⟨f0, f1, f2⟩ := hF.cell3
  clear h hb hF hZ hWS
  go_enter Try.func35, Try.ntmps35
  go_upto_region 1 with fail
  rw [← hW]
  clear hW
  go_wp2_with fail
  refine HUN.out.mono ?_
  rintro e w1 ⟨vN1, rfl, hO1, hb1⟩
  obtain ⟨M, hM⟩ : ∃ M, rmName fs.N s = M := ⟨_, rfl⟩
  have hMl : M.length ≤ 1000000 := by rw [← hM]; exact Nat.le_trans (List.length_filter_le ..) hmN
  have HM := keep hM
  rw [hM] at hO1
  obtain ⟨AN, cN, rfl, _⟩ := own_sl hO1
  have hF1 := HF.out.below hb1 HF.out.lt
  have hgr1 := grown_three w1 w.heap.size (.slice AN M.length cN) (.slice A2 fs.F.length c2) (.slice A3 fs.O.length c3)
  have hS1 : w1.ownsRow w.heap.size 77 2 (.slice AN M.length cN) M.length (nms M) := own_mono hO1 (by have := HWS.out; omega)
  have HS1 := keep (hS1.kept hgr1 (.inr (own_off hS1 hF1 (by decide))))
  have HF1 := keep (hF1.three (.slice AN M.length cN) (.slice A2 fs.F.length c2) (.slice A3 fs.O.length c3))
  have HZ1 := keep ((HZ.out.below hb1 HZ.out.lt).grown hgr1 (fun e => by injection e; omega))
  have HB1 := keep (below_three (bchain HB.out hb1) (Nat.le_refl _) (.slice AN M.length cN) (.slice A2 fs.F.length c2) (.slice A3 fs.O.length c3))
  have HL1 : Hid (∀ g, W.heap.size ≤ g → g < w1.heap.size → True) := keep (fun _ _ _ => trivial)
  have HN1x : Hid (∀ g, g < W.heap.size → some g ≠ (Value.slice AN M.length cN).ownBlock) := keep (fun g hg e => by
    obtain ⟨_, _, _, h2, _⟩ := own_at hO1 e.symm
    omega)
  obtain ⟨t0, t1, t2⟩ := hF1.cell3
  obtain ⟨q0, q1, q2⟩ := hF1.froz3
  clear hO1 hb1 hF1 hgr1 hS1 hM HUN HL1 f0 f1 f2
  go_upto_region 2 with fail
  generalize ((w1.setCell ⟨w.heap.size, 0, none⟩ (.slice AN M.length cN)).setCell ⟨w.heap.size, 1, none⟩ (.slice A2 fs.F.length c2)).setCell ⟨w.heap.size, 2, none⟩ (.slice A3 fs.O.length c3) = Wu at *
  clear t0 t1 t2 q0 q1 q2
  obtain ⟨gX, hgX⟩ : ∃ gX, gX = Wu.heap.size := ⟨_, rfl⟩
  obtain ⟨Wt, hWt⟩ : ∃ Wt, Wt = Wu.alloc (.cells #[.string s, .int .i64 ino] 77) := ⟨_, rfl⟩
  have hal : Below Wu.heap.size Wu Wt := hWt ▸ (Below.refl _ Wu).alloc (Nat.le_refl _) _
  have HXt : Hid (Blk Wt gX 77 #[.string s, .int .i64 ino]) := keep (hWt ▸ hgX ▸ Blk.new Wu _ _)
  have HSt := keep (own_bel HS1.out hal)
  have HFt := keep (HF1.out.below hal HF1.out.lt)
  have HZt := keep (HZ1.out.below hal HZ1.out.lt)
  have HBt := keep (bchain HB1.out hal)
  have HNXt : Hid (some gX ≠ (Value.slice AN M.length cN).ownBlock) := keep (own_ltB HS1.out (by omega))
  have hgXl : w.heap.size + 1 < gX := by have := HZ1.out.lt; omega
  have HGXL := keep hgXl
  have HWT := keep hWt
  have HGX := keep hgX
  clear hal hWt hgX hgXl HS1 HF1 HZ1 HB1
  go_upto_region 3 with fail
  rw [← HWT.out, ← HGX.out]
  clear HWT HGX
  obtain ⟨f0, f1, f2⟩ := HFt.out.cell3
  obtain ⟨x0, x1⟩ := HXt.out.cell2
  have hown := HSt.out
  have hzt := HBt.out.size
  go_wp2_with (refine wpList_push elNm rfl rfl _ _ 21 rfl rfl rfl w.heap.size _ (.agg #[.string s, .int .i64 ino]) M.length _ rfl (fun _ => rfl) (fun _ => rfl) hown rfl (by intro c hc; simp [Value.cells] at hc; rcases hc with rfl | rfl <;> rfl) (by decide) (by unfold maxLen; omega) (by omega) (by omega) ?_; intro gF cap w9 hown9 hb9 hg9 hgF hgl; have hF9 := HFt.out.grown hg9 (HN1x.out _ (by have := HWS.out; omega)); obtain ⟨u0, u1, u2⟩ := hF9.cell3; have v1 := hF9.frozen 0)
  have hgn : some w.heap.size ≠ some gF ∧ some gX ≠ some gF ∧ some (w.heap.size + 1) ≠ some gF := by
    rcases hgF with hgF | hgF
    · exact ⟨hgF ▸ HN1x.out _ (by have := HWS.out; omega), hgF ▸ HNXt.out, hgF ▸ HN1x.out _ (by have := HWS.out; omega)⟩
    · have h1 := HXt.out.lt
      have h2 := HGXL.out
      exact ⟨fun e => by injection e; omega, fun e => by injection e; omega, fun e => by injection e; omega⟩
  have HGB : Hid (w.heap.size ≤ gF) := keep (by obtain ⟨_, _, _, h, _⟩ := own_at hown9 rfl; exact h)
  have HN0 := keep hgn.1
  have HN1 := keep hgn.2.1
  have HN2 := keep hgn.2.2
  obtain ⟨W2, hW2⟩ : ∃ W2, W2 = w9.setCell ⟨w.heap.size, 0, none⟩ (.slice (some ⟨gF, 0, none⟩) (M.length + 1) cap) := ⟨_, rfl⟩
  have hX9 := HXt.out.grown hg9 HNXt.out
  have hZ9 := HZt.out.grown hg9 (HN1x.out _ (by have := HWS.out; omega))
  have hS9 : w9.ownsRow w.heap.size 77 2 (.slice (some ⟨gF, 0, none⟩) (M.length + 1) cap) (M.length + 1) (nms (M ++ [⟨s, ino⟩])) := by
    rw [nms, List.flatMap_append]
    exact hown9
  have hg2 : w9.grownBy W2 (some w.heap.size) := hW2 ▸ grownBy_set (World.grownBy.refl w9 (some w.heap.size)) 0 _
  have HF2 : Hid (Blk W2 w.heap.size 40 #[.slice (some ⟨gF, 0, none⟩) (M.length + 1) cap, .slice A2 fs.F.length c2, .slice A3 fs.O.length c3]) := keep (hW2 ▸ hF9.set_ 0 _)
  have HX2 := keep (hX9.grown hg2 (fun e => by injection e; have := HGXL.out; omega))
  have HZ2 := keep (hZ9.grown hg2 (fun e => by injection e; omega))
  have HS2 := keep (hS9.kept hg2 (.inr (own_off hS9 hF9 (by decide))))
  have HB2 : Hid (Below w.heap.size w W2) := keep (by
    rw [hW2]
    exact (HBt.out.trans hb9).setCell (p := ⟨w.heap.size, 0, none⟩) (Nat.le_refl _) _)
  rw [← hW2]
  have hR0 := HS2.out
  have HR0 := keep hR0
  clear hW2 hX9 hZ9 hS9 hg2 hF9 hown9 hb9 hg9 hgF hgl hgn u0 u1 u2 v1 f0 f1 f2 x0 x1 hown hR0 hzt
  go_loopw [8] (fun i wr => ∃ (k : Nat) (R : List Nm), k ≤ M.length ∧ i = .int .i64 k ∧ Hid (ShN M R k) ∧ Hid (wr.ownsRow w.heap.size 77 2 (.slice (some ⟨gF, 0, none⟩) (M.length + 1) cap) (M.length + 1) (nms R)) ∧ Hid (W2.grownBy wr (some gF)) ∧ Hid (∀ j, k ≤ j → (h : j < M.length) → lb s < lb M[j].nm)) (fun i _ => (intOf i).toNat)
  case atStart => exact ⟨M.length, _, Nat.le_refl _, rfl, keep (ShN.start _ _), HR0, keep (World.grownBy.refl _ _), keep (fun j h1 h2 => by omega)⟩
  case round =>
    obtain ⟨k, R, hk, rfl, hS, hR, hG, hL⟩ := hrel
    obtain ⟨wo, rfl⟩ : ∃ wo : World, wo = wr := ⟨_, rfl⟩
    have i2 : (M.length : Int) ≤ 1000000 := by omega
    obtain ⟨s0, s1, s2⟩ := (HF2.out.grown hG.out HN0.out).cell3
    rcases Nat.eq_zero_or_pos k with rfl | hk0
    · clear s0 s1 s2
      obtain ⟨Wq, hWq⟩ : ∃ Wq, Wq = wo := ⟨_, rfl⟩
      have hGq : W2.grownBy Wq (some gF) := by rw [hWq]; exact hG.out
      have hRq : Wq.ownsRow w.heap.size 77 2 (.slice (some ⟨gF, 0, none⟩) (M.length + 1) cap) (M.length + 1) (nms R) := by rw [hWq]; exact hR.out
      have hRl : R.length = M.length + 1 := hS.out.1
      have hFq := HF2.out.grown hGq HN0.out
      have hXq := HX2.out.grown hGq HN1.out
      have hZq := HZ2.out.grown hGq HN2.out
      have u1 := (hFq.cell 0).trans rfl
      obtain ⟨x0, x1⟩ := hXq.cell2
      obtain ⟨k0, k1⟩ := own_nmCells hRq (k := 0) (by omega)
      have q0 : Wq.frozen? ⟨gF, 0 * 2, none⟩ = false := own_frozen hRq rfl _
      have q1 : Wq.frozen? ⟨gF, 0 * 2 + 1, none⟩ = false := own_frozen hRq rfl _
      simp only [Nat.zero_mul, Nat.zero_add] at k0 k1 q0 q1
      have hS5 := own_nmSet hRq rfl hRl.symm 0 (by omega) ⟨s, ino⟩
      rw [hS.out.put (by omega)] at hS5
      have hg5 := grown_stores gF (nmV ⟨s, ino⟩) (0 * 2) Wq
      have hZ5 := hZq.grown hg5 HN2.out
      have hgr := grown_three (Wq.setCells gF (0 * 2) (nmV ⟨s, ino⟩)) (w.heap.size + 1) (.slice (some ⟨gF, 0, none⟩) (M.length + 1) cap) (.slice A2 fs.F.length c2) (.slice A3 fs.O.length c3)
      have hFS5 : (Wq.setCells gF (0 * 2) (nmV ⟨s, ino⟩)).ownsRow w.heap.size 77 2 (.slice (some ⟨gF, 0, none⟩) (M.length + 1) cap) (putNm M ⟨s, ino⟩ 0).length (nms (putNm M ⟨s, ino⟩ 0)) := by rw [show (putNm M ⟨s, ino⟩ 0).length = M.length + 1 by unfold putNm; rw [List.length_append, List.length_cons, List.length_take, List.length_drop]; omega]; exact hS5
      have hX5 := hZ5.three (.slice (some ⟨gF, 0, none⟩) (M.length + 1) cap) (.slice A2 fs.F.length c2) (.slice A3 fs.O.length c3)
      have hFS6 := hFS5.kept hgr (.inr (own_off hFS5 hZ5 (by decide)))
      have hB5 : Below w.heap.size w (Wq.setCells gF (0 * 2) (nmV ⟨s, ino⟩)) := (HB2.out.grown hGq HB2.out.size (fun k hk => by injection hk with hk; have := HGB.out; omega)).grown hg5 (Nat.le_trans HB2.out.size hGq.size) (fun k hk => by injection hk with hk; have := HGB.out; omega)
      have hB6 := below_three hB5 (Nat.le_succ _) (.slice (some ⟨gF, 0, none⟩) (M.length + 1) cap) (.slice A2 fs.F.length c2) (.slice A3 fs.O.length c3)
      have HINS : Hid (InsN M s 0) := keep ⟨by omega, hL.out, fun h => absurd h (by omega)⟩
      have hF5 := hFq.grown hg5 HN0.out
      have HX5 := keep hX5
      have HFS6 := keep hFS6
      have HB6 := keep hB6
      have HF5 := keep hF5
      have HZ5 := keep hZ5
      rw [← hWq]
      clear hWq hGq hRq hFq hXq hZq hS5 hg5 hZ5 hgr hFS5 hX5 hFS6 hB5 hB6 hR hG hS hL hF5
      go_upto_region 9 with fail
      change Code.wp _ _ _ _ (Wq.setCells gF (0 * 2) (nmV ⟨s, ino⟩))
      clear u1 x0 x1 k0 k1 q0 q1
      generalize Wq.setCells gF (0 * 2) (nmV ⟨s, ino⟩) = Ws at *
      obtain ⟨u0, u1, u2⟩ := HF5.out.cell3
      obtain ⟨z0, z1, z2⟩ := HZ5.out.cell3
      obtain ⟨r0, r1, r2⟩ := HZ5.out.froz3
      go_wp2_with fail
      refine bodyPost_ret (results_cell_row rfl _ _ (w.heap.size + 1) _ _ _ _ rfl HX5.out Try.underlying40 rfl (by kernel_rfl)) rfl ?_
      exact ⟨_, _, HM.out ▸ HINS.out, rfl, HM.out ▸ HFS6.out, HB6.out⟩
    · obtain ⟨k', hk'⟩ : ∃ k', k = k' + 1 := ⟨k - 1, by omega⟩
      have hS' : ShN M R (k' + 1) := hk' ▸ hS.out
      have hkF : k' < M.length := by omega
      have hat := hS'.at_ (k := k') hkF
      obtain ⟨l0, l1⟩ := own_nmCells hR.out (k := k') (by have := hS.out.1; omega)
      rw [hat] at l0 l1
      obtain ⟨y, hy⟩ : ∃ y, M[k'].nm = y := ⟨_, rfl⟩
      rw [hy] at l0
      have i0 : (0 : Int) < (k : Int) := by omega
      have i3 : (0 : Int) ≤ (k' : Int) := by omega
      have i4 : (k' : Int) < (M.length : Int) + 1 := by omega
      have i5 : (k : Int) < (M.length : Int) + 1 := by omega
      have e1 : (k : Int) - 1 = (k' : Int) := by omega
      have hw1 : IntKind.i64.wrap (k' : Int) = (k' : Int) := IntWalk.i64_in _ (by omega)
      have d0 : decide ((0 : Int) < (k : Int)) = true := decide_eq_true i0
      have HY := keep hy
      have HAT := keep hat
      have HK' := keep hk'
      clear hat hy hk'
      by_cases hlt : lb s < lb y
      · have b1 : Op.bytesLess y.toList s.toList = false := by rw [Proofs.bytesLess_eq, Lib.toList_data, Lib.toList_data]; exact decide_eq_false (List.lt_asymm hlt)
        have b2 : (y.toList == s.toList) = false := beq_eq_false_iff_ne.2 (fun e => by rw [toList_inj e] at hlt; exact List.lt_irrefl _ hlt)
        obtain ⟨Wq, hWq⟩ : ∃ Wq, Wq = wo := ⟨_, rfl⟩
        have hRl : R.length = M.length + 1 := hS.out.1
        obtain ⟨k0, k1⟩ := own_nmCells hR.out (k := k) (by omega)
        obtain ⟨T, hT⟩ : ∃ T, M[k'] = T := ⟨_, rfl⟩
        have hset := own_nmSet hR.out rfl hRl.symm k (by omega) T
        have hSn : ShN M (R.set k M[k']) k' := by rw [HK'.out]; exact hS'.step hkF
        rw [hT] at hSn l1
        have hyT : T.nm = y := by rw [← hT]; exact HY.out
        obtain ⟨tnm, tino⟩ := T
        simp only at hyT l1
        subst hyT
        have q0 : wo.frozen? ⟨gF, k * 2, none⟩ = false := own_frozen hR.out rfl _
        have q1 : wo.frozen? ⟨gF, k * 2 + 1, none⟩ = false := own_frozen hR.out rfl _
        have HRN := keep hset
        have HGN := keep (grownBy_trans hG.out (grown_stores gF (nmV ⟨tnm, tino⟩) (k * 2) wo))
        have HSN := keep hSn
        have HLN : Hid (∀ j, k' ≤ j → (h : j < M.length) → lb s < lb M[j].nm) := keep (fun j h1 h2 => by
          by_cases e : j = k'
          · subst e
            rw [hT]
            exact hlt
          · exact hL.out j (by have := HK'.out; omega) h2)
        clear HAT HY hS' hWq Wq
        clear hset hSn hT hG hR hS hL hlt
        go_wp2_with fail
        go_region
        go_wp2_with fail
        go_roundw
        case rel => exact ⟨k', _, by have := HK'.out; omega, rfl, HSN, HRN, keep (grownBy_drewN HGN.out 1), HLN⟩
        case measure => have := HK'.out; simp [intOf]; omega
      · have hbb : (Op.bytesLess y.toList s.toList = false ∧ (y.toList == s.toList) = true) ∨ (Op.bytesLess y.toList s.toList = true ∧ (y.toList == s.toList) = false) := by
          rw [Proofs.bytesLess_eq, Lib.toList_data, Lib.toList_data]
          by_cases e : y = s
          · subst e
            exact .inl ⟨decide_eq_false (List.lt_irrefl _), by simp⟩
          · refine .inr ⟨decide_eq_true ?_, beq_eq_false_iff_ne.2 (fun e' => e (lb_inj e'))⟩
            rcases Decidable.em (lb y < lb s) with h | h
            · exact h
            · exact absurd (lb_inj (List.le_antisymm (List.not_lt.1 hlt) (List.not_lt.1 h))) e
        have HNL : Hid (0 < k → (h : k - 1 < M.length) → ¬ lb s < lb M[k - 1].nm) := keep (fun _ h => by
          have h1 := HY.out
          have h2 := HK'.out
          subst h2
          show ¬ lb s < lb M[k' + 1 - 1].nm
          simp only [Nat.add_sub_cancel]
          rw [h1]
          exact hlt)
        clear HAT hS' hlt
        rcases hbb with ⟨b1, b2⟩ | ⟨b1, b2⟩
        all_goals
          go_upto_region 5 with fail
          go_upto_if 36 with fail
          clear b1 b2 l0 l1 s0 s1 s2
          obtain ⟨Wq, hWq⟩ : ∃ Wq, Wq = wo := ⟨_, rfl⟩
          have hGq : W2.grownBy Wq (some gF) := by rw [hWq]; exact hG.out
          have hRq : Wq.ownsRow w.heap.size 77 2 (.slice (some ⟨gF, 0, none⟩) (M.length + 1) cap) (M.length + 1) (nms R) := by rw [hWq]; exact hR.out
          have hRl : R.length = M.length + 1 := hS.out.1
          have hFq := HF2.out.grown hGq HN0.out
          have hXq := HX2.out.grown hGq HN1.out
          have hZq := HZ2.out.grown hGq HN2.out
          have u1 := (hFq.cell 0).trans rfl
          obtain ⟨x0, x1⟩ := hXq.cell2
          obtain ⟨k0, k1⟩ := own_nmCells hRq (k := k) (by omega)
          have q0 : Wq.frozen? ⟨gF, k * 2, none⟩ = false := own_frozen hRq rfl _
          have q1 : Wq.frozen? ⟨gF, k * 2 + 1, none⟩ = false := own_frozen hRq rfl _
          have hS5 := own_nmSet hRq rfl hRl.symm k (by omega) ⟨s, ino⟩
          rw [hS.out.put (by omega)] at hS5
          have hg5 := grown_stores gF (nmV ⟨s, ino⟩) (k * 2) Wq
          have hZ5 := hZq.grown hg5 HN2.out
          have hgr := grown_three (Wq.setCells gF (k * 2) (nmV ⟨s, ino⟩)) (w.heap.size + 1) (.slice (some ⟨gF, 0, none⟩) (M.length + 1) cap) (.slice A2 fs.F.length c2) (.slice A3 fs.O.length c3)
          have hFS5 : (Wq.setCells gF (k * 2) (nmV ⟨s, ino⟩)).ownsRow w.heap.size 77 2 (.slice (some ⟨gF, 0, none⟩) (M.length + 1) cap) (putNm M ⟨s, ino⟩ k).length (nms (putNm M ⟨s, ino⟩ k)) := by rw [show (putNm M ⟨s, ino⟩ k).length = M.length + 1 by unfold putNm; rw [List.length_append, List.length_cons, List.length_take, List.length_drop]; omega]; exact hS5
          have hX5 := hZ5.three (.slice (some ⟨gF, 0, none⟩) (M.length + 1) cap) (.slice A2 fs.F.length c2) (.slice A3 fs.O.length c3)
          have hFS6 := hFS5.kept hgr (.inr (own_off hFS5 hZ5 (by decide)))
          have hB5 : Below w.heap.size w (Wq.setCells gF (k * 2) (nmV ⟨s, ino⟩)) := (HB2.out.grown hGq HB2.out.size (fun k hk => by injection hk with hk; have := HGB.out; omega)).grown hg5 (Nat.le_trans HB2.out.size hGq.size) (fun k hk => by injection hk with hk; have := HGB.out; omega)
          have hB6 := below_three hB5 (Nat.le_succ _) (.slice (some ⟨gF, 0, none⟩) (M.length + 1) cap) (.slice A2 fs.F.length c2) (.slice A3 fs.O.length c3)
          have HINS : Hid (InsN M s k) := keep ⟨by omega, hL.out, HNL.out⟩
          have hF5 := hFq.grown hg5 HN0.out
          have HX5 := keep hX5
          have HFS6 := keep hFS6
          have HB6 := keep hB6
          have HF5 := keep hF5
          have HZ5 := keep hZ5
          rw [← hWq]
          clear hWq hGq hRq hFq hXq hZq hS5 hg5 hZ5 hgr hFS5 hX5 hFS6 hB5 hB6 hR hG hS hL hF5
          go_upto_region 9 with fail
          change Code.wp _ _ _ _ (Wq.setCells gF (k * 2) (nmV ⟨s, ino⟩))
          clear u1 x0 x1 k0 k1 q0 q1
          generalize Wq.setCells gF (k * 2) (nmV ⟨s, ino⟩) = Ws at *
          obtain ⟨u0, u1, u2⟩ := HF5.out.cell3
          obtain ⟨z0, z1, z2⟩ := HZ5.out.cell3
          obtain ⟨r0, r1, r2⟩ := HZ5.out.froz3
          go_wp2_with fail
          refine bodyPost_ret (results_cell_row rfl _ _ (w.heap.size + 1) _ _ _ _ rfl HX5.out Try.underlying40 rfl (by kernel_rfl)) rfl ?_
          exact ⟨_, _, HM.out ▸ HINS.out, rfl, HM.out ▸ HFS6.out, HB6.out⟩
end Go.Proofs.Ytgegmefnbkcdkaa
