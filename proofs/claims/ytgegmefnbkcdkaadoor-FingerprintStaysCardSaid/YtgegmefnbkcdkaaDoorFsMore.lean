/- The method copyMore. -/
import Derived.Test.YtgegmefnbkcdkaaDoorFsRename
namespace Go.Proofs.YtgegmefnbkcdkaaDoor
open Go.RowKit
/-- What copyMore does. -/
def MoreSt (fs : FS) (c : Ch) (e : Int) (fs' : FS) : Prop :=
  ((∀ t ∈ fs.N, t.nm ≠ c.name) ∧ e = 12 ∧ fs' = fs) ∨
  ∃ (i k : Nat) (hi : i < fs.N.length) (hk : k < fs.F.length), fs.N[i].nm = c.name ∧ fs.F[k].ino = fs.N[i].ino ∧
    (((fs.F[k].cp = false ∨ fs.F[k].wh = true) ∧ e = 17 ∧ fs' = fs) ∨ ((fs.F[k].cp = true ∧ fs.F[k].wh = false) ∧
      ((c.n < 1 ∧ e = 2 ∧ fs' = fs) ∨ (1 ≤ c.n ∧ e = 0 ∧ fs' = ⟨fs.N, fs.F.set k ⟨fs.F[k].ino, fs.F[k].dv, fs.F[k].data, true, fs.F[k].left - min c.n fs.F[k].left == 0, fs.F[k].left - min c.n fs.F[k].left⟩, fs.O⟩))))
set_option maxHeartbeats 4000000 in
set_option maxRecDepth 100000 in
theorem more_any (gd B : Nat) (fs : FS) (c : Ch) (w : World) (hB : B ≤ w.heap.size) (h : Dir w B gd fs) (hs : NSrt fs.N) (hf : FSrt fs.F) (hm : Small fs) (hall : ∀ n ∈ fs.N, ∃ t ∈ fs.F, t.ino = n.ino) (hlf : ∀ t ∈ fs.F, 0 ≤ t.left ∧ t.left ≤ 1000000) (hc : BR w c.dv c.data) (hcn : c.n ≤ 9223372036854775807) :
    Calls Tryd.prog 84 #[.pointer (some ⟨gd, 0, none⟩), .agg (chV c)] w fun x w' => ∃ e fs', MoreSt fs c e fs' ∧ MetRes B gd e fs' w x w' := by
  obtain ⟨A, cc, hv, _, _⟩ := Sl.form hc
  obtain ⟨kind, name, dst, dv, data, n⟩ := c
  simp only at hv hcn
  subst hv
  simp only [chV]
  clear hc
  obtain ⟨W, hW⟩ : ∃ W, W = w.alloc (.cells #[.int .i64 kind, .string name, .string dst, .slice A data.length cc, .int .i64 n] 39) := ⟨_, rfl⟩
  have hBx : Blk W w.heap.size 39 #[.int .i64 kind, .string name, .string dst, .slice A data.length cc, .int .i64 n] := hW ▸ Blk.new _ _ _
  have hb : Below w.heap.size w W := hW ▸ (Below.refl _ w).alloc (Nat.le_refl _) _
  have k1 : W.cell? ⟨w.heap.size, 1, none⟩ = some (.string name) := (hBx.cell 1).trans rfl
  have hD := h.up hb
  obtain ⟨hBg, vN, vF, vO, hBk, hO⟩ := id hD
  obtain ⟨g, hg⟩ : ∃ g, fs.F = [] ∨ vF.ownBlock = some g := by
    rcases hO.f.2 with ⟨_, h0⟩ | ⟨g, cap, cur, h1, _⟩
    · exact ⟨0, .inl (List.eq_nil_of_length_eq_zero h0)⟩
    · exact ⟨g, .inr (by rw [h1]; rfl)⟩
  have hq := file_any gd B g fs name vN vF vO W hBk hO hg hs hf hm hall
  have HQ := keep hq
  have HD := keep hD
  have HB := keep hb
  have HBK := keep hBk
  have HBX := keep hBx
  have HO := keep hO
  have HG := keep hg
  clear hq hD hBk hO hb h hBx hall hg hm
  go_enter Tryd.func84, Tryd.ntmps84
  go_wp2_with fail
  rw [← hW]
  clear hW
  go_wp2_with fail
  refine HQ.out.mono ?_
  rintro e w1 ⟨hb1, hr⟩
  have hB1 := bchain HB.out hb1
  rcases hr with ⟨hno, rfl⟩ | ⟨i, k, hi, hk, hnm, hino, rfl⟩
  · have HNO := keep hno
    have HD1 := keep (HD.out.up hb1)
    have HB1 := keep (hB1.mono hB)
    clear hno hB1 hb1
    go_wp2_with fail
    go_ret
    exact ⟨12, _, .inl ⟨HNO.out, rfl, rfl⟩, rfl, HD1.out, HB1.out⟩
  · have hg' : vF.ownBlock = some g := by
      rcases HG.out with h | h
      · rw [h] at hk; simp at hk
      · exact h
    have hO1 := HO.out.up hb1
    have hBk1 := HBK.out.below hb1 HBK.out.lt
    obtain ⟨cap, cur, hvF, _⟩ := own_at hO1.f hg'
    have hof : w1.ownsRow B 60 5 (.slice (some ⟨g, 0, none⟩) fs.F.length cap) fs.F.length (fis fs.F) := hvF ▸ hO1.f
    obtain ⟨_, _, c2, c3, c4⟩ := own_fiCells hof rfl hk
    have f3 : w1.frozen? ⟨g, k * 5 + 3, none⟩ = false := own_frozen hof rfl _
    have f4 : w1.frozen? ⟨g, k * 5 + 4, none⟩ = false := own_frozen hof rfl _
    have hgB := own_ge hO1.f g hg'
    have hX1 := HBX.out.below hb1 HBX.out.lt
    have q4 : w1.cell? ⟨w.heap.size, 4, none⟩ = some (.int .i64 n) := (hX1.cell 4).trans rfl
    have hlk := hlf _ (List.getElem_mem hk)
    have HR1 := keep (hO1.d _ (List.getElem_mem hk))
    have HNM := keep hnm
    have HINO := keep hino
    clear hnm hino
    cases hcp : fs.F[k].cp with
    | false =>
      rw [hcp] at c2
      have HCP := keep hcp
      have HD1 := keep (HD.out.up hb1)
      have HB1 := keep (hB1.mono hB)
      clear hcp hB1 hb1 hO1 hBk1 hof f3 f4 hX1 c3 c4 hlk
      go_wp2_with fail
      go_ret
      exact ⟨17, _, .inr ⟨i, k, hi, hk, HNM.out, HINO.out, .inl ⟨.inl HCP.out, rfl, rfl⟩⟩, rfl, HD1.out, HB1.out⟩
    | true =>
      rw [hcp] at c2
      have HCP := keep hcp
      clear hcp
      cases hwh : fs.F[k].wh with
      | true =>
        rw [hwh] at c3
        have HWH := keep hwh
        have HD1 := keep (HD.out.up hb1)
        have HB1 := keep (hB1.mono hB)
        clear hwh hB1 hb1 hO1 hBk1 hof f3 f4 hX1 c4 hlk
        go_wp2_with fail
        go_ret
        exact ⟨17, _, .inr ⟨i, k, hi, hk, HNM.out, HINO.out, .inl ⟨.inr HWH.out, rfl, rfl⟩⟩, rfl, HD1.out, HB1.out⟩
      | false =>
        rw [hwh] at c3
        have HWH := keep hwh
        clear hwh
        have HD1 := keep (HD.out.up hb1)
        have HB1 := keep (hB1.mono hB)
        by_cases h1 : n < 1
        · have d1 : decide (n < 1) = true := decide_eq_true h1
          clear hB1 hb1 hO1 hBk1 hof f3 f4 hX1 c4 hlk
          go_wp2_with fail
          go_ret
          exact ⟨2, _, .inr ⟨i, k, hi, hk, HNM.out, HINO.out, .inr ⟨⟨HCP.out, HWH.out⟩, .inl ⟨h1, rfl, rfl⟩⟩⟩, rfl, HD1.out, HB1.out⟩
        · have d1 : decide (n < 1) = false := decide_eq_false h1
          obtain ⟨y, hy⟩ : ∃ y, fs.F[k].left = y := ⟨_, rfl⟩
          rw [hy] at c4 hlk
          have hmn : min n y ≤ y := by omega
          have hmn0 : 0 ≤ min n y := by omega
          have HY := keep hy
          have HO1 := keep hO1
          have HBK1 := keep hBk1
          clear hB1 hb1 hO1 hBk1 hof hX1 hy
          go_wp2_with fail
          go_region
          go_wp2_with fail
          go_ret
          have hwd : Below w1.heap.size w1 w1.drew := (Below.refl _ w1).drew
          have hFi : fs.F[k] = ⟨fs.F[k].ino, fs.F[k].dv, fs.F[k].data, true, false, y⟩ := by rw [← HCP.out, ← HWH.out, ← HY.out]
          have hs1 := setFileO (j := 4) (u := .int .i64 (y - min n y)) (a := ⟨fs.F[k].ino, fs.F[k].dv, fs.F[k].data, true, false, y - min n y⟩) (HBK1.out.below hwd HBK1.out.lt) (HO1.out.up hwd) hg' hk (by omega) (by rw [hFi]; rfl) (HR1.out.up hwd)
          have hgr : w1.drew.grownBy (w1.drew.setCell ⟨g, k * 5 + 4, none⟩ (.int .i64 (y - min n y))) vF.ownBlock := by rw [hg']; exact grownBy_set (World.grownBy.refl _ _) _ _
          have hFr := (HR1.out.up hwd).grown hgr (own_noU8 (HO1.out.up hwd).f (by decide))
          have hs2 := Dir.setFile (fs := ⟨fs.N, fs.F.set k ⟨fs.F[k].ino, fs.F[k].dv, fs.F[k].data, true, false, y - min n y⟩, fs.O⟩) (k := k) (j := 3) (u := .bool (y - min n y == 0)) (a := ⟨fs.F[k].ino, fs.F[k].dv, fs.F[k].data, true, y - min n y == 0, y - min n y⟩) hBg hs1.1 hs1.2 hg' (by rw [List.length_set]; exact hk) (by omega) (by simp only [List.getElem_set_self]; rfl) hFr
          rw [List.set_set] at hs2
          exact ⟨0, _, .inr ⟨i, k, hi, hk, HNM.out, HINO.out, .inr ⟨⟨HCP.out, HWH.out⟩, .inr ⟨by omega, rfl, by rw [HY.out]⟩⟩⟩, rfl, hs2, ((HB1.out.drew).setCell (p := ⟨g, k * 5 + 4, none⟩) hgB _).setCell (p := ⟨g, k * 5 + 3, none⟩) hgB _⟩
end Go.Proofs.YtgegmefnbkcdkaaDoor
