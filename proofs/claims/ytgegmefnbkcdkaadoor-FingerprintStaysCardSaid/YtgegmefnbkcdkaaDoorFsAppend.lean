/- The method append. -/
import Derived.Test.YtgegmefnbkcdkaaDoorFsOne
namespace Go.Proofs.YtgegmefnbkcdkaaDoor
open Go.RowKit
/-- What append does. -/
def AppendSt (fs : FS) (c : Ch) (e : Int) (fs' : FS) : Prop :=
  ((∀ t ∈ fs.N, t.nm ≠ c.name) ∧ e = 12 ∧ fs' = fs) ∨
  ∃ (i k : Nat) (hi : i < fs.N.length) (hk : k < fs.F.length), fs.N[i].nm = c.name ∧ fs.F[k].ino = fs.N[i].ino ∧
    ((fs.F[k].cp = true ∧ e = 13 ∧ fs' = fs) ∨ (fs.F[k].cp = false ∧ 60000 < fs.F[k].data.length + c.data.length ∧ e = 3 ∧ fs' = fs) ∨
     (fs.F[k].cp = false ∧ fs.F[k].data.length + c.data.length ≤ 60000 ∧ e = 0 ∧ ∃ dv, fs' = ⟨fs.N, fs.F.set k ⟨fs.F[k].ino, dv, fs.F[k].data ++ c.data, false, fs.F[k].wh, fs.F[k].left⟩, fs.O⟩))
theorem bys_app (a b : List UInt8) : bys (a ++ b) = bys a ++ bys b := by simp [bys]
set_option maxHeartbeats 8000000 in
set_option maxRecDepth 100000 in
theorem append_any (gd B : Nat) (fs : FS) (c : Ch) (w : World) (hB : B ≤ w.heap.size) (h : Dir w B gd fs) (hs : NSrt fs.N) (hf : FSrt fs.F) (hm : Small fs) (hall : ∀ n ∈ fs.N, ∃ t ∈ fs.F, t.ino = n.ino) (hc : BR w c.dv c.data) (hcl : c.data.length ≤ 1000000) :
    Calls Tryd.prog 80 #[.pointer (some ⟨gd, 0, none⟩), .agg (chV c)] w fun x w' => ∃ e fs', AppendSt fs c e fs' ∧ MetRes B gd e fs' w x w' := by
  obtain ⟨A, cc, hv, _, _⟩ := Sl.form hc
  obtain ⟨kind, name, dst, dv, data, n⟩ := c
  simp only at hv hcl
  subst hv
  simp only [chV]
  obtain ⟨W, hW⟩ : ∃ W, W = w.alloc (.cells #[.int .i64 kind, .string name, .string dst, .slice A data.length cc, .int .i64 n] 39) := ⟨_, rfl⟩
  have hBx : Blk W w.heap.size 39 #[.int .i64 kind, .string name, .string dst, .slice A data.length cc, .int .i64 n] := hW ▸ Blk.new _ _ _
  have hb : Below w.heap.size w W := hW ▸ (Below.refl _ w).alloc (Nat.le_refl _) _
  have k1 : W.cell? ⟨w.heap.size, 1, none⟩ = some (.string name) := (hBx.cell 1).trans rfl
  have hD := h.up hb
  have hC := hc.up hb
  obtain ⟨hBg, vN, vF, vO, hBk, hO⟩ := id hD
  obtain ⟨g, hg⟩ : ∃ g, fs.F = [] ∨ vF.ownBlock = some g := by
    rcases hO.f.2 with ⟨_, h0⟩ | ⟨g, cap, cur, h1, _⟩
    · exact ⟨0, .inl (List.eq_nil_of_length_eq_zero h0)⟩
    · exact ⟨g, .inr (by rw [h1]; rfl)⟩
  have hq := file_any gd B g fs name vN vF vO W hBk hO hg hs hf hm hall
  have HQ := keep hq
  have HD := keep hD
  have HB := keep hb
  have HBK := keep hBk
  have HO := keep hO
  have HG := keep hg
  have HBX := keep hBx
  have HC := keep hC
  clear hq hD hBk hO hb h hBx hall hg hC hc hm
  go_enter Tryd.func80, Tryd.ntmps80
  go_wp2_with fail
  rw [← hW]
  clear hW
  go_wp2_with fail
  refine HQ.out.mono ?_
  rintro e w1 ⟨hb1, hr⟩
  have hB1 := bchain HB.out hb1
  rcases hr with ⟨hno, rfl⟩ | ⟨i, k, hi, hk, hnm, hino, rfl⟩
  · have HNO := keep hno
    have HD1 := keep (HD.out.up hb1)
    have HB1 := keep (hB1.mono hB)
    clear hno hB1 hb1
    go_wp2_with fail
    go_ret
    exact ⟨12, _, .inl ⟨HNO.out, rfl, rfl⟩, rfl, HD1.out, HB1.out⟩
  · have hg' : vF.ownBlock = some g := by
      rcases HG.out with h | h
      · rw [h] at hk; simp at hk
      · exact h
    have hO1 := HO.out.up hb1
    have hBk1 := HBK.out.below hb1 HBK.out.lt
    obtain ⟨cap, cur, hvF, _⟩ := own_at hO1.f hg'
    have hof : w1.ownsRow B 60 5 (.slice (some ⟨g, 0, none⟩) fs.F.length cap) fs.F.length (fis fs.F) := hvF ▸ hO1.f
    obtain ⟨_, c1, c2, _, _⟩ := own_fiCells hof rfl hk
    have hR1 := hO1.d _ (List.getElem_mem hk)
    cases hcp : fs.F[k].cp with
    | true =>
      rw [hcp] at c2
      have HCP := keep hcp
      have HD1 := keep (HD.out.up hb1)
      have HB1 := keep (hB1.mono hB)
      clear hcp hB1 hb1 hO1 hBk1 hof c1 hR1
      go_wp2_with fail
      go_ret
      exact ⟨13, _, .inr ⟨i, k, hi, hk, hnm, hino, .inl ⟨HCP.out, rfl, rfl⟩⟩, rfl, HD1.out, HB1.out⟩
    | false =>
      rw [hcp] at c2
      obtain ⟨FA, FC, hfd⟩ := hR1.form
      rw [hfd] at c1
      have HCP := keep hcp
      have HFD := keep hfd
      have HD1 := keep (HD.out.up hb1)
      have HB1 := keep hB1
      have HR1 := keep hR1
      have HX1 := keep (HBX.out.below hb1 HBX.out.lt)
      have HC1 := keep (HC.out.up hb1)
      have q3 : w1.cell? ⟨w.heap.size, 3, none⟩ = some (.slice A data.length cc) := (HX1.out.cell 3).trans rfl
      have HO1 := keep hO1
      have HBK1 := keep hBk1
      have hl1 : (data.length : Int) ≤ 1000000 := by omega
      have hl2 : (fs.F[k].data.length : Int) ≤ 1000000 := by have := hR1.2; omega
      have hl3 : (0 : Int) ≤ (fs.F[k].data.length : Int) + (data.length : Int) := by omega
      have hl4 : (fs.F[k].data.length : Int) + (data.length : Int) ≤ 2000000 := by omega
      have hsum : IntKind.i64.wrap ((fs.F[k].data.length : Int) + (data.length : Int)) = (fs.F[k].data.length : Int) + (data.length : Int) := IntWalk.i64_in _ (by omega)
      have hHN := keep hnm
      have hHI := keep hino
      clear hcp hB1 hb1 hO1 hBk1 hof hR1 hfd hnm hino
      by_cases h60 : 60000 < fs.F[k].data.length + data.length
      · have d1 : decide ((60000 : Int) < (fs.F[k].data.length : Int) + (data.length : Int)) = true := decide_eq_true (by omega)
        clear hl1 hl2 hl3 hl4
        go_wp2_with fail
        go_quiet (fail)
        go_wp2_with fail
        go_ret
        exact ⟨3, _, .inr ⟨i, k, hi, hk, hHN.out, hHI.out, .inr (.inl ⟨HCP.out, h60, rfl, rfl⟩)⟩, rfl, HD1.out.up (below_drewN (Below.refl _ _) _), below_drewN (HB1.out.mono hB) _⟩
      · have d1 : decide ((60000 : Int) < (fs.F[k].data.length : Int) + (data.length : Int)) = false := decide_eq_false (by omega)
        clear hl1 hl2 hl3 hl4
        go_wp2_with fail
        go_quiet (fail)
        clear hsum
        go_wp2_with fail
        have hbq : Below w1.heap.size w1 (w1.drewN nq) := below_drewN (Below.refl _ w1) nq
        have c1q : (w1.drewN nq).cell? ⟨g, k * 5 + 1, none⟩ = some (.slice FA fs.F[k].data.length FC) := c1
        have q3q : (w1.drewN nq).cell? ⟨w.heap.size, 3, none⟩ = some (.slice A data.length cc) := q3
        clear c1 c2 q3
        generalize w1.drewN nq = wq at hbq c1q q3q ⊢
        have hO2 := HO1.out.up hbq
        have hBk2 := HBK1.out.below hbq HBK1.out.lt
        have hX2 := HX1.out.below hbq HX1.out.lt
        have hwd : Below wq.heap.size wq wq.drew := (Below.refl _ wq).drew
        have hcl2 := clone_bytes (.slice FA fs.F[k].data.length FC) fs.F[k].data wq.drew (by have h1 := ((HR1.out.up hbq).up hwd).br; rw [HFD.out] at h1; exact h1) HR1.out.2
        have HCL2 := keep hcl2
        have HC2 := keep ((HC1.out.up hbq).up hwd)
        have HO2 := keep (hO2.up hwd)
        have HBK2 := keep (hBk2.below hwd hBk2.lt)
        have HX2 := keep (hX2.below hwd hX2.lt)
        have HBQ := keep (bchain (bchain HB1.out hbq) hwd)
        have hgB := own_ge HO1.out.f g hg'
        have HLA : Hid (fs.F[k].data.length + data.length ≤ maxLen) := keep (by unfold maxLen; omega)
        have HLB : Hid ((fs.F[k].data.length + data.length) * 1 ≤ 140737488355328) := keep (by omega)
        clear hcl2 hO2 hBk2 hX2 hwd hbq
        go_cut [] (fun wd => ∃ dv, Dir wd B gd ⟨fs.N, fs.F.set k ⟨fs.F[k].ino, dv, fs.F[k].data ++ data, false, fs.F[k].wh, fs.F[k].left⟩, fs.O⟩ ∧ Below B w wd)
        case first =>
          go_region_law (first
            | (go_simp; go_at_call 29; (with_reducible refine HCL2.out.mono ?_); rintro e w5 ⟨v5, rfl, ho5, hb5⟩
               have q5 : w5.cell? ⟨w.heap.size, 3, none⟩ = some (.slice A data.length cc) := ((HX2.out.below hb5 HX2.out.lt).cell 3).trans rfl)
            | (refine step_appendS elBy rfl _ _ rfl wq.drew.heap.size v5 _ _ rfl ho5 _ (.slice A data.length cc) data.length (bys data) rfl (HC2.out.up hb5) (bys_one data) HLA.out HLB.out hb5.size ?_; intro v6 w6 ho6 hb6 hg6
               obtain ⟨A6, C6, rfl, _⟩ := own_sl ho6
               have hb56 := hb5.trans hb6
               have HO6 := keep (HO2.out.up hb56)
               have hBk6 := keep (HBK2.out.below hb56 HBK2.out.lt)
               have f6 : w6.frozen? ⟨g, k * 5 + 1, none⟩ = false := own_frozen HO6.out.f hg' _
               have c6 : w6.cell? ⟨g, k * 5 + 1, none⟩ = some (.slice FA fs.F[k].data.length FC) := by rw [← HFD.out]; exact (own_fiCells (hvF ▸ HO6.out.f) rfl hk).2.1)
            | fail)
          all_goals
            have hfi : FiR w6 ⟨fs.F[k].ino, .slice A6 (fs.F[k].data.length + data.length) C6, fs.F[k].data ++ data, false, fs.F[k].wh, fs.F[k].left⟩ := by
              refine ⟨?_, ?_⟩
              · have h1 := own_u8 ho6
                rw [← bys_app] at h1
                rw [List.length_append]
                exact h1
              · show (fs.F[k].data ++ data).length ≤ _
                rw [List.length_append]; omega
            have hset := Dir.setFile (j := 1) (u := .slice A6 (fs.F[k].data.length + data.length) C6) (a := ⟨fs.F[k].ino, .slice A6 (fs.F[k].data.length + data.length) C6, fs.F[k].data ++ data, false, fs.F[k].wh, fs.F[k].left⟩) hBg hBk6 HO6.out hg' hk (by omega) (by rw [← HCP.out]; rfl) hfi
            have HSET := keep hset
            have HBE := keep (((HBQ.out.mono hB).trans (hb56.mono (Nat.le_trans hB HBQ.out.size))).setCell (p := ⟨g, k * 5 + 1, none⟩) hgB (.slice A6 (fs.F[k].data.length + data.length) C6))
            clear hset hfi
            go_wp2_with fail
            go_meet
            exact ⟨_, HSET.out, HBE.out⟩
        case rest =>
          obtain ⟨dv, hD, hBe⟩ := hcut
          have HD := keep hD
          have HBE := keep hBe
          clear hD hBe
          go_wp2_with fail
          go_ret
          exact ⟨0, _, .inr ⟨i, k, hi, hk, hHN.out, hHI.out, .inr (.inr ⟨HCP.out, Nat.not_lt.1 h60, rfl, dv, rfl⟩)⟩, rfl, HD.out, HBE.out⟩
end Go.Proofs.YtgegmefnbkcdkaaDoor
