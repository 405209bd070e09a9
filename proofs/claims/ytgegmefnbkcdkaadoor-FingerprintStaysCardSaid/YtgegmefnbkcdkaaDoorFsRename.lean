/- The method rename. -/
import Derived.Test.YtgegmefnbkcdkaaDoorFsAppend
namespace Go.Proofs.YtgegmefnbkcdkaaDoor
open Go.RowKit
theorem toList_inj {s t : ByteArray} (h : s.toList = t.toList) : s = t := by
  rw [Lib.toList_data, Lib.toList_data] at h
  exact lb_inj h
/-- What rename does. -/
def RenameSt (fs : FS) (c : Ch) (e : Int) (fs' : FS) : Prop :=
  ((∀ t ∈ fs.N, t.nm ≠ c.name) ∧ e = 12 ∧ fs' = fs) ∨
  ∃ (i k : Nat) (hi : i < fs.N.length) (hk : k < fs.F.length), fs.N[i].nm = c.name ∧ fs.F[k].ino = fs.N[i].ino ∧
    ((c.dst = c.name ∧ e = 17 ∧ fs' = fs) ∨ (c.dst ≠ c.name ∧ e = 0 ∧ fs' = ⟨putName (rmName (rmName fs.N c.name) c.dst) ⟨c.dst, fs.F[k].ino⟩, fs.F, fs.O⟩))
theorem NSrt.rm {N : List Nm} (h : NSrt N) (s : ByteArray) : NSrt (rmName N s) := List.Pairwise.filter _ h
theorem Small.rm {fs : FS} (h : Small fs) (s : ByteArray) : Small ⟨rmName fs.N s, fs.F, fs.O⟩ := ⟨Nat.le_trans (List.length_filter_le _ _) h.n, h.f, h.o⟩
set_option maxHeartbeats 4000000 in
set_option maxRecDepth 100000 in
theorem rename_any (gd B : Nat) (fs : FS) (c : Ch) (w : World) (hB : B ≤ w.heap.size) (h : Dir w B gd fs) (hs : NSrt fs.N) (hf : FSrt fs.F) (hm : Small fs) (hall : ∀ n ∈ fs.N, ∃ t ∈ fs.F, t.ino = n.ino) (hc : BR w c.dv c.data) :
    Calls Tryd.prog 82 #[.pointer (some ⟨gd, 0, none⟩), .agg (chV c)] w fun x w' => ∃ e fs', RenameSt fs c e fs' ∧ MetRes B gd e fs' w x w' := by
  obtain ⟨A, cc, hv, _, _⟩ := Sl.form hc
  obtain ⟨kind, name, dst, dv, data, n⟩ := c
  simp only at hv
  subst hv
  simp only [chV]
  clear hc
  obtain ⟨W, hW⟩ : ∃ W, W = w.alloc (.cells #[.int .i64 kind, .string name, .string dst, .slice A data.length cc, .int .i64 n] 39) := ⟨_, rfl⟩
  have hBx : Blk W w.heap.size 39 #[.int .i64 kind, .string name, .string dst, .slice A data.length cc, .int .i64 n] := hW ▸ Blk.new _ _ _
  have hb : Below w.heap.size w W := hW ▸ (Below.refl _ w).alloc (Nat.le_refl _) _
  have k1 : W.cell? ⟨w.heap.size, 1, none⟩ = some (.string name) := (hBx.cell 1).trans rfl
  have hD := h.up hb
  obtain ⟨hBg, vN, vF, vO, hBk, hO⟩ := id hD
  obtain ⟨g, hg⟩ : ∃ g, fs.F = [] ∨ vF.ownBlock = some g := by
    rcases hO.f.2 with ⟨_, h0⟩ | ⟨g, cap, cur, h1, _⟩
    · exact ⟨0, .inl (List.eq_nil_of_length_eq_zero h0)⟩
    · exact ⟨g, .inr (by rw [h1]; rfl)⟩
  have hq := file_any gd B g fs name vN vF vO W hBk hO hg hs hf hm hall
  have HQ := keep hq
  have HD := keep hD
  have HB := keep hb
  have HBX := keep hBx
  have HO := keep hO
  have HG := keep hg
  have HM := keep hm
  clear hq hD hBk hO hb h hBx hall hg hm
  go_enter Tryd.func82, Tryd.ntmps82
  go_wp2_with fail
  rw [← hW]
  clear hW
  go_wp2_with fail
  refine HQ.out.mono ?_
  rintro e w1 ⟨hb1, hr⟩
  have hB1 := bchain HB.out hb1
  rcases hr with ⟨hno, rfl⟩ | ⟨i, k, hi, hk, hnm, hino, rfl⟩
  · have HNO := keep hno
    have HD1 := keep (HD.out.up hb1)
    have HB1 := keep (hB1.mono hB)
    clear hno hB1 hb1
    go_wp2_with fail
    go_ret
    exact ⟨12, _, .inl ⟨HNO.out, rfl, rfl⟩, rfl, HD1.out, HB1.out⟩
  · have hg' : vF.ownBlock = some g := by
      rcases HG.out with h | h
      · rw [h] at hk; simp at hk
      · exact h
    have hO1 := HO.out.up hb1
    obtain ⟨cap, cur, hvF, _⟩ := own_at hO1.f hg'
    have hof : w1.ownsRow B 60 5 (.slice (some ⟨g, 0, none⟩) fs.F.length cap) fs.F.length (fis fs.F) := hvF ▸ hO1.f
    obtain ⟨c0, _, _, _, _⟩ := own_fiCells hof rfl hk
    have hX1 := HBX.out.below hb1 HBX.out.lt
    have q1 : w1.cell? ⟨w.heap.size, 1, none⟩ = some (.string name) := (hX1.cell 1).trans rfl
    have q2 : w1.cell? ⟨w.heap.size, 2, none⟩ = some (.string dst) := (hX1.cell 2).trans rfl
    have HNM := keep hnm
    have HINO := keep hino
    obtain ⟨y, hy⟩ : ∃ y, fs.F[k].ino = y := ⟨_, rfl⟩
    rw [hy] at c0
    have HY := keep hy
    have HD1 := keep (HD.out.up hb1)
    have HB1 := keep (hB1.mono hB)
    have HX1 := keep hX1
    have hB1z : B ≤ w1.heap.size := Nat.le_trans hB hB1.size
    clear hnm hino hy hB1 hb1 hO1 hof hX1
    by_cases hdn : dst = name
    · subst hdn
      go_wp2_with fail
      go_ret
      exact ⟨17, _, .inr ⟨i, k, hi, hk, HNM.out, HINO.out, .inl ⟨rfl, rfl, rfl⟩⟩, rfl, HD1.out, HB1.out⟩
    · have hne : (dst.toList == name.toList) = false := beq_eq_false_iff_ne.2 (fun e => hdn (toList_inj e))
      have hu1 := unlink_any gd B fs name w1 hB1z HD1.out hs HM.out
      have HU1 := keep hu1
      clear hu1
      go_wp2_with fail
      refine HU1.out.mono ?_
      rintro e w2 ⟨rfl, hD2, hb2, ht2⟩
      have hX2 := ht2.blk HX1.out (by decide) (by decide) (by decide)
      have r2 : w2.cell? ⟨w.heap.size, 2, none⟩ = some (.string dst) := (hX2.cell 2).trans rfl
      have hu2 := unlink_any gd B _ dst w2 (Nat.le_trans hB1z hb2.size) hD2 (hs.rm name) (HM.out.rm name)
      have HU2 := keep hu2
      have HX2 := keep hX2
      have HB2 := keep hb2
      clear hu2 hX2 hD2 ht2 hb2
      go_wp2_with fail
      refine HU2.out.mono ?_
      rintro e w3 ⟨rfl, hD3, hb3, ht3⟩
      have hX3 := ht3.blk HX2.out (by decide) (by decide) (by decide)
      have s2 : w3.cell? ⟨w.heap.size, 2, none⟩ = some (.string dst) := (hX3.cell 2).trans rfl
      have hu3 := link_any gd B _ dst y w3 (Nat.le_trans hB1z (Nat.le_trans HB2.out.size hb3.size)) hD3 ((hs.rm name).rm dst) ((HM.out.rm name).rm dst)
      have HU3 := keep hu3
      have HB3 := keep hb3
      clear hu3 hX3 hD3 ht3 hb3
      go_wp2_with fail
      refine HU3.out.mono ?_
      rintro e w4 ⟨rfl, hD4, hb4, _⟩
      have HD4 := keep hD4
      have HB4 := keep (((HB1.out.trans HB2.out).trans HB3.out).trans hb4)
      clear hD4 hb4
      go_wp2_with fail
      go_ret
      exact ⟨0, _, .inr ⟨i, k, hi, hk, HNM.out, HINO.out, .inr ⟨hdn, rfl, by rw [HY.out]⟩⟩, rfl, HD4.out, HB4.out⟩
end Go.Proofs.YtgegmefnbkcdkaaDoor
