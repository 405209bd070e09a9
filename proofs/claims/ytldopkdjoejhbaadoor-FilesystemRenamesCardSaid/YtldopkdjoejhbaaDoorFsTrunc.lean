/- The method truncate. -/
import Derived.Test.YtldopkdjoejhbaaDoorFsField
namespace Go.Proofs.YtldopkdjoejhbaaDoor
open Go.RowKit

/-- What truncate does. -/
def TruncSt (fs : FS) (s : ByteArray) (e : Int) (fs' : FS) : Prop :=
  ((∀ t ∈ fs.N, t.nm ≠ s) ∧ e = 12 ∧ fs' = fs) ∨
  ∃ (i k : Nat) (hi : i < fs.N.length) (hk : k < fs.F.length), fs.N[i].nm = s ∧ fs.F[k].ino = fs.N[i].ino ∧
    ((fs.F[k].cp = true ∧ e = 13 ∧ fs' = fs) ∨ (fs.F[k].cp = false ∧ e = 0 ∧ fs' = ⟨fs.N, fs.F.set k ⟨fs.F[k].ino, .slice none 0 0, [], false, fs.F[k].wh, fs.F[k].left⟩, fs.O⟩))
set_option maxHeartbeats 4000000 in
set_option maxRecDepth 100000 in
theorem truncate_any (gd B : Nat) (fs : FS) (c : Ch) (w : World) (hB : B ≤ w.heap.size) (h : Dir w B gd fs) (hs : NSrt fs.N) (hf : FSrt fs.F) (hm : Small fs) (hall : ∀ n ∈ fs.N, ∃ t ∈ fs.F, t.ino = n.ino) (hc : BR w c.dv c.data) :
    Calls Tryd.prog 102 #[.pointer (some ⟨gd, 0, none⟩), .agg (chV c)] w fun x w' => ∃ e fs', TruncSt fs c.name e fs' ∧ MetRes B gd e fs' w x w' := by
  obtain ⟨A, cc, hv, _, _⟩ := Sl.form hc
  obtain ⟨kind, name, dst, dv, data, n⟩ := c
  simp only at hv
  subst hv
  simp only [chV]
  clear hc
  obtain ⟨W, hW⟩ : ∃ W, W = w.alloc (.cells #[.int .i64 kind, .string name, .string dst, .slice A data.length cc, .int .i64 n] 37) := ⟨_, rfl⟩
  have hBx : Blk W w.heap.size 37 #[.int .i64 kind, .string name, .string dst, .slice A data.length cc, .int .i64 n] := hW ▸ Blk.new _ _ _
  have hb : Below w.heap.size w W := hW ▸ (Below.refl _ w).alloc (Nat.le_refl _) _
  have k1 : W.cell? ⟨w.heap.size, 1, none⟩ = some (.string name) := (hBx.cell 1).trans rfl
  have hD := h.up hb
  obtain ⟨hBg, vN, vF, vO, hBk, hO⟩ := id hD
  obtain ⟨g, hg⟩ : ∃ g, fs.F = [] ∨ vF.ownBlock = some g := by
    rcases hO.f.2 with ⟨_, h0⟩ | ⟨g, cap, cur, h1, _⟩
    · exact ⟨0, .inl (List.eq_nil_of_length_eq_zero h0)⟩
    · exact ⟨g, .inr (by rw [h1]; rfl)⟩
  have hq := file_any gd B g fs name vN vF vO W hBk hO hg hs hf hm hall
  have HQ := keep hq
  have HD := keep hD
  have HB := keep hb
  have HBK := keep hBk
  have HO := keep hO
  have HG := keep hg
  clear hq hD hBk hO hb h hBx hall hg
  go_enter Tryd.func102, Tryd.ntmps102
  go_wp2_with fail
  rw [← hW]
  clear hW
  go_wp2_with fail
  refine HQ.out.mono ?_
  rintro e w1 ⟨hb1, hr⟩
  have hB1 := bchain HB.out hb1
  rcases hr with ⟨hno, rfl⟩ | ⟨i, k, hi, hk, hnm, hino, rfl⟩
  · have HNO := keep hno
    have HD1 := keep (HD.out.up hb1)
    have HB1 := keep (hB1.mono hB)
    clear hno hB1 hb1
    go_wp2_with fail
    go_ret
    exact ⟨12, _, .inl ⟨HNO.out, rfl, rfl⟩, rfl, HD1.out, HB1.out⟩
  · have hg' : vF.ownBlock = some g := by
      rcases HG.out with h | h
      · rw [h] at hk; simp at hk
      · exact h
    have hO1 := HO.out.up hb1
    have hBk1 := HBK.out.below hb1 HBK.out.lt
    obtain ⟨cap, cur, hvF, _⟩ := own_at hO1.f hg'
    have hof : w1.ownsRow B 45 5 (.slice (some ⟨g, 0, none⟩) fs.F.length cap) fs.F.length (fis fs.F) := hvF ▸ hO1.f
    obtain ⟨_, c1, c2, _, _⟩ := own_fiCells hof rfl hk
    have f1 : w1.frozen? ⟨g, k * 5 + 1, none⟩ = false := own_frozen hof rfl _
    have hgB := own_ge hO1.f g hg'
    cases hcp : fs.F[k].cp with
    | true =>
      rw [hcp] at c2
      have HCP := keep hcp
      have HD1 := keep (HD.out.up hb1)
      have HB1 := keep (hB1.mono hB)
      clear hcp hB1 hb1 hO1 hBk1 hof c1 f1
      go_wp2_with fail
      go_ret
      exact ⟨13, _, .inr ⟨i, k, hi, hk, hnm, hino, .inl ⟨HCP.out, rfl, rfl⟩⟩, rfl, HD1.out, HB1.out⟩
    | false =>
      rw [hcp] at c2
      have HCP := keep hcp
      have hset := Dir.setFile (j := 1) (u := .slice none 0 0) (a := ⟨fs.F[k].ino, .slice none 0 0, [], false, fs.F[k].wh, fs.F[k].left⟩) hBg hBk1 hO1 hg' hk (by omega) (by rw [← hcp]; rfl) ⟨Sl.nil _ _ _ _ _, by simp⟩
      have HSET := keep hset
      have HBE := keep ((hB1.mono hB).setCell (p := ⟨g, k * 5 + 1, none⟩) hgB (.slice none 0 0))
      obtain ⟨y, hy⟩ : ∃ y, fs.F[k].dv = y := ⟨_, rfl⟩
      rw [hy] at c1
      clear hcp hB1 hb1 hO1 hBk1 hof hset hy
      go_wp2_with fail
      go_ret
      exact ⟨0, _, .inr ⟨i, k, hi, hk, hnm, hino, .inr ⟨HCP.out, rfl, rfl⟩⟩, rfl, HSET.out, HBE.out⟩
end Go.Proofs.YtldopkdjoejhbaaDoor
