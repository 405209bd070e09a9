/- The file with a name. -/
import Derived.Test.YtldopkdjoejhbaaDoorFsAdd
namespace Go.Proofs.YtldopkdjoejhbaaDoor
open Go.RowKit

theorem at_ino_yes {F : List Fi} {n : Int} {k : Nat} (h0 : cfAt_fi (cfi n) F k = 0) : ∃ hk : k < F.length, F[k].ino = n := by
  have hk : k < F.length := by
    rcases Nat.lt_or_ge k F.length with h | h
    · exact h
    · rw [cfAt_fi_out h] at h0; omega
  rw [cfAt_fi_in hk] at h0
  exact ⟨hk, cfi_zero.1 h0⟩
theorem at_ino_no {F : List Fi} {n : Int} {k : Nat} (hs : FSrt F) (h : At_fi (cfi n) F k) (h0 : cfAt_fi (cfi n) F k ≠ 0) : ∀ t ∈ F, t.ino ≠ n := by
  intro t ht e
  obtain ⟨j, hj, rfl⟩ := List.getElem_of_mem ht
  have hz : cfi n F[j] = 0 := cfi_zero.2 e
  rcases Nat.lt_trichotomy j k with hlt | rfl | hgt
  · have := h.2.1 j hlt
    rw [cfAt_fi_in hj] at this
    omega
  · rw [cfAt_fi_in hj] at h0
    exact h0 hz
  · have h1 := List.pairwise_iff_getElem.1 hs k j (by omega) hj hgt
    have h2 := h.2.2 k (Nat.le_refl _)
    rw [cfAt_fi_in (by omega)] at h2
    have := cfi_neg.2 (show F[k].ino < n by omega)
    omega
/-- What file gives: no such name, or the place of its file. -/
def FileRes (fs : FS) (g : Nat) (s : ByteArray) (w : World) (x : Ending) (w' : World) : Prop := Below w.heap.size w w' ∧
  (((∀ n ∈ fs.N, n.nm ≠ s) ∧ x = .returned (.tuple #[.pointer none, .bool false])) ∨
   ∃ (i k : Nat) (hi : i < fs.N.length) (hk : k < fs.F.length), fs.N[i].nm = s ∧ fs.F[k].ino = fs.N[i].ino ∧ x = .returned (.tuple #[.pointer (some ⟨g, k * 5, none⟩), .bool true]))
set_option maxHeartbeats 4000000 in
set_option maxRecDepth 100000 in
theorem file_any (gd B g : Nat) (fs : FS) (s : ByteArray) (vN vF vO : Value) (w : World) (hBk : Blk w gd 81 #[vN, vF, vO]) (hO : FsO w B vN vF vO fs) (hg : fs.F = [] ∨ vF.ownBlock = some g) (hs : NSrt fs.N) (hf : FSrt fs.F) (hm : Small fs) (hall : ∀ n ∈ fs.N, ∃ t ∈ fs.F, t.ino = n.ino) :
    Calls Tryd.prog 111 #[.pointer (some ⟨gd, 0, none⟩), .string s] w (FileRes fs g s w) := by
  obtain ⟨A1, c1, rfl, _⟩ := own_sl hO.n
  obtain ⟨A2, c2, rfl, _⟩ := own_sl hO.f
  have hq := name_any gd s _ fs.N w ((hBk.cell 0).trans rfl) hO.r.n hs (by have := hm.n; omega)
  have HQ := keep hq
  have HBK := keep hBk
  have HO := keep hO
  have HALL := keep hall
  have HG := keep hg
  clear hq hBk hO hall hg
  go_enter Tryd.func111, Tryd.ntmps111
  go_wp2_with fail
  refine HQ.out.mono ?_
  rintro e w1 ⟨i, hA, rfl, hb1⟩
  by_cases hc : cfAt_nm (cfn s) fs.N i = 0
  · rw [decide_eq_true hc]
    obtain ⟨hi, hnm, _⟩ := at_rm_yes hs hc
    have hBW := HBK.out.below hb1 HBK.out.lt
    have hOW := HO.out.up hb1
    have k0 : w1.cell? ⟨gd, 0, none⟩ = some (.slice A1 fs.N.length c1) := (hBW.cell 0).trans rfl
    obtain ⟨b1, o1, rfl, _, n0, n1⟩ := nm_cells hOW.r.n hi
    have hex := HALL.out _ (List.getElem_mem hi)
    obtain ⟨y, hy⟩ : ∃ y, fs.N[i].ino = y := ⟨_, rfl⟩
    have HHI := keep (And.intro hnm hy)
    rw [hy] at n1 hex
    have hq2 := fun W (hb : Below w1.heap.size w1 W) => inode_any gd y _ fs.F W (((hBW.below hb hBW.lt).cell 1).trans rfl) (hOW.up hb).r.f (hOW.up hb).d hf (by have := hm.f; omega)
    have HQ2 := keep (hq2 w1 (Below.refl _ _))
    have HEX := keep hex
    have HB1 := keep hb1
    have HOW := keep hOW
    have HBW := keep hBW
    have i1 : (i : Int) < (fs.N.length : Int) := by omega
    have i2 : (fs.N.length : Int) ≤ 1000 := by have := hm.n; omega
    clear hc hA hOW hBW hb1 hq2 hnm hy hex n0
    go_wp2_with fail
    refine HQ2.out.mono ?_
    rintro e w2 ⟨k, hA2, rfl, hb2⟩
    by_cases hc2 : cfAt_fi (cfi y) fs.F k = 0
    · rw [decide_eq_true hc2]
      obtain ⟨hk, hino⟩ := at_ino_yes hc2
      have hB2 := HBW.out.below hb2 HBW.out.lt
      have k1 : w2.cell? ⟨gd, 1, none⟩ = some (.slice A2 fs.F.length c2) := (hB2.cell 1).trans rfl
      have hA2e : A2 = some ⟨g, 0, none⟩ := by
        rcases HG.out with h | h
        · rw [h] at hk; simp at hk
        · obtain ⟨_, _, he, _⟩ := own_at HO.out.f h
          injection he with he _ _
      subst hA2e
      have HB2 := keep (bchain HB1.out hb2)
      have HINO := keep hino
      have i3 : (k : Int) < (fs.F.length : Int) := by omega
      have i4 : (fs.F.length : Int) ≤ 1000 := by have := hm.f; omega
      clear hc2 hA2 hB2 hb2 hino
      go_wp2_with fail
      go_ret2
      exact ⟨HB2.out, .inr ⟨i, k, hi, hk, HHI.out.1, by rw [HINO.out, HHI.out.2], rfl⟩⟩
    · exact absurd HEX.out (fun ⟨t, ht, he⟩ => at_ino_no hf hA2 hc2 t ht he)
  · rw [decide_eq_false hc]
    have HNO := keep (at_rm_no hs hA hc)
    have HB1 := keep hb1
    clear hc hA hb1
    go_wp2_with fail
    go_ret2
    exact ⟨HB1.out, .inl ⟨HNO.out, rfl⟩⟩
end Go.Proofs.YtldopkdjoejhbaaDoor
