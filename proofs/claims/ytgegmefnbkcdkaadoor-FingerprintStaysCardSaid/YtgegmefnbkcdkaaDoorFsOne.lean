/- The file with a name. A change as a value; the method remove. A store into a field of a file of a directory. The method truncate. The method create. -/
import Derived.Test.YtgegmefnbkcdkaaDoorFsAdd
namespace Go.Proofs.YtgegmefnbkcdkaaDoor
open Go.RowKit
theorem at_ino_yes {F : List Fi} {n : Int} {k : Nat} (h0 : cfAt_fi (cfi n) F k = 0) : ∃ hk : k < F.length, F[k].ino = n := by
  have hk : k < F.length := by
    rcases Nat.lt_or_ge k F.length with h | h
    · exact h
    · rw [cfAt_fi_out h] at h0; omega
  rw [cfAt_fi_in hk] at h0
  exact ⟨hk, cfi_zero.1 h0⟩
theorem at_ino_no {F : List Fi} {n : Int} {k : Nat} (hs : FSrt F) (h : At_fi (cfi n) F k) (h0 : cfAt_fi (cfi n) F k ≠ 0) : ∀ t ∈ F, t.ino ≠ n := by
  intro t ht e
  obtain ⟨j, hj, rfl⟩ := List.getElem_of_mem ht
  have hz : cfi n F[j] = 0 := cfi_zero.2 e
  rcases Nat.lt_trichotomy j k with hlt | rfl | hgt
  · have := h.2.1 j hlt
    rw [cfAt_fi_in hj] at this
    omega
  · rw [cfAt_fi_in hj] at h0
    exact h0 hz
  · have h1 := List.pairwise_iff_getElem.1 hs k j (by omega) hj hgt
    have h2 := h.2.2 k (Nat.le_refl _)
    rw [cfAt_fi_in (by omega)] at h2
    have := cfi_neg.2 (show F[k].ino < n by omega)
    omega
/-- What file gives: no such name, or the place of its file. -/
def FileRes (fs : FS) (g : Nat) (s : ByteArray) (w : World) (x : Ending) (w' : World) : Prop := Below w.heap.size w w' ∧
  (((∀ n ∈ fs.N, n.nm ≠ s) ∧ x = .returned (.tuple #[.pointer none, .bool false])) ∨
   ∃ (i k : Nat) (hi : i < fs.N.length) (hk : k < fs.F.length), fs.N[i].nm = s ∧ fs.F[k].ino = fs.N[i].ino ∧ x = .returned (.tuple #[.pointer (some ⟨g, k * 5, none⟩), .bool true]))
set_option maxHeartbeats 4000000 in
set_option maxRecDepth 100000 in
theorem file_any (gd B g : Nat) (fs : FS) (s : ByteArray) (vN vF vO : Value) (w : World) (hBk : Blk w gd 74 #[vN, vF, vO]) (hO : FsO w B vN vF vO fs) (hg : fs.F = [] ∨ vF.ownBlock = some g) (hs : NSrt fs.N) (hf : FSrt fs.F) (hm : Small fs) (hall : ∀ n ∈ fs.N, ∃ t ∈ fs.F, t.ino = n.ino) :
    Calls Tryd.prog 91 #[.pointer (some ⟨gd, 0, none⟩), .string s] w (FileRes fs g s w) := by
  obtain ⟨A1, c1, rfl, _⟩ := own_sl hO.n
  obtain ⟨A2, c2, rfl, _⟩ := own_sl hO.f
  have hq := name_any gd s _ fs.N w ((hBk.cell 0).trans rfl) hO.r.n hs (by have := hm.n; omega)
  have HQ := keep hq
  have HBK := keep hBk
  have HO := keep hO
  have HALL := keep hall
  have HG := keep hg
  clear hq hBk hO hall hg
  go_enter Tryd.func91, Tryd.ntmps91
  go_wp2_with fail
  refine HQ.out.mono ?_
  rintro e w1 ⟨i, hA, rfl, hb1⟩
  by_cases hc : cfAt_nm (cfn s) fs.N i = 0
  · rw [decide_eq_true hc]
    obtain ⟨hi, hnm, _⟩ := at_rm_yes hs hc
    have hBW := HBK.out.below hb1 HBK.out.lt
    have hOW := HO.out.up hb1
    have k0 : w1.cell? ⟨gd, 0, none⟩ = some (.slice A1 fs.N.length c1) := (hBW.cell 0).trans rfl
    obtain ⟨b1, o1, rfl, _, n0, n1⟩ := nm_cells hOW.r.n hi
    have hex := HALL.out _ (List.getElem_mem hi)
    obtain ⟨y, hy⟩ : ∃ y, fs.N[i].ino = y := ⟨_, rfl⟩
    have HHI := keep (And.intro hnm hy)
    rw [hy] at n1 hex
    have hq2 := fun W (hb : Below w1.heap.size w1 W) => inode_any gd y _ fs.F W (((hBW.below hb hBW.lt).cell 1).trans rfl) (hOW.up hb).r.f (hOW.up hb).d hf (by have := hm.f; omega)
    have HQ2 := keep (hq2 w1 (Below.refl _ _))
    have HEX := keep hex
    have HB1 := keep hb1
    have HOW := keep hOW
    have HBW := keep hBW
    have i1 : (i : Int) < (fs.N.length : Int) := by omega
    have i2 : (fs.N.length : Int) ≤ 1000 := by have := hm.n; omega
    clear hc hA hOW hBW hb1 hq2 hnm hy hex n0
    go_wp2_with fail
    refine HQ2.out.mono ?_
    rintro e w2 ⟨k, hA2, rfl, hb2⟩
    by_cases hc2 : cfAt_fi (cfi y) fs.F k = 0
    · rw [decide_eq_true hc2]
      obtain ⟨hk, hino⟩ := at_ino_yes hc2
      have hB2 := HBW.out.below hb2 HBW.out.lt
      have k1 : w2.cell? ⟨gd, 1, none⟩ = some (.slice A2 fs.F.length c2) := (hB2.cell 1).trans rfl
      have hA2e : A2 = some ⟨g, 0, none⟩ := by
        rcases HG.out with h | h
        · rw [h] at hk; simp at hk
        · obtain ⟨_, _, he, _⟩ := own_at HO.out.f h
          injection he with he _ _
      subst hA2e
      have HB2 := keep (bchain HB1.out hb2)
      have HINO := keep hino
      have i3 : (k : Int) < (fs.F.length : Int) := by omega
      have i4 : (fs.F.length : Int) ≤ 1000 := by have := hm.f; omega
      clear hc2 hA2 hB2 hb2 hino
      go_wp2_with fail
      go_ret2
      exact ⟨HB2.out, .inr ⟨i, k, hi, hk, HHI.out.1, by rw [HINO.out, HHI.out.2], rfl⟩⟩
    · exact absurd HEX.out (fun ⟨t, ht, he⟩ => at_ino_no hf hA2 hc2 t ht he)
  · rw [decide_eq_false hc]
    have HNO := keep (at_rm_no hs hA hc)
    have HB1 := keep hb1
    clear hc hA hb1
    go_wp2_with fail
    go_ret2
    exact ⟨HB1.out, .inl ⟨HNO.out, rfl⟩⟩
end Go.Proofs.YtgegmefnbkcdkaaDoor
namespace Go.Proofs.YtgegmefnbkcdkaaDoor
open Go.RowKit
/-- A change. -/
structure Ch where
  kind : Int
  name : ByteArray
  dst : ByteArray
  dv : Value
  data : List UInt8
  n : Int
def chV (c : Ch) : Array Value := #[.int .i64 c.kind, .string c.name, .string c.dst, c.dv, .int .i64 c.n]
/-- What a method does: the error and the directory. -/
def MetRes (B gd : Nat) (e : Int) (fs : FS) (w : World) (x : Ending) (w' : World) : Prop := x = .returned (.int .i64 e) ∧ Dir w' B gd fs ∧ Below B w w'
set_option maxHeartbeats 4000000 in
set_option maxRecDepth 100000 in
theorem remove_any (gd B : Nat) (fs : FS) (c : Ch) (w : World) (hB : B ≤ w.heap.size) (h : Dir w B gd fs) (hs : NSrt fs.N) (hm : Small fs) (hc : BR w c.dv c.data) :
    Calls Tryd.prog 85 #[.pointer (some ⟨gd, 0, none⟩), .agg (chV c)] w fun x w' => ∃ e fs', ((∀ t ∈ fs.N, t.nm ≠ c.name) ∧ e = 12 ∧ fs' = fs ∨ (∃ t ∈ fs.N, t.nm = c.name) ∧ e = 0 ∧ fs' = ⟨rmName fs.N c.name, fs.F, fs.O⟩) ∧ MetRes B gd e fs' w x w' := by
  obtain ⟨A, cc, hv, _, _⟩ := Sl.form hc
  obtain ⟨kind, name, dst, dv, data, n⟩ := c
  simp only at hv
  subst hv
  simp only [chV]
  clear hc
  obtain ⟨W, hW⟩ : ∃ W, W = w.alloc (.cells #[.int .i64 kind, .string name, .string dst, .slice A data.length cc, .int .i64 n] 39) := ⟨_, rfl⟩
  have hBx : Blk W w.heap.size 39 #[.int .i64 kind, .string name, .string dst, .slice A data.length cc, .int .i64 n] := hW ▸ Blk.new _ _ _
  have hb : Below w.heap.size w W := hW ▸ (Below.refl _ w).alloc (Nat.le_refl _) _
  have k1 : W.cell? ⟨w.heap.size, 1, none⟩ = some (.string name) := (hBx.cell 1).trans rfl
  have hD := h.up hb
  obtain ⟨_, vN, vF, vO, hBk, hO⟩ := id hD
  have hq := name_any gd name _ fs.N W ((hBk.cell 0).trans rfl) hO.r.n hs (by have := hm.n; omega)
  have HQ := keep hq
  have HD := keep hD
  have HB := keep hb
  have HBX := keep hBx
  clear hq hD hBk hO hb h hBx
  go_enter Tryd.func85, Tryd.ntmps85
  go_wp2_with fail
  rw [← hW]
  clear hW
  go_wp2_with fail
  refine HQ.out.mono ?_
  rintro e w1 ⟨i, hA, rfl, hb1⟩
  have hD1 := HD.out.up hb1
  have hB1 := bchain HB.out hb1
  by_cases hc : cfAt_nm (cfn name) fs.N i = 0
  · rw [decide_eq_true hc]
    obtain ⟨hi, hnm, _⟩ := at_rm_yes hs hc
    have hbx := HBX.out.below hb1 HBX.out.lt
    have q1 : w1.cell? ⟨w.heap.size, 1, none⟩ = some (.string name) := (hbx.cell 1).trans rfl
    have hun := unlink_any gd B fs name w1 (by have := hB1.size; omega) hD1 hs hm
    have HUN := keep hun
    have HB1 := keep hB1
    have HNM := keep hnm
    clear hc hA hbx hun hB1 hD1 hb1 hnm
    go_wp2_with fail
    refine HUN.out.mono ?_
    rintro e w2 ⟨rfl, hD2, hb2, _⟩
    have HD2 := keep hD2
    have HB2 := keep ((HB1.out.mono hB).trans hb2)
    clear hD2 hb2
    go_wp2_with fail
    go_ret
    exact ⟨0, _, .inr ⟨⟨_, List.getElem_mem hi, HNM.out⟩, rfl, rfl⟩, rfl, HD2.out, HB2.out⟩
  · rw [decide_eq_false hc]
    have HNO := keep (at_rm_no hs hA hc)
    have HD1 := keep hD1
    have HB1 := keep (hB1.mono hB)
    clear hc hA hB1 hD1 hb1
    go_wp2_with fail
    go_ret
    exact ⟨12, _, .inl ⟨HNO.out, rfl, rfl⟩, rfl, HD1.out, HB1.out⟩
end Go.Proofs.YtgegmefnbkcdkaaDoor
namespace Go.Proofs.YtgegmefnbkcdkaaDoor
open Go.RowKit
theorem setFileO {w : World} {B gd g k j : Nat} {vN vF vO u : Value} {fs : FS} {a : Fi} (hb : Blk w gd 74 #[vN, vF, vO]) (hO : FsO w B vN vF vO fs) (hg : vF.ownBlock = some g) (hk : k < fs.F.length) (hj : j < 5)
    (ha : fiV a = (fiV fs.F[k]).set j u) (hr : FiR w a) : Blk (w.setCell ⟨g, k * 5 + j, none⟩ u) gd 74 #[vN, vF, vO] ∧ FsO (w.setCell ⟨g, k * 5 + j, none⟩ u) B vN vF vO ⟨fs.N, fs.F.set k a, fs.O⟩ := by
  obtain ⟨N, F, O⟩ := fs
  have hgr : w.grownBy (w.setCell ⟨g, k * 5 + j, none⟩ u) vF.ownBlock := by
    rw [hg]; exact grownBy_set (World.grownBy.refl w _) _ _
  have hst := own_store hO.f hg (k * 5 + j) u
  have hrow : (fis F).set (k * 5 + j) u = fis (F.set k a) := rows_set fiV_len F k hk j hj u a ha
  rw [show fis (FS.mk N F O).F = fis F from rfl, hrow] at hst
  have hno := own_noU8 hO.f (by decide)
  have hf : (w.setCell ⟨g, k * 5 + j, none⟩ u).ownsRow B 60 5 vF (F.set k a).length (fis (F.set k a)) := by rw [List.length_set]; exact hst
  have hO' : FsO (w.setCell ⟨g, k * 5 + j, none⟩ u) B vN vF vO ⟨N, F.set k a, O⟩ := hO.putF hgr hf (fun t ht => by
    rcases List.mem_or_eq_of_mem_set ht with h | rfl
    · exact (hO.d t h).grown hgr hno
    · exact hr.grown hgr hno)
  have hne : gd ≠ g := fun e => own_off hO.f hb (by decide) (by rw [hg, e])
  exact ⟨hb.far (p := ⟨g, k * 5 + j, none⟩) hne u, hO'⟩
theorem Dir.setFile {w : World} {B gd g k j : Nat} {vN vF vO u : Value} {fs : FS} {a : Fi} (hBg : B ≤ gd) (hb : Blk w gd 74 #[vN, vF, vO]) (hO : FsO w B vN vF vO fs) (hg : vF.ownBlock = some g) (hk : k < fs.F.length) (hj : j < 5)
    (ha : fiV a = (fiV fs.F[k]).set j u) (hr : FiR w a) : Dir (w.setCell ⟨g, k * 5 + j, none⟩ u) B gd ⟨fs.N, fs.F.set k a, fs.O⟩ := by
  have h := setFileO hb hO hg hk hj ha hr
  exact ⟨hBg, vN, vF, vO, h.1, h.2⟩
end Go.Proofs.YtgegmefnbkcdkaaDoor
namespace Go.Proofs.YtgegmefnbkcdkaaDoor
open Go.RowKit
/-- What truncate does. -/
def TruncSt (fs : FS) (s : ByteArray) (e : Int) (fs' : FS) : Prop :=
  ((∀ t ∈ fs.N, t.nm ≠ s) ∧ e = 12 ∧ fs' = fs) ∨
  ∃ (i k : Nat) (hi : i < fs.N.length) (hk : k < fs.F.length), fs.N[i].nm = s ∧ fs.F[k].ino = fs.N[i].ino ∧
    ((fs.F[k].cp = true ∧ e = 13 ∧ fs' = fs) ∨ (fs.F[k].cp = false ∧ e = 0 ∧ fs' = ⟨fs.N, fs.F.set k ⟨fs.F[k].ino, .slice none 0 0, [], false, fs.F[k].wh, fs.F[k].left⟩, fs.O⟩))
set_option maxHeartbeats 4000000 in
set_option maxRecDepth 100000 in
theorem truncate_any (gd B : Nat) (fs : FS) (c : Ch) (w : World) (hB : B ≤ w.heap.size) (h : Dir w B gd fs) (hs : NSrt fs.N) (hf : FSrt fs.F) (hm : Small fs) (hall : ∀ n ∈ fs.N, ∃ t ∈ fs.F, t.ino = n.ino) (hc : BR w c.dv c.data) :
    Calls Tryd.prog 81 #[.pointer (some ⟨gd, 0, none⟩), .agg (chV c)] w fun x w' => ∃ e fs', TruncSt fs c.name e fs' ∧ MetRes B gd e fs' w x w' := by
  obtain ⟨A, cc, hv, _, _⟩ := Sl.form hc
  obtain ⟨kind, name, dst, dv, data, n⟩ := c
  simp only at hv
  subst hv
  simp only [chV]
  clear hc
  obtain ⟨W, hW⟩ : ∃ W, W = w.alloc (.cells #[.int .i64 kind, .string name, .string dst, .slice A data.length cc, .int .i64 n] 39) := ⟨_, rfl⟩
  have hBx : Blk W w.heap.size 39 #[.int .i64 kind, .string name, .string dst, .slice A data.length cc, .int .i64 n] := hW ▸ Blk.new _ _ _
  have hb : Below w.heap.size w W := hW ▸ (Below.refl _ w).alloc (Nat.le_refl _) _
  have k1 : W.cell? ⟨w.heap.size, 1, none⟩ = some (.string name) := (hBx.cell 1).trans rfl
  have hD := h.up hb
  obtain ⟨hBg, vN, vF, vO, hBk, hO⟩ := id hD
  obtain ⟨g, hg⟩ : ∃ g, fs.F = [] ∨ vF.ownBlock = some g := by
    rcases hO.f.2 with ⟨_, h0⟩ | ⟨g, cap, cur, h1, _⟩
    · exact ⟨0, .inl (List.eq_nil_of_length_eq_zero h0)⟩
    · exact ⟨g, .inr (by rw [h1]; rfl)⟩
  have hq := file_any gd B g fs name vN vF vO W hBk hO hg hs hf hm hall
  have HQ := keep hq
  have HD := keep hD
  have HB := keep hb
  have HBK := keep hBk
  have HO := keep hO
  have HG := keep hg
  clear hq hD hBk hO hb h hBx hall hg
  go_enter Tryd.func81, Tryd.ntmps81
  go_wp2_with fail
  rw [← hW]
  clear hW
  go_wp2_with fail
  refine HQ.out.mono ?_
  rintro e w1 ⟨hb1, hr⟩
  have hB1 := bchain HB.out hb1
  rcases hr with ⟨hno, rfl⟩ | ⟨i, k, hi, hk, hnm, hino, rfl⟩
  · have HNO := keep hno
    have HD1 := keep (HD.out.up hb1)
    have HB1 := keep (hB1.mono hB)
    clear hno hB1 hb1
    go_wp2_with fail
    go_ret
    exact ⟨12, _, .inl ⟨HNO.out, rfl, rfl⟩, rfl, HD1.out, HB1.out⟩
  · have hg' : vF.ownBlock = some g := by
      rcases HG.out with h | h
      · rw [h] at hk; simp at hk
      · exact h
    have hO1 := HO.out.up hb1
    have hBk1 := HBK.out.below hb1 HBK.out.lt
    obtain ⟨cap, cur, hvF, _⟩ := own_at hO1.f hg'
    have hof : w1.ownsRow B 60 5 (.slice (some ⟨g, 0, none⟩) fs.F.length cap) fs.F.length (fis fs.F) := hvF ▸ hO1.f
    obtain ⟨_, c1, c2, _, _⟩ := own_fiCells hof rfl hk
    have f1 : w1.frozen? ⟨g, k * 5 + 1, none⟩ = false := own_frozen hof rfl _
    have hgB := own_ge hO1.f g hg'
    cases hcp : fs.F[k].cp with
    | true =>
      rw [hcp] at c2
      have HCP := keep hcp
      have HD1 := keep (HD.out.up hb1)
      have HB1 := keep (hB1.mono hB)
      clear hcp hB1 hb1 hO1 hBk1 hof c1 f1
      go_wp2_with fail
      go_ret
      exact ⟨13, _, .inr ⟨i, k, hi, hk, hnm, hino, .inl ⟨HCP.out, rfl, rfl⟩⟩, rfl, HD1.out, HB1.out⟩
    | false =>
      rw [hcp] at c2
      have HCP := keep hcp
      have hset := Dir.setFile (j := 1) (u := .slice none 0 0) (a := ⟨fs.F[k].ino, .slice none 0 0, [], false, fs.F[k].wh, fs.F[k].left⟩) hBg hBk1 hO1 hg' hk (by omega) (by rw [← hcp]; rfl) ⟨Sl.nil _ _ _ _ _, by simp⟩
      have HSET := keep hset
      have HBE := keep ((hB1.mono hB).setCell (p := ⟨g, k * 5 + 1, none⟩) hgB (.slice none 0 0))
      obtain ⟨y, hy⟩ : ∃ y, fs.F[k].dv = y := ⟨_, rfl⟩
      rw [hy] at c1
      clear hcp hB1 hb1 hO1 hBk1 hof hset hy
      go_wp2_with fail
      go_ret
      exact ⟨0, _, .inr ⟨i, k, hi, hk, hnm, hino, .inr ⟨HCP.out, rfl, rfl⟩⟩, rfl, HSET.out, HBE.out⟩
end Go.Proofs.YtgegmefnbkcdkaaDoor
namespace Go.Proofs.YtgegmefnbkcdkaaDoor
open Go.RowKit
/-- A box of a type of its own, across what a directory's methods change. -/
abbrev HX (x : Nat) (W w' : World) : Prop := (∀ o, w'.cell? ⟨x, o, none⟩ = W.cell? ⟨x, o, none⟩) ∧ TyKeep W w'
theorem HX.of {x : Nat} {W w' : World} {cs : Array Value} {t : TypeId} (hb : Blk W x t cs) (h2 : t ≠ 74) (h3 : t ≠ 60) (h4 : t ≠ 57) (h : TyKeep W w') : HX x W w' :=
  ⟨fun o => by
    have hw : Blk w' x t cs := h.2 x cs t (0, 0) hb h2 h3 h4
    rw [hw.cell, hb.cell], h⟩
theorem HX.start (x : Nat) (W : World) : HX x W W.drew := ⟨fun _ => rfl, TyKeep.of_below (Below.refl _ W).drew⟩
theorem TyKeep.blk {x : Nat} {W w' : World} {cs : Array Value} {t : TypeId} (h : TyKeep W w') (hb : Blk W x t cs) (h2 : t ≠ 74) (h3 : t ≠ 60) (h4 : t ≠ 57) : Blk w' x t cs := h.2 x cs t (0, 0) hb h2 h3 h4
theorem putFile_len (F : List Fi) (k : Nat) (t : Fi) : (putFile F k t).length ≤ F.length + 1 := by
  unfold putFile
  rw [List.length_append, List.length_cons, List.length_take, List.length_drop]; omega
theorem Small.put {fs : FS} (h : Small fs) (h2 : fs.F.length ≤ 900) (k : Nat) (t : Fi) : Small ⟨fs.N, putFile fs.F k t, fs.O⟩ :=
  ⟨h.n, Nat.le_trans (putFile_len _ _ _) (by omega), h.o⟩
/-- What create does. -/
def CreateSt (fs : FS) (c : Ch) (e : Int) (fs' : FS) : Prop :=
  ((∃ t ∈ fs.N, t.nm = c.name) ∧ e = 11 ∧ fs' = fs) ∨ ((∀ t ∈ fs.N, t.nm ≠ c.name) ∧
    ((40 ≤ fs.N.length ∧ e = 4 ∧ fs' = fs) ∨ (fs.N.length < 40 ∧ 60000 < c.data.length ∧ e = 3 ∧ fs' = fs) ∨
     (fs.N.length < 40 ∧ c.data.length ≤ 60000 ∧ e = 0 ∧ ∃ (k : Nat) (dv : Value), Gap fs.F k ∧ fs' = ⟨putName fs.N ⟨c.name, (k : Int) + 1⟩, putFile fs.F k ⟨0, dv, c.data, false, true, 0⟩, fs.O⟩)))
theorem addFresh (gd B : Nat) (fs : FS) (dv : Value) (l : List UInt8) (w : World) (hB : B ≤ w.heap.size) (h : Dir w B gd fs) (ht : FiR w ⟨0, dv, l, false, true, 0⟩) (hm : Small fs) :
    Calls Tryd.prog 89 #[.pointer (some ⟨gd, 0, none⟩), .agg #[.int .i64 0, dv, .bool false, .bool true, .int .i64 0]] w (AddRes B gd fs ⟨0, dv, l, false, true, 0⟩ w) :=
  addFile_any gd B fs ⟨0, dv, l, false, true, 0⟩ w hB h ht hm
set_option maxHeartbeats 4000000 in
set_option maxRecDepth 100000 in
theorem create_any (gd B : Nat) (fs : FS) (c : Ch) (w : World) (hB : B ≤ w.heap.size) (h : Dir w B gd fs) (hs : NSrt fs.N) (hm : Small fs) (hm2 : fs.F.length ≤ 900) (hc : BR w c.dv c.data) (hcl : c.data.length ≤ 1000000) :
    Calls Tryd.prog 79 #[.pointer (some ⟨gd, 0, none⟩), .agg (chV c)] w fun x w' => ∃ e fs', CreateSt fs c e fs' ∧ MetRes B gd e fs' w x w' := by
  obtain ⟨A, cc, hv, _, _⟩ := Sl.form hc
  obtain ⟨kind, name, dst, dv, data, n⟩ := c
  simp only at hv hcl
  subst hv
  simp only [chV]
  obtain ⟨W, hW⟩ : ∃ W, W = w.alloc (.cells #[.int .i64 kind, .string name, .string dst, .slice A data.length cc, .int .i64 n] 39) := ⟨_, rfl⟩
  have hBx : Blk W w.heap.size 39 #[.int .i64 kind, .string name, .string dst, .slice A data.length cc, .int .i64 n] := hW ▸ Blk.new _ _ _
  have hb : Below w.heap.size w W := hW ▸ (Below.refl _ w).alloc (Nat.le_refl _) _
  have k1 : W.cell? ⟨w.heap.size, 1, none⟩ = some (.string name) := (hBx.cell 1).trans rfl
  have hD := h.up hb
  have hC := hc.up hb
  obtain ⟨_, vN, vF, vO, hBk, hO⟩ := id hD
  have hq := name_any gd name _ fs.N W ((hBk.cell 0).trans rfl) hO.r.n hs (by have := hm.n; omega)
  have HQ := keep hq
  have HD := keep hD
  have HB := keep hb
  have HBX := keep hBx
  have HC := keep hC
  have HM := keep hm
  clear hq hD hBk hO hb h hBx hC hc hm
  go_enter Tryd.func79, Tryd.ntmps79
  go_wp2_with fail
  rw [← hW]
  clear hW
  go_wp2_with fail
  refine HQ.out.mono ?_
  rintro e w1 ⟨i, hA, rfl, hb1⟩
  have hD1 := HD.out.up hb1
  have hB1 := bchain HB.out hb1
  have hC1 := HC.out.up hb1
  have hX1 := HBX.out.below hb1 HBX.out.lt
  obtain ⟨_, vN1, vF1, vO1, hBk1, hO1⟩ := id hD1
  obtain ⟨A1, c1, rfl, _⟩ := own_sl hO1.n
  by_cases hc : cfAt_nm (cfn name) fs.N i = 0
  · rw [decide_eq_true hc]
    obtain ⟨hi, hnm, _⟩ := at_rm_yes hs hc
    have HNM := keep hnm
    have HD1 := keep hD1
    have HB1 := keep (hB1.mono hB)
    clear hc hA hB1 hD1 hb1 hC1 hX1 hBk1 hO1 hnm
    go_wp2_with fail
    go_ret
    exact ⟨11, _, .inl ⟨⟨_, List.getElem_mem hi, HNM.out⟩, rfl, rfl⟩, rfl, HD1.out, HB1.out⟩
  · rw [decide_eq_false hc]
    have HNO := keep (at_rm_no hs hA hc)
    have q0 : w1.cell? ⟨gd, 0, none⟩ = some (.slice A1 fs.N.length c1) := (hBk1.cell 0).trans rfl
    by_cases h40 : 40 ≤ fs.N.length
    · have d1 : decide ((40 : Int) ≤ (fs.N.length : Int)) = true := decide_eq_true (by omega)
      have HD1 := keep hD1
      have HB1 := keep (hB1.mono hB)
      clear hc hA hB1 hD1 hb1 hC1 hX1 hBk1 hO1
      go_wp2_with fail
      go_ret
      exact ⟨4, _, .inr ⟨HNO.out, .inl ⟨h40, rfl, rfl⟩⟩, rfl, HD1.out, HB1.out⟩
    · have d1 : decide ((40 : Int) ≤ (fs.N.length : Int)) = false := decide_eq_false (by omega)
      have q3 : w1.cell? ⟨w.heap.size, 3, none⟩ = some (.slice A data.length cc) := (hX1.cell 3).trans rfl
      have q1 : w1.cell? ⟨w.heap.size, 1, none⟩ = some (.string name) := (hX1.cell 1).trans rfl
      by_cases h60 : 60000 < data.length
      · have d2 : decide ((60000 : Int) < (data.length : Int)) = true := decide_eq_true (by omega)
        have HD1 := keep hD1
        have HB1 := keep (hB1.mono hB)
        clear hc hA hB1 hD1 hb1 hC1 hX1 hBk1 hO1
        go_wp2_with fail
        go_ret
        exact ⟨3, _, .inr ⟨HNO.out, .inr (.inl ⟨by omega, h60, rfl, rfl⟩)⟩, rfl, HD1.out, HB1.out⟩
      · have d2 : decide ((60000 : Int) < (data.length : Int)) = false := decide_eq_false (by omega)
        have hfr := fresh_any _ data w1.drew (hC1.up (Below.refl _ w1).drew) hcl
        have HFR := keep hfr
        have HD1 := keep hD1
        have HX1 := keep hX1
        have HB1 := keep hB1
        clear hc hA hB1 hD1 hb1 hC1 hX1 hBk1 hO1 hfr
        go_wp2_with fail
        go_region_held3 (HX w.heap.size w1) (first | exact HX.start _ _ | assumption)
          (first
            | (go_at_call 90; (with_reducible refine HFR.out.mono ?_); rintro e w5 ⟨dv5, rfl, hF5, hb5⟩
               have hb5' : Below w1.heap.size w1 w5 := ⟨hb5.os, hb5.tape, hb5.output, hb5.size, hb5.block⟩
               have hT5 := TyKeep.of_below hb5'
               have hx5 := HX.of HX1.out (by decide) (by decide) (by decide) hT5
               have hD5 := HD1.out.up hb5'
               have hB5 : B ≤ w5.heap.size := by have := hb5'.size; have := HB1.out.size; omega)
            | (go_at_call 89; (with_reducible refine (addFresh gd B fs dv5 data _ hB5 hD5 hF5 HM.out).mono ?_); rintro e w6 ⟨k, hgap, rfl, hD6, hb6, ht6, _⟩
               have hT6 := hT5.trans ht6
               have hx6 := HX.of HX1.out (by decide) (by decide) (by decide) hT6
               have hB6 : B ≤ w6.heap.size := Nat.le_trans hB5 hb6.size
               have HLK := keep (link_any gd B _ name ((k : Int) + 1) w6 hB6 hD6 hs (HM.out.put hm2 _ _)))
            | (go_at_call 88; (with_reducible refine HLK.out.mono ?_); rintro e w7 ⟨rfl, hD7, hb7, ht7⟩
               have hT7 := hT6.trans ht7
               have hx7 := HX.of HX1.out (by decide) (by decide) (by decide) hT7)
            | fail)
        go_wp2_with fail
        go_ret
        exact ⟨0, _, .inr ⟨HNO.out, .inr (.inr ⟨by omega, Nat.not_lt.1 h60, rfl, k, dv5, hgap, rfl⟩)⟩, rfl, hD7, (((HB1.out.mono hB).trans (hb5'.mono (Nat.le_trans hB HB1.out.size))).trans hb6).trans hb7⟩
end Go.Proofs.YtgegmefnbkcdkaaDoor
