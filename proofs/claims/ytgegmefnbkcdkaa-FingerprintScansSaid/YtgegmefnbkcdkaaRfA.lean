/- The reference's directory: at, named, held, Lookup, FileName, free. -/
import Derived.Test.YtgegmefnbkcdkaaFsHold
namespace Go.Proofs.Ytgegmefnbkcdkaa
open Go.RowKit
/-- The place of the file with an inode, -1 if there is none. -/
def AtRes (F : List Fi) (n : Int) (r : Int) : Prop := (r = -1 ∧ ∀ t ∈ F, t.ino ≠ n) ∨ ∃ k : Nat, ∃ hk : k < F.length, r = k ∧ F[k].ino = n ∧ ∀ j, (hj : j < k) → F[j].ino ≠ n
def NoIno (F : List Fi) (n : Int) (k : Nat) : Prop := ∀ j, j < k → (h : j < F.length) → F[j].ino ≠ n
def NoNm (N : List Nm) (p : Nm → Bool) (k : Nat) : Prop := ∀ j, j < k → (h : j < N.length) → p N[j] = false
def NoO (O : List Int) (n : Int) (k : Nat) : Prop := ∀ j, j < k → (h : j < O.length) → O[j] ≠ n
theorem NoIno.all {F : List Fi} {n : Int} (h : NoIno F n F.length) : ∀ t ∈ F, t.ino ≠ n := fun t ht => by
  obtain ⟨j, hj, rfl⟩ := List.getElem_of_mem ht
  exact h j hj hj
theorem NoIno.step {F : List Fi} {n : Int} {k : Nat} (h : NoIno F n k) (hk : (h : k < F.length) → F[k].ino ≠ n) : NoIno F n (k + 1) := fun j hj hl => by
  by_cases e : j = k
  · subst e; exact hk hl
  · exact h j (by omega) hl
theorem NoNm.step {N : List Nm} {p : Nm → Bool} {k : Nat} (h : NoNm N p k) (hk : (h : k < N.length) → p N[k] = false) : NoNm N p (k + 1) := fun j hj hl => by
  by_cases e : j = k
  · subst e; exact hk hl
  · exact h j (by omega) hl
theorem NoNm.any {N : List Nm} {p : Nm → Bool} (h : NoNm N p N.length) : N.any p = false := by
  rw [List.any_eq_false]
  intro t ht
  obtain ⟨j, hj, rfl⟩ := List.getElem_of_mem ht
  rw [h j hj hj]; simp
theorem NoNm.find {N : List Nm} {p : Nm → Bool} (h : NoNm N p N.length) : N.find? p = none := by
  rw [List.find?_eq_none]
  intro t ht
  obtain ⟨j, hj, rfl⟩ := List.getElem_of_mem ht
  rw [h j hj hj]; simp
theorem NoNm.hit {N : List Nm} {p : Nm → Bool} {k : Nat} (h : NoNm N p k) (hk : k < N.length) (hp : p N[k] = true) : N.find? p = some N[k] := by
  rw [List.find?_eq_some_iff_getElem]
  exact ⟨hp, k, hk, rfl, fun j hj => by rw [h j hj (by omega)]; rfl⟩
theorem NoO.step {O : List Int} {n : Int} {k : Nat} (h : NoO O n k) (hk : (h : k < O.length) → O[k] ≠ n) : NoO O n (k + 1) := fun j hj hl => by
  by_cases e : j = k
  · subst e; exact hk hl
  · exact h j (by omega) hl
theorem NoO.all {O : List Int} {n : Int} (h : NoO O n O.length) : decide (n ∈ O) = false := by
  rw [decide_eq_false_iff_not]
  intro e
  obtain ⟨j, hj, e⟩ := List.getElem_of_mem e
  exact h j hj hj e
set_option maxHeartbeats 4000000 in
set_option maxRecDepth 100000 in
theorem refAt_any (vN vF vO : Value) (fs : FS) (n : Int) (w : World) (h : FsT w vN vF vO fs) (hm : fs.F.length ≤ 1000000) :
    Calls Try.prog 33 #[.agg #[vN, vF, vO], .int .i64 n] w fun x w' => ∃ r : Int, x = .returned (.int .i64 r) ∧ AtRes fs.F n r ∧ Below w.heap.size w w' := by
  obtain ⟨A1, c1, rfl, _, _⟩ := h.n.form
  obtain ⟨A2, c2, rfl, _, _⟩ := h.f.form
  obtain ⟨A3, c3, rfl, _, _⟩ := h.o.form
  obtain ⟨W, hW⟩ : ∃ W, W = w.alloc (.cells #[.slice A1 fs.N.length c1, .slice A2 fs.F.length c2, .slice A3 fs.O.length c3] 40) := ⟨_, rfl⟩
  have hb : Below w.heap.size w W := hW ▸ (Below.refl _ w).alloc (Nat.le_refl _) _
  have hF : Blk W w.heap.size 40 #[.slice A1 fs.N.length c1, .slice A2 fs.F.length c2, .slice A3 fs.O.length c3] := hW ▸ Blk.new w _ _
  have hT := h.up hb
  obtain ⟨f0, f1, f2⟩ := hF.cell3
  have HT := keep hT
  have HB := keep hb
  clear h hb hF hT
  go_enter Try.func33, Try.ntmps33
  go_wp2_with fail
  rw [← hW]
  clear hW
  go_loop [5] (fun i => ∃ k : Nat, k ≤ fs.F.length ∧ i = .int .i64 k ∧ Hid (NoIno fs.F n k)) (fun i => fs.F.length - (intOf i).toNat)
  case atStart => exact ⟨0, Nat.zero_le _, rfl, keep (fun j hj => absurd hj (Nat.not_lt_zero _))⟩
  case round =>
    obtain ⟨k, hk, rfl, hI⟩ := hrel
    by_cases hlt : k < fs.F.length
    · obtain ⟨b, o, rfl, _, n0, _⟩ := fi_cells HT.out.f hlt
      have i0 : (0 : Int) ≤ (k : Int) := by omega
      have i1 : (k : Int) < (fs.F.length : Int) := by omega
      obtain ⟨y, hy⟩ : ∃ y, fs.F[k].ino = y := ⟨_, rfl⟩
      have HY := keep hy
      rw [hy] at n0
      clear hy
      by_cases he : y = n
      · have e1 : (y == n) = true := by simpa using he
        have HE := keep he
        clear he
        go_wp2_with fail
        go_ret
        exact ⟨_, rfl, .inr ⟨k, hlt, rfl, HY.out.trans HE.out, fun j hj => hI.out j hj (by omega)⟩, HB.out⟩
      · have e1 : (y == n) = false := by simpa using he
        have HN := keep (hI.out.step (fun _ => HY.out ▸ he))
        clear he
        go_wp2_with fail
        go_round
        case rel => exact ⟨k + 1, by omega, by go_num, HN⟩
        case measure => simp [intOf]; omega
    · obtain rfl : k = fs.F.length := by omega
      go_wp2_with fail
      go_ret
      exact ⟨_, rfl, .inl ⟨rfl, hI.out.all⟩, HB.out⟩
set_option maxHeartbeats 4000000 in
set_option maxRecDepth 100000 in
theorem refNamed_any (vN vF vO : Value) (fs : FS) (n : Int) (w : World) (h : FsT w vN vF vO fs) (hm : fs.N.length ≤ 1000000) :
    Calls Try.prog 53 #[.agg #[vN, vF, vO], .int .i64 n] w fun x w' => x = .returned (.bool (fs.N.any fun t => t.ino == n)) ∧ Below w.heap.size w w' := by
  obtain ⟨A1, c1, rfl, _, _⟩ := h.n.form
  obtain ⟨A2, c2, rfl, _, _⟩ := h.f.form
  obtain ⟨A3, c3, rfl, _, _⟩ := h.o.form
  obtain ⟨W, hW⟩ : ∃ W, W = w.alloc (.cells #[.slice A1 fs.N.length c1, .slice A2 fs.F.length c2, .slice A3 fs.O.length c3] 40) := ⟨_, rfl⟩
  have hb : Below w.heap.size w W := hW ▸ (Below.refl _ w).alloc (Nat.le_refl _) _
  have hF : Blk W w.heap.size 40 #[.slice A1 fs.N.length c1, .slice A2 fs.F.length c2, .slice A3 fs.O.length c3] := hW ▸ Blk.new w _ _
  have hT := h.up hb
  obtain ⟨f0, f1, f2⟩ := hF.cell3
  have HT := keep hT
  have HB := keep hb
  clear h hb hF hT
  go_enter Try.func53, Try.ntmps53
  go_wp2_with fail
  rw [← hW]
  clear hW
  go_loop [5] (fun i => ∃ k : Nat, k ≤ fs.N.length ∧ i = .int .i64 k ∧ Hid (NoNm fs.N (fun t => t.ino == n) k)) (fun i => fs.N.length - (intOf i).toNat)
  case atStart => exact ⟨0, Nat.zero_le _, rfl, keep (fun j hj => absurd hj (Nat.not_lt_zero _))⟩
  case round =>
    obtain ⟨k, hk, rfl, hI⟩ := hrel
    by_cases hlt : k < fs.N.length
    · obtain ⟨b, o, rfl, _, _, n0⟩ := nm_cells HT.out.n hlt
      have i0 : (0 : Int) ≤ (k : Int) := by omega
      have i1 : (k : Int) < (fs.N.length : Int) := by omega
      obtain ⟨y, hy⟩ : ∃ y, fs.N[k].ino = y := ⟨_, rfl⟩
      have HY := keep hy
      rw [hy] at n0
      clear hy
      by_cases he : y = n
      · have e1 : (y == n) = true := by simpa using he
        have HE := keep he
        clear he
        go_wp2_with fail
        go_ret
        refine ⟨?_, HB.out⟩
        show Ending.returned (.bool true) = _
        rw [List.any_eq_true.2 ⟨fs.N[k], List.getElem_mem _, by rw [HY.out, HE.out]; simp⟩]
      · have e1 : (y == n) = false := by simpa using he
        have HN := keep (hI.out.step (fun _ => by rw [HY.out]; exact e1))
        clear he
        go_wp2_with fail
        go_round
        case rel => exact ⟨k + 1, by omega, by go_num, HN⟩
        case measure => simp [intOf]; omega
    · obtain rfl : k = fs.N.length := by omega
      go_wp2_with fail
      go_ret
      refine ⟨?_, HB.out⟩
      show Ending.returned (.bool false) = _
      rw [hI.out.any]
set_option maxHeartbeats 4000000 in
set_option maxRecDepth 100000 in
theorem refHeld_any (vN vF vO : Value) (fs : FS) (n : Int) (w : World) (h : FsT w vN vF vO fs) (hm : fs.O.length ≤ 1000000) :
    Calls Try.prog 54 #[.agg #[vN, vF, vO], .int .i64 n] w fun x w' => x = .returned (.bool (decide (n ∈ fs.O))) ∧ Below w.heap.size w w' := by
  obtain ⟨A1, c1, rfl, _, _⟩ := h.n.form
  obtain ⟨A2, c2, rfl, _, _⟩ := h.f.form
  obtain ⟨A3, c3, rfl, _, _⟩ := h.o.form
  obtain ⟨W, hW⟩ : ∃ W, W = w.alloc (.cells #[.slice A1 fs.N.length c1, .slice A2 fs.F.length c2, .slice A3 fs.O.length c3] 40) := ⟨_, rfl⟩
  have hb : Below w.heap.size w W := hW ▸ (Below.refl _ w).alloc (Nat.le_refl _) _
  have hF : Blk W w.heap.size 40 #[.slice A1 fs.N.length c1, .slice A2 fs.F.length c2, .slice A3 fs.O.length c3] := hW ▸ Blk.new w _ _
  have hT := h.up hb
  obtain ⟨f0, f1, f2⟩ := hF.cell3
  have HT := keep hT
  have HB := keep hb
  clear h hb hF hT
  go_enter Try.func54, Try.ntmps54
  go_wp2_with fail
  rw [← hW]
  clear hW
  go_loop [5] (fun i => ∃ k : Nat, k ≤ fs.O.length ∧ i = .int .i64 k ∧ Hid (NoO fs.O n k)) (fun i => fs.O.length - (intOf i).toNat)
  case atStart => exact ⟨0, Nat.zero_le _, rfl, keep (fun j hj => absurd hj (Nat.not_lt_zero _))⟩
  case round =>
    obtain ⟨k, hk, rfl, hI⟩ := hrel
    by_cases hlt : k < fs.O.length
    · obtain ⟨b, o, u, rfl, _, hu, n0⟩ := HT.out.o.at_ hlt
      have i0 : (0 : Int) ≤ (k : Int) := by omega
      have i1 : (k : Int) < (fs.O.length : Int) := by omega
      obtain ⟨y, hy⟩ : ∃ y, fs.O[k] = y := ⟨_, rfl⟩
      have HY := keep hy
      obtain rfl : u = .int .i64 y := by
        rw [ints, List.getElem?_map, List.getElem?_eq_getElem hlt, hy] at hu
        exact (Option.some.inj hu).symm
      clear hy hu
      by_cases he : y = n
      · have e1 : (y == n) = true := by simpa using he
        have HE := keep he
        clear he
        go_wp2_with fail
        go_ret
        refine ⟨?_, HB.out⟩
        show Ending.returned (.bool true) = _
        rw [decide_eq_true (show n ∈ fs.O from HE.out ▸ HY.out ▸ List.getElem_mem _)]
      · have e1 : (y == n) = false := by simpa using he
        have HN := keep (hI.out.step (fun _ => HY.out ▸ he))
        clear he
        go_wp2_with fail
        go_round
        case rel => exact ⟨k + 1, by omega, by go_num, HN⟩
        case measure => simp [intOf]; omega
    · obtain rfl : k = fs.O.length := by omega
      go_wp2_with fail
      go_ret
      refine ⟨?_, HB.out⟩
      show Ending.returned (.bool false) = _
      rw [hI.out.all]
set_option maxHeartbeats 4000000 in
set_option maxRecDepth 100000 in
theorem refLookup_any (vN vF vO : Value) (fs : FS) (s : ByteArray) (w : World) (h : FsT w vN vF vO fs) (hm : fs.N.length ≤ 1000000) :
    Calls Try.prog 32 #[.agg #[vN, vF, vO], .string s] w fun x w' => x = .returned (.tuple #[.int .i64 ((lookP fs.N s).getD 0), .bool (hasP fs.N s)]) ∧ Below w.heap.size w w' := by
  obtain ⟨A1, c1, rfl, _, _⟩ := h.n.form
  obtain ⟨A2, c2, rfl, _, _⟩ := h.f.form
  obtain ⟨A3, c3, rfl, _, _⟩ := h.o.form
  obtain ⟨W, hW⟩ : ∃ W, W = w.alloc (.cells #[.slice A1 fs.N.length c1, .slice A2 fs.F.length c2, .slice A3 fs.O.length c3] 40) := ⟨_, rfl⟩
  have hb : Below w.heap.size w W := hW ▸ (Below.refl _ w).alloc (Nat.le_refl _) _
  have hF : Blk W w.heap.size 40 #[.slice A1 fs.N.length c1, .slice A2 fs.F.length c2, .slice A3 fs.O.length c3] := hW ▸ Blk.new w _ _
  have hT := h.up hb
  obtain ⟨f0, f1, f2⟩ := hF.cell3
  have HT := keep hT
  have HB := keep hb
  clear h hb hF hT
  go_enter Try.func32, Try.ntmps32
  go_wp2_with fail
  rw [← hW]
  clear hW
  go_loop [6] (fun i => ∃ k : Nat, k ≤ fs.N.length ∧ i = .int .i64 k ∧ Hid (NoNm fs.N (fun t => decide (t.nm = s)) k)) (fun i => fs.N.length - (intOf i).toNat)
  case atStart => exact ⟨0, Nat.zero_le _, rfl, keep (fun j hj => absurd hj (Nat.not_lt_zero _))⟩
  case round =>
    obtain ⟨k, hk, rfl, hI⟩ := hrel
    by_cases hlt : k < fs.N.length
    · obtain ⟨b, o, rfl, _, n0, n1⟩ := nm_cells HT.out.n hlt
      have i0 : (0 : Int) ≤ (k : Int) := by omega
      have i1 : (k : Int) < (fs.N.length : Int) := by omega
      obtain ⟨y, hy⟩ : ∃ y, fs.N[k].nm = y := ⟨_, rfl⟩
      obtain ⟨z, hz⟩ : ∃ z, fs.N[k].ino = z := ⟨_, rfl⟩
      have HY := keep hy
      have HZ := keep hz
      rw [hy] at n0
      rw [hz] at n1
      clear hy hz
      by_cases he : y = s
      · have e1 : (y.toList == s.toList) = true := by rw [he]; simp
        have HF := keep (hI.out.hit hlt (by rw [HY.out, he]; simp))
        clear he
        go_wp2_with fail
        go_ret2
        refine ⟨?_, HB.out⟩
        rw [show hasP fs.N s = true by unfold hasP lookP; rw [HF.out]; rfl, show lookP fs.N s = some z by unfold lookP; rw [HF.out, ← HZ.out]; rfl]
        rfl
      · have e1 : (y.toList == s.toList) = false := beq_eq_false_iff_ne.2 (fun e => he (toList_inj e))
        have HN := keep (hI.out.step (fun _ => by rw [HY.out]; exact decide_eq_false he))
        clear he
        go_wp2_with fail
        go_round
        case rel => exact ⟨k + 1, by omega, by go_num, HN⟩
        case measure => simp [intOf]; omega
    · obtain rfl : k = fs.N.length := by omega
      go_wp2_with fail
      go_ret2
      refine ⟨?_, HB.out⟩
      have hF := hI.out.find
      rw [show hasP fs.N s = false by unfold hasP lookP; rw [hF]; rfl, show lookP fs.N s = none by unfold lookP; rw [hF]; rfl]
      rfl
end Go.Proofs.Ytgegmefnbkcdkaa
