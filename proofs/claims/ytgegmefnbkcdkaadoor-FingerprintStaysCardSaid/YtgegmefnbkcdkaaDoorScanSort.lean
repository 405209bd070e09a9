/- Scans of files: how the program compares, files seen in memory. -/
import Derived.Test.YtgegmefnbkcdkaaDoorScanP
import Derived.Test.YtgegmefnbkcdkaaDoorSortK
import Derived.Test.YtgegmefnbkcdkaaDoorCmpInt
import Derived.Test.YtgegmefnbkcdkaaDoorOrI
namespace Go.Proofs.YtgegmefnbkcdkaaDoor
open Go.RowKit
instance : Inhabited Sn := ⟨⟨0, 0, 0⟩⟩
def cmpS (a b : Sn) : Int := orL [cmpI a.file b.file, cmpI b.size a.size, cmpI a.ino b.ino]
theorem orL_three (a b c : Int) : orL [a, b, c] = if a = 0 then (if b = 0 then c else b) else a := by
  unfold orL
  by_cases ha : a = 0
  · subst ha
    by_cases hb : b = 0
    · subst hb
      by_cases hc : c = 0
      · subst hc; rfl
      · simp [hc]
    · simp [hb]
  · simp [ha]
theorem cmpS_lt (a b : Sn) : Go.Proofs.ltOf cmpS a b = lessS a b := by
  unfold Go.Proofs.ltOf cmpS lessS
  rw [orL_three]
  unfold cmpI
  rw [Bool.eq_iff_iff]
  simp only [decide_eq_true_eq]
  (repeat' split) <;> omega
theorem swoS : Go.Sort.SWO (Go.Proofs.ltOf cmpS) where
  irrefl x := by rw [cmpS_lt]; exact lessS_irr x
  trans x y z h1 h2 := by rw [cmpS_lt] at *; exact lessS_trans h1 h2
  ntrans x y z h1 h2 := by rw [cmpS_lt] at *; exact lessS_ntrans h1 h2
theorem totS (x y : Sn) (h1 : Go.Proofs.ltOf cmpS x y = false) (h2 : Go.Proofs.ltOf cmpS y x = false) : x = y := by
  rw [cmpS_lt] at h1 h2
  exact lessS_tri h1 h2
theorem sort_kit (l : List Sn) : (l.mergeSort fun x y => !(Go.Proofs.ltOf cmpS) y x) = sortS l := by
  unfold sortS
  simp only [cmpS_lt]
def snV (s : Sn) : List Value := [.int .i64 s.file, .int .i64 s.ino, .int .i64 s.size]
def sns (L : List Sn) : List Value := L.flatMap snV
theorem snV_len (s : Sn) : (snV s).length = 3 := rfl
theorem snV_one (s : Sn) : ∀ u ∈ snV s, u.oneCell' = true := by
  intro u hu
  simp [snV] at hu
  rcases hu with rfl | rfl | rfl <;> rfl
theorem sns_append (A B : List Sn) : sns (A ++ B) = sns A ++ sns B := List.flatMap_append
theorem elSn : Elem Tryd.prog 41 45 3 24 (.agg #[.int .i64 0, .int .i64 0, .int .i64 0]) := ⟨Tryd.underlying41, by kernel_rfl, rfl, by decide⟩
theorem cmp_intR (a b x : Int) (w : World) (h : cmpI a b = x) : Calls Tryd.prog 21 #[.int .i64 a, .int .i64 b] w fun e w' => e = .returned (.int .i64 x) ∧ w' = w := (cmp_int a b w).mono fun _ _ hh => ⟨by rw [← h]; exact hh.1, hh.2.symm⟩
theorem push_three (a : Array Obj) (A B X : Obj) : ((a.push A).push B).push X = a ++ #[A, B, X] := Array.ext' (by simp)
theorem grow_three3 (w : World) (A B X : Obj) : (((w.alloc A).alloc B).drew).alloc X = Go.Sort.grow (w.drewN 1) #[A, B, X] :=
  congrArg (fun h => ({ w.drew with heap := h } : World)) (push_three w.heap A B X)
set_option maxHeartbeats 4000000 in
set_option maxRecDepth 100000 in
/-- The program's comparison. -/
theorem seen_cmp (s t : Sn) (w : World) : Calls Tryd.prog 19 #[.agg (snV s).toArray, .agg (snV t).toArray] w fun e w' => e = .returned (.int .i64 (cmpS s t)) ∧ ∃ q os', w' = Go.Sort.grow (w.drewN q) os' := by
  obtain ⟨f1, i1, z1⟩ := s
  obtain ⟨f2, i2, z2⟩ := t
  obtain ⟨x, hx⟩ : ∃ x, cmpI f1 f2 = x := ⟨_, rfl⟩
  obtain ⟨y, hy⟩ : ∃ y, cmpI z2 z1 = y := ⟨_, rfl⟩
  obtain ⟨z, hz⟩ : ∃ z, cmpI i1 i2 = z := ⟨_, rfl⟩
  have hr : cmpS ⟨f1, i1, z1⟩ ⟨f2, i2, z2⟩ = orL [x, y, z] := by unfold cmpS; simp only [hx, hy, hz]
  rw [hr]
  have HX := keep hx
  have HY := keep hy
  have HZ := keep hz
  clear hr hx hy hz
  simp only [snV]
  obtain ⟨w1, hw1⟩ : ∃ w1, w1 = (w.alloc (.cells #[.int .i64 f1, .int .i64 i1, .int .i64 z1] 45)).alloc (.cells #[.int .i64 f2, .int .i64 i2, .int .i64 z2] 45) := ⟨_, rfl⟩
  have hA : Blk w1 w.heap.size 45 #[.int .i64 f1, .int .i64 i1, .int .i64 z1] := hw1 ▸ (Blk.new w _ _).alloc _
  have hB : Blk w1 (w.heap.size + 1) 45 #[.int .i64 f2, .int .i64 i2, .int .i64 z2] := hw1 ▸ Blk.new_at (by simp)
  have a0 : w1.drew.cell? ⟨w.heap.size, 0, none⟩ = some (.int .i64 f1) := (hA.cell 0).trans rfl
  have a1 : w1.drew.cell? ⟨w.heap.size, 1, none⟩ = some (.int .i64 i1) := (hA.cell 1).trans rfl
  have a2 : w1.drew.cell? ⟨w.heap.size, 2, none⟩ = some (.int .i64 z1) := (hA.cell 2).trans rfl
  have b0 : w1.drew.cell? ⟨w.heap.size + 1, 0, none⟩ = some (.int .i64 f2) := (hB.cell 0).trans rfl
  have b1 : w1.drew.cell? ⟨w.heap.size + 1, 1, none⟩ = some (.int .i64 i2) := (hB.cell 1).trans rfl
  have b2 : w1.drew.cell? ⟨w.heap.size + 1, 2, none⟩ = some (.int .i64 z2) := (hB.cell 2).trans rfl
  have HQ1 := keep (cmp_intR _ _ x w1.drew HX.out)
  have HQ2 := keep (cmp_intR _ _ y w1.drew HY.out)
  have HQ3 := keep (cmp_intR _ _ z w1.drew HZ.out)
  have HW := keep hw1
  clear hw1 hA hB
  go_enter Tryd.func19, Tryd.ntmps19
  go_wp2_with fail
  rw [← HW.out]
  refine wp_region_still_tail 15 (by kernel_rfl) (by kernel_rfl) ?_
  simp only [List.take_succ_cons, List.take_zero, List.drop_succ_cons, List.drop_zero]
  iterate 4 still_step
  still_call HQ1.out
  iterate 4 still_step
  still_call HQ2.out
  iterate 4 still_step
  still_call HQ3.out
  refine wpStill_nil ?_
  change wpList _ _ _ _ _ w1.drew
  have hsl : Sl (w1.drew.alloc (.cells #[.int .i64 x, .int .i64 y, .int .i64 z] 3)) (fun b => b = w1.heap.size) 1 (.slice (some ⟨w1.heap.size, 0, none⟩) 3 3) 3 ([x, y, z].map (.int .i64)) :=
    ⟨rfl, _, _, rfl, Nat.le_refl _, fun _ => ⟨_, 0, rfl, rfl, fun j u hu => by rw [Nat.zero_add]; exact (Blk.cell (Blk.new w1.drew 3 #[.int .i64 x, .int .i64 y, .int .i64 z]) j).trans (by simpa using hu)⟩⟩
  have HSL := keep hsl
  clear hsl HQ1 HQ2 HQ3 a0 a1 a2 b0 b1 b2
  go_wp2_with fail
  refine (or_int _ [x, y, z] _ _ HSL.out (by simp)).mono ?_
  rintro e w2 ⟨rfl, rfl⟩
  go_wp2_with fail
  go_ret
  refine ⟨rfl, 1, #[.cells #[.int .i64 f1, .int .i64 i1, .int .i64 z1] 45 (0, 0), .cells #[.int .i64 f2, .int .i64 i2, .int .i64 z2] 45 (0, 0), .cells #[.int .i64 x, .int .i64 y, .int .i64 z] 3 (0, 0)], ?_⟩
  rw [HW.out]
  exact grow_three3 w _ _ _
theorem seen_lays (blk off size : Nat) (w : World) : Go.Proofs.CmpLays Tryd.prog 19 #[] snV 3 cmpS blk off size w := fun _ _ _ _ x y => seen_cmp x y _
end Go.Proofs.YtgegmefnbkcdkaaDoor
