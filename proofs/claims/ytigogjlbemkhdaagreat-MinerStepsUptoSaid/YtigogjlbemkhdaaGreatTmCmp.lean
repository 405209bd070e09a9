/- template.compare: its world, exactly (for slices.SortFunc). -/
import Derived.Test.YtigogjlbemkhdaaGreatTmSpl
namespace Go.Proofs.YtigogjlbemkhdaaGreat
open Go.RowKit
variable {oB : Nat}
def cmpO (t u : Tm) : Int := orL [cmpI t.tk.length u.tk.length, cmpL (strs t.tk) (strs u.tk), cmpI t.ct u.ct]
theorem tpush_three (a : Array Obj) (A B X : Obj) : ((a.push A).push B).push X = a ++ #[A, B, X] := Array.ext' (by simp)
theorem tgrow_three (w : World) (A B X : Obj) : (((w.alloc A).alloc B).drew).alloc X = Go.Sort.grow (w.drewN 1) #[A, B, X] :=
  congrArg (fun h => ({ w.drew with heap := h } : World)) (tpush_three w.heap A B X)
set_option maxHeartbeats 4000000 in
set_option maxRecDepth 100000 in
theorem compare_any (t u : Tm) (w : World) (h1 : TkR oB w t) (h2 : TkR oB w u) :
    Calls Tryz.prog 58 #[.agg (tmV t).toArray, .agg (tmV u).toArray] w fun e w' => e = .returned (.int .i64 (cmpO t u)) ∧ ∃ q os', w' = Go.Sort.grow (w.drewN q) os' := by
  obtain ⟨A, n, c, hv⟩ := h1.form
  obtain ⟨tv, tk, ct⟩ := t
  simp only at hv
  subst hv
  obtain ⟨h1, htl⟩ := h1
  simp only at h1 htl
  replace h1 := h1.str
  have hn : n = tk.length := by obtain ⟨_, _, _, hv, _⟩ := h1; injection hv
  subst hn
  obtain ⟨A2, n2, c2, hv⟩ := h2.form
  obtain ⟨uv, uk, uc⟩ := u
  simp only at hv
  subst hv
  obtain ⟨h2, hul⟩ := h2
  simp only at h2 hul
  replace h2 := h2.str
  have hn : n2 = uk.length := by obtain ⟨_, _, _, hv, _⟩ := h2; injection hv
  subst hn
  obtain ⟨x, hx⟩ : ∃ x, cmpI tk.length uk.length = x := ⟨_, rfl⟩
  obtain ⟨y, hy⟩ : ∃ y, cmpL (strs tk) (strs uk) = y := ⟨_, rfl⟩
  obtain ⟨z, hz⟩ : ∃ z, cmpI ct uc = z := ⟨_, rfl⟩
  have hr : cmpO ⟨.slice A tk.length c, tk, ct⟩ ⟨.slice A2 uk.length c2, uk, uc⟩ = orL [x, y, z] := by unfold cmpO; simp only [hx, hy, hz]
  rw [hr]
  simp only [tmV]
  obtain ⟨w1, hw1⟩ : ∃ w1, w1 = (w.alloc (.cells #[.slice A tk.length c, .int .i64 ct] 32)).alloc (.cells #[.slice A2 uk.length c2, .int .i64 uc] 32) := ⟨_, rfl⟩
  have hA : Blk w1 w.heap.size 32 #[.slice A tk.length c, .int .i64 ct] := hw1 ▸ (Blk.new w _ _).alloc _
  have hB : Blk w1 (w.heap.size + 1) 32 #[.slice A2 uk.length c2, .int .i64 uc] := by
    have h := Blk.new (w.alloc (.cells #[.slice A tk.length c, .int .i64 ct] 32)) 32 #[.slice A2 uk.length c2, .int .i64 uc]
    rw [← hw1] at h
    rwa [show (w.alloc (.cells #[.slice A tk.length c, .int .i64 ct] 32)).heap.size = w.heap.size + 1 by simp] at h
  have hb1 : Below w.heap.size w w1 := by
    rw [hw1]
    exact ((Below.refl _ w).alloc (Nat.le_refl _) _).alloc (by simp) _
  have a0 : w1.drew.cell? ⟨w.heap.size, 0, none⟩ = some (.slice A tk.length c) := (hA.cell 0).trans rfl
  have a1 : w1.drew.cell? ⟨w.heap.size, 1, none⟩ = some (.int .i64 ct) := (hA.cell 1).trans rfl
  have b0 : w1.drew.cell? ⟨w.heap.size + 1, 0, none⟩ = some (.slice A2 uk.length c2) := (hB.cell 0).trans rfl
  have b1 : w1.drew.cell? ⟨w.heap.size + 1, 1, none⟩ = some (.int .i64 uc) := (hB.cell 1).trans rfl
  have hq2 := cmp_strs _ _ tk uk w1.drew _ _ (h1.upW hb1.drew) (h2.upW hb1.drew) htl
  rw [hy] at hq2
  have HQ1 := keep (cmp_intQ _ _ x w1.drew hx)
  have HQ2 := keep hq2
  have HQ3 := keep (cmp_intQ _ _ z w1.drew hz)
  have HW := keep hw1
  clear hw1 hA hB hr hx hy hz h1 h2 hq2 hb1
  go_enter Tryz.func58, Tryz.ntmps58
  go_wp2_with fail
  rw [← HW.out]
  refine wp_region_still_tail 17 (by kernel_rfl) (by kernel_rfl) ?_
  simp only [List.take_succ_cons, List.take_zero, List.drop_succ_cons, List.drop_zero]
  iterate 6 still_step
  still_call HQ1.out
  iterate 4 still_step
  still_call HQ2.out
  iterate 4 still_step
  still_call HQ3.out
  refine wpStill_nil ?_
  change wpList _ _ _ _ _ w1.drew
  have hsl : Sl (w1.drew.alloc (.cells #[.int .i64 x, .int .i64 y, .int .i64 z] 3)) (fun b => b = w1.heap.size) 1 (.slice (some ⟨w1.heap.size, 0, none⟩) 3 3) 3 ([x, y, z].map (.int .i64)) :=
    ⟨rfl, _, _, rfl, Nat.le_refl _, fun _ => ⟨_, 0, rfl, rfl, fun j u hu => by rw [Nat.zero_add]; exact (Blk.cell (Blk.new w1.drew 3 #[.int .i64 x, .int .i64 y, .int .i64 z]) j).trans (by simpa using hu)⟩⟩
  have HSL := keep hsl
  clear hsl HQ1 HQ2 HQ3 a0 a1 b0 b1
  go_wp2_with fail
  refine (or_int _ [x, y, z] _ _ HSL.out (by simp)).mono ?_
  rintro e w2 ⟨rfl, rfl⟩
  go_wp2_with fail
  go_ret
  refine ⟨rfl, 1, #[.cells #[.slice A tk.length c, .int .i64 ct] 32 (0, 0), .cells #[.slice A2 uk.length c2, .int .i64 uc] 32 (0, 0), .cells #[.int .i64 x, .int .i64 y, .int .i64 z] 3 (0, 0)], ?_⟩
  rw [HW.out]
  exact tgrow_three w _ _ _
end Go.Proofs.YtigogjlbemkhdaaGreat
