/- Contracts of the drawing package's Time and Int; plain laws of tallies. -/
import Derived.Test.YtkjhnipjhefndaaDraw
import Derived.Test.YtkjhnipjhefndaaRefTal
namespace Go.Proofs.Ytkjhnipjhefndaa
open Go.RowKit

def NumRes (w : World) (gc : Nat) (lo hi : Int) (e : Ending) (w' : World) : Prop := ∃ r : Int, e = .returned (.int .i64 r) ∧ lo ≤ r ∧ r ≤ hi ∧ Codes w' gc ∧ w.grownBy w' (some gc)
theorem drawTime (gc : Nat) (w : World) (h : Codes w gc) : Calls Try.prog 32 #[.pointer (some ⟨gc, 0, none⟩)] w (NumRes w gc 0 253402300799999) := by
  go_enter Try.func32, Try.ntmps32
  go_wp2_with fail
  refine (drawNext gc _ _ h (by omega) (by omega)).mono ?_
  rintro e w1 ⟨r, rfl, r0, r1, _, hC1, hg1⟩
  have r2 := r1 (by omega)
  clear r1
  by_cases h0 : r = 0
  · have t0 : (r == 0) = true := by simpa using h0
    clear h0
    go_wp2_with fail
    refine (drawNext gc _ _ hC1 (by omega) (by omega)).mono ?_
    rintro e w2 ⟨x, rfl, x0, x1, _, hC2, hg2⟩
    have x2 := x1 (by omega)
    clear x1
    go_wp2_with fail
    go_ret
    exact ⟨_, rfl, by omega, by omega, hC2, grownBy_trans hg1 hg2⟩
  · have t0 : (r == 0) = false := by simpa using h0
    by_cases h1 : r = 1
    · have t1 : (r == 1) = true := by simpa using h1
      clear h0 h1
      go_wp2_with fail
      refine (drawNext gc _ _ hC1 (by omega) (by omega)).mono ?_
      rintro e w2 ⟨x, rfl, x0, x1, _, hC2, hg2⟩
      have x2 := x1 (by omega)
      clear x1
      go_wp2_with fail
      go_ret
      exact ⟨_, rfl, by omega, by omega, hC2, grownBy_trans hg1 hg2⟩
    · have t1 : (r == 1) = false := by simpa using h1
      clear h0 h1
      go_wp2_with fail
      refine (drawNext gc _ _ hC1 (by omega) (by omega)).mono ?_
      rintro e w2 ⟨x, rfl, x0, x1, _, hC2, hg2⟩
      have x2 := x1 (by omega)
      clear x1
      go_wp2_with fail
      go_ret
      exact ⟨_, rfl, by omega, by omega, hC2, grownBy_trans hg1 hg2⟩
theorem drawInt (gc : Nat) (w : World) (h : Codes w gc) : Calls Try.prog 35 #[.pointer (some ⟨gc, 0, none⟩)] w (NumRes w gc (-9223372036854775808) 9223372036854775807) := by
  have hl := h.lt_
  go_enter Try.func35, Try.ntmps35
  go_wp2_with fail
  refine (drawNext gc _ _ h (by omega) (by omega)).mono ?_
  rintro e w1 ⟨r, rfl, r0, r1, _, hC1, hg1⟩
  have r2 := r1 (by omega)
  have hl1 := hC1.lt_
  clear r1
  by_cases h0 : r = 15
  · have t0 : (r == 15) = true := by simpa using h0
    clear h0
    go_wp2_with fail
    refine (drawNext gc _ _ (hC1.under ((Below.refl _ w1).alloc (Nat.le_refl _) _) hl1) (by omega) (by omega)).mono ?_
    rintro e w2 ⟨x, rfl, x0, x1, _, hC2, hg2⟩
    have x2 := x1 (by omega)
    obtain ⟨k, rfl⟩ := Int.eq_ofNat_of_zero_le x0
    have hk : k < 6 := by omega
    have hB := (Blk.new w1 3 #[.int .i64 9223372036854775807, .int .i64 (-9223372036854775808), .int .i64 4294967296, .int .i64 (-2147483648), .int .i64 253402300799999, .int .i64 253402300800000]).grown hg2 (fun e => by injection e; omega)
    have hc : ∃ z : Int, w2.cell? ⟨w1.heap.size, k, none⟩ = some (.int .i64 z) ∧ -9223372036854775808 ≤ z ∧ z ≤ 9223372036854775807 := by
      rw [hB.cell]
      rcases (by omega : k = 0 ∨ k = 1 ∨ k = 2 ∨ k = 3 ∨ k = 4 ∨ k = 5) with rfl | rfl | rfl | rfl | rfl | rfl
      all_goals exact ⟨_, rfl, by omega, by omega⟩
    obtain ⟨z, hz, z0, z1⟩ := hc
    have hgw : w.grownBy w2 (some gc) := grownBy_trans hg1 (grownBy_trans (World.grownBy_alloc _ _ _) hg2)
    clear x1 hg2 hB
    go_wp2_with fail
    go_ret
    exact ⟨z, rfl, z0, z1, hC2, hgw⟩
  · have t0 : (r == 15) = false := by simpa using h0
    clear h0
    go_wp2_with fail
    refine (drawNext gc _ _ hC1 (by omega) (by omega)).mono ?_
    rintro e w2 ⟨x, rfl, x0, x1, _, hC2, hg2⟩
    have x2 := x1 (by omega)
    clear x1
    go_wp2_with fail
    refine (drawNext gc _ _ hC2 (by omega) (by omega)).mono ?_
    rintro e w3 ⟨y, rfl, y0, y1, _, hC3, hg3⟩
    have y2 := y1 (by omega)
    clear y1
    go_wp2_with fail
    go_ret
    have hb : -9223372036854775808 ≤ wrap64 (x / 2 ^ y.toNat - r / 8) ∧ wrap64 (x / 2 ^ y.toNat - r / 8) ≤ 9223372036854775807 := by
      simpa [Lit.wf, IntKind.min, IntKind.max, IntKind.signed, IntKind.bits] using wrap64_wf (x / 2 ^ y.toNat - r / 8)
    exact ⟨_, rfl, hb.1, hb.2, hC3, grownBy_trans hg1 (grownBy_trans hg2 hg3)⟩
end Go.Proofs.Ytkjhnipjhefndaa
