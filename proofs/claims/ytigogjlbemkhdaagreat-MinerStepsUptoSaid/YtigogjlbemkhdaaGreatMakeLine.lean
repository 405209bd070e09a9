/- (A seat without Mod: XMakeText's head.) Contracts of the making functions Pick, Text and Line: strings and bytes of bounded length. -/
import Derived.Test.YtigogjlbemkhdaaGreatMake
namespace Go.Proofs.YtigogjlbemkhdaaGreat
open Go.RowKit
/-- A string of at most 36 bytes. -/
def shortStr : Option Value → Bool
  | some (.string s) => s.size ≤ 36
  | _ => false
theorem shortStr_get {v : Option Value} (h : shortStr v = true) : ∃ s : ByteArray, v = some (.string s) ∧ s.size ≤ 36 := by
  match v, h with
  | some (.string s), h => exact ⟨s, rfl, by simpa [shortStr] using h⟩
theorem size_mk (a : Array UInt8) : (ByteArray.mk a).size = a.size := rfl
def WordRes (w : World) (gc : Nat) (m : Int) (e : Ending) (w' : World) : Prop := ∃ s : ByteArray, e = .returned (.string s) ∧ (s.size : Int) ≤ m ∧ Codes w' gc ∧ w.grownBy w' (some gc)
/-- Pick at a list that was just made. -/
theorem pick_lit (gc n : Nat) (cs : Array Value) (w : World) (h : Codes w gc) (hall : ((List.range n).all fun i => shortStr cs[i]?) = true) (hn : 0 < n) (hn2 : n ≤ 1000) :
    Calls Tryz.prog 23 #[.pointer (some ⟨gc, 0, none⟩), .slice (some ⟨w.heap.size, 0, none⟩) n n] (w.alloc (.cells cs 9)) (WordRes w gc 36) := by
  have hl := h.lt_
  go_enter Tryz.func23, Tryz.ntmps23
  go_wp2_with fail
  refine (drawNext gc _ _ (h.alloc _) (by omega) (by omega)).mono ?_
  rintro e w2 ⟨r, rfl, r0, r1, _, hC2, hg2⟩
  obtain ⟨k, rfl⟩ := Int.eq_ofNat_of_zero_le r0
  have hk : k < n := by have := r1 (by omega); omega
  obtain ⟨s, hs, hsl⟩ := shortStr_get (List.all_eq_true.1 hall k (by simpa using hk))
  have hc : w2.cell? ⟨w.heap.size, k, none⟩ = some (.string s) := (((Blk.new _ _ _).grown hg2 (fun e => by injection e; omega)).cell k).trans hs
  have hgw : w.grownBy w2 (some gc) := grownBy_trans (World.grownBy_alloc _ _ _) hg2
  have hk' : (k : Int) < (n : Int) := by omega
  clear hg2 r1 hs
  go_wp2
  go_ret
  exact ⟨s, rfl, by omega, hC2, hgw⟩
theorem makeText (gc : Nat) (most : Int) (w : World) (h : Codes w gc) (h0 : 0 ≤ most) (h1 : most ≤ 1000) :
    Calls Tryz.prog 24 #[.pointer (some ⟨gc, 0, none⟩), .int .i64 most] w (WordRes w gc (36 * most)) := by
  have hl := h.lt_
  go_enter Tryz.func24, Tryz.ntmps24
  go_wp2_with fail
  refine (drawNext gc _ _ h (by omega) (by omega)).mono ?_
  rintro e w1 ⟨r, rfl, r0, r1, _, hC1, hg1⟩
  have r2 := r1 (by omega)
  clear r1
  go_wp2_with fail
  go_loopw [5, 6] (fun v n wr => ∃ (m : Int) (s : ByteArray), v = .string s ∧ n = .int .i64 m ∧ 0 ≤ m ∧ (s.size : Int) + 36 * m ≤ 36 * r ∧ Codes wr gc ∧ w.grownBy wr (some gc)) (fun _ n _ => (intOf n).toNat)
  case atStart => exact ⟨r, .empty, rfl, rfl, r0, by simp, hC1, hg1⟩
  case round =>
    obtain ⟨m, s, rfl, rfl, hm0, hsz, hC, hG⟩ := hrel
    clear hC1 hg1
    by_cases hp : 0 < m
    · have hd : decide (0 < m) = true := by simpa using hp
      go_wp2_with fail
      refine (pick_lit gc _ _ _ hC (by rfl) (by omega) (by omega)).mono ?_
      rintro e w2 ⟨s2, rfl, hs2, hC2, hg2⟩
      replace hG := grownBy_trans hG hg2
      go_wp2_with fail
      go_roundw
      case rel => exact ⟨m - 1, s ++ s2, rfl, by go_num, by omega, by simp [ByteArray.size_append]; omega, hC2, hG⟩
      case measure => simp [intOf]; omega
    · have hd : decide (0 < m) = false := by simpa using hp
      go_wp2
      go_ret
      exact ⟨s, rfl, by omega, hC, hG⟩
set_option maxHeartbeats 1048576 in
set_option maxRecDepth 100000 in
theorem makeLine (gc : Nat) (w : World) (h : Codes w gc) :
    Calls Tryz.prog 8 #[.pointer (some ⟨gc, 0, none⟩)] w (WordRes w gc 500) := by
  have hl := h.lt_
  go_enter Tryz.func8, Tryz.ntmps8
  go_wp2_with fail
  refine (drawNext gc _ _ h (by omega) (by omega)).mono ?_
  rintro e w1 ⟨r, rfl, r0, r1, _, hC1, hG⟩
  clear r1 h
  have cs : r = 0 ∨ r = 1 ∨ r = 2 ∨ r = 3 ∨ r = 4 ∨ r = 5 ∨ ((r == 0) = false ∧ (r == 1) = false ∧ (r == 2) = false ∧ (r == 3) = false ∧ (r == 4) = false ∧ (r == 5) = false) := by
    simp only [beq_eq_false_iff_ne, ne_eq]; omega
  rcases cs with rfl | rfl | rfl | rfl | rfl | rfl | ⟨c0, c1, c2, c3, c4, c5⟩
  all_goals
    go_wp2_with (first
      | (go_at_call 23; refine (pick_lit gc _ _ _ (by assumption) (by rfl) (by omega) (by omega)).mono ?_; rintro e w2 ⟨s2, rfl, hs2, hC2, hg2⟩; replace hG := grownBy_trans hG hg2; clear hg2)
      | (go_at_call 24; refine (makeText gc _ _ (by assumption) (by omega) (by omega)).mono ?_; rintro e w2 ⟨s2, rfl, hs2, hC2, hg2⟩; replace hG := grownBy_trans hG hg2; clear hg2))
    go_ret
    exact ⟨_, rfl, by first | omega | (simp [ByteArray.size_append, size_mk]; omega), hC2, hG⟩
end Go.Proofs.YtigogjlbemkhdaaGreat
