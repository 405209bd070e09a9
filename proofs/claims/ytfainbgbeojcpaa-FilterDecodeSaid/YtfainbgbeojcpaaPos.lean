/- FilterHash, part Pos: contracts of single functions of the filter package and its reference. -/
import Derived.Test.YtfainbgbeojcpaaNew
namespace Go.Proofs.Ytfainbgbeojcpaa
open Go.RowKit

theorem setSize (A : Option Addr) (n c : Nat) (w : World) (hn : n ≤ 1000000) :
    Calls Try.prog 37 #[.slice A n c] w fun e w' => e = .returned (.int .i64 (64 * n)) ∧ w = w' := by
  go_enter Try.func37, Try.ntmps37
  go_wp2
  go_ret
  exact ⟨ret_int (by omega), rfl⟩

/-- The positions of a word. -/
def pos (a b : Int) (n : Nat) (i : Nat) : Int := (a + (i : Int) * b) % 4294967296 % (64 * n)
def poss (s : ByteArray) (k n : Nat) : List Int := (List.range k).map (pos (hash 0 s) (hash 1 s) n)
theorem pos_bd (a b : Int) (n i : Nat) (h : 1 ≤ n) : 0 ≤ pos a b n i ∧ pos a b n i < 64 * n := by
  unfold pos
  exact ⟨Int.emod_nonneg _ (by omega), Int.emod_lt_of_pos _ (by omega)⟩
theorem poss_succ (s : ByteArray) (n j : Nat) : poss s (j + 1) n = poss s j n ++ [pos (hash 0 s) (hash 1 s) n j] := by
  unfold poss
  rw [List.range_succ]; simp
theorem poss_len (s : ByteArray) (k n : Nat) : (poss s k n).length = k := by simp [poss]
theorem wrap_u32_in (x : Int) (h0 : 0 ≤ x) (h1 : x < 4294967296) : IntKind.u32.wrap x = x := by rw [IntKind.wrap_u32]; omega

def PosRes (w : World) (s : ByteArray) (k n : Nat) (e : Ending) (w' : World) : Prop :=
  ∃ v, e = .returned v ∧ w'.ownsRow w.heap.size 3 1 v k ((poss s k n).map (.int .i64)) ∧ Below w.heap.size w w'

theorem pos_own {w : World} {base : Nat} {v : Value} {s : ByteArray} {j n : Nat} {x : Int} (hx : x = pos (hash 0 s) (hash 1 s) n j) (h : w.ownsRow base 3 1 v (j + 1) ((poss s j n).map (.int .i64) ++ [.int .i64 x])) :
    w.ownsRow base 3 1 v (j + 1) ((poss s (j + 1) n).map (.int .i64)) := by
  rw [poss_succ, List.map_append]; subst hx; exact h

theorem positions_any (k n c : Nat) (A : Option Addr) (s : ByteArray) (w : World) (hs : s.size ≤ maxLen) (hk : k ≤ 8) (h1 : 1 ≤ n) (h2 : n ≤ 1024) :
    Calls Try.prog 11 #[.agg #[.int .i64 k, .slice A n c], .string s] w (PosRes w s k n) := by
  have hwr : IntKind.u32.wrap (64 * (n : Int)) = 64 * n := wrap_u32_in _ (by omega) (by omega)
  go_enter Try.func11, Try.ntmps11
  go_wp2
  go_region_held3 (Held (w.heap.size + 1) (w.alloc (.cells #[.int .i64 k, .slice A n c] 27)))
    (first | exact Held.start _ _ | exact Held.call (by assumption) (by assumption) (by simp) | assumption)
    (first
      | (go_at_call 13; refine (hash_any _ _ _ hs).mono ?_; rintro e w1 ⟨rfl, hb⟩)
      | (go_at_call 37; refine (setSize _ _ _ _ (by omega)).mono ?_; rintro e w1 ⟨rfl, rfl⟩))
  have hH : Held (w.heap.size + 1) (w.alloc (.cells #[.int .i64 k, .slice A n c] 27)) w1 := by assumption
  have hb1 : Below w.heap.size w w1 := ((Below.refl _ w).alloc (Nat.le_refl _) _).trans (hH.2.2.mono (by omega))
  have hc0 : w1.cell? ⟨w.heap.size, 0, none⟩ = some (.int .i64 k) := (hH.1 _ _ (by omega)).trans (by simp)
  clear hH hwr
  go_wp2
  go_loopw [8, 20] (fun v i wr => ∃ j : Nat, j ≤ k ∧ i = .int .i64 j ∧ wr.ownsRow w1.heap.size 3 1 v j ((poss s j n).map (.int .i64)) ∧ Below w1.heap.size w1 wr) (fun _ i _ => k - (intOf i).toNat)
  case atStart => exact ⟨0, Nat.zero_le _, rfl, World.ownsRow_nil _ _ _ _, Below.refl _ _⟩
  case round =>
    obtain ⟨j, hj, rfl, hown, hbr⟩ := hrel
    have hsz := hbr.size
    have hpb := pos_bd (hash 0 s) (hash 1 s) n j h1
    by_cases hlt : j < k
    · go_wp2_with (refine wpList_push1 el31 rfl rfl _ _ _ rfl rfl rfl w1.heap.size _ _ _ _ rfl (fun _ => rfl) (fun _ => rfl) hown rfl (by unfold maxLen; omega) (by omega) hsz ?_; intro g cap w2 hown2 hb2 hg2 _ _)
      go_roundw
      case rel => exact ⟨j + 1, by omega, by go_num, pos_own (by rw [IntWalk.wrap64_in _ ⟨by unfold pos at hpb; omega, by unfold pos at hpb; omega⟩]; rfl) hown2, hbr.trans hb2⟩
      case measure => simp [intOf]; omega
    · obtain rfl : j = k := by omega
      go_wp2
      go_ret
      exact ⟨_, rfl, own_base hown hb1.size, bchain hb1 hbr⟩

theorem refPositions_any (k n c : Nat) (A : Option Addr) (s : ByteArray) (w : World) (hs : s.size ≤ maxLen) (hk : k ≤ 8) (h1 : 1 ≤ n) (h2 : n ≤ 1024) :
    Calls Try.prog 12 #[.agg #[.int .i64 k, .slice A n c], .string s] w (PosRes w s k n) := by
  go_enter Try.func12, Try.ntmps12
  go_wp2_with (go_at_call 14; refine (refHash_any _ _ _ hs).mono ?_; rintro e w1 ⟨rfl, rfl⟩)
  obtain ⟨w1, hw1⟩ : ∃ w1, w1 = w.alloc (.cells #[.int .i64 k, .slice A n c] 27) := ⟨_, rfl⟩
  have hb1 : Below w.heap.size w w1 := hw1 ▸ (Below.refl _ w).alloc (Nat.le_refl _) _
  have hc0 : w1.cell? ⟨w.heap.size, 0, none⟩ = some (.int .i64 k) := by subst hw1; simp
  have hc1 : w1.cell? ⟨w.heap.size, 1, none⟩ = some (.slice A n c) := by subst hw1; simp
  have hz1 : w.heap.size < w1.heap.size := by subst hw1; simp
  rw [← hw1]
  clear hw1
  go_loopw [7, 8] (fun v i wr => ∃ j : Nat, j ≤ k ∧ i = .int .i64 j ∧ wr.ownsRow w1.heap.size 3 1 v j ((poss s j n).map (.int .i64)) ∧ Below w1.heap.size w1 wr) (fun _ i _ => k - (intOf i).toNat)
  case atStart => exact ⟨0, Nat.zero_le _, rfl, World.ownsRow_nil _ _ _ _, Below.refl _ _⟩
  case round =>
    obtain ⟨j, hj, rfl, hown, hbr⟩ := hrel
    have hsz := hbr.size
    have hr0 := (hbr.cell (p := ⟨w.heap.size, 0, none⟩) hz1).trans hc0
    have hr1 := (hbr.cell (p := ⟨w.heap.size, 1, none⟩) hz1).trans hc1
    by_cases hlt : j < k
    · go_wp2_with (refine wpList_push1 el31 rfl rfl _ _ _ rfl rfl rfl w1.heap.size _ _ _ _ rfl (fun _ => rfl) (fun _ => rfl) hown rfl (by unfold maxLen; omega) (by omega) hsz ?_; intro g cap w2 hown2 hb2 hg2 _ _)
      go_roundw
      case rel => exact ⟨j + 1, by omega, by go_num, pos_own rfl hown2, hbr.trans hb2⟩
      case measure => simp [intOf]; omega
    · obtain rfl : j = k := by omega
      go_wp2
      go_ret
      exact ⟨_, rfl, own_base hown hb1.size, bchain hb1 hbr⟩
end Go.Proofs.Ytfainbgbeojcpaa
