/- Contracts of the drawing package's Word and Value. -/
import Derived.Test.YtfainbgbeojcpaaDraw
namespace Go.Proofs.Ytfainbgbeojcpaa
open Go.RowKit

/-- A string of at most 32 bytes. -/
def shortStr : Option Value → Bool
  | some (.string s) => s.size ≤ 32
  | _ => false
theorem shortStr_get {v : Option Value} (h : shortStr v = true) : ∃ s : ByteArray, v = some (.string s) ∧ s.size ≤ 32 := by
  match v, h with
  | some (.string s), h => exact ⟨s, rfl, by simpa [shortStr] using h⟩

theorem pick_short {w : World} {g k n : Nat} {t : TypeId} {cs : Array Value} (hB : Blk w g t cs) (hall : ((List.range n).all fun i => shortStr cs[i]?) = true) (hk : k < n) :
    ∃ s : ByteArray, w.cell? ⟨g, k, none⟩ = some (.string s) ∧ s.size ≤ 32 := by
  obtain ⟨s, hs, hl⟩ := shortStr_get (List.all_eq_true.1 hall k (by simpa using hk))
  exact ⟨s, (hB.cell k).trans hs, hl⟩

def WordRes (w : World) (gc : Nat) (e : Ending) (w' : World) : Prop := ∃ s : ByteArray, e = .returned (.string s) ∧ s.size ≤ 32 ∧ Codes w' gc ∧ w.grownBy w' (some gc)

theorem drawWord (gc : Nat) (w : World) (h : Codes w gc) : Calls Try.prog 38 #[.pointer (some ⟨gc, 0, none⟩)] w (WordRes w gc) := by
  have hl := h.lt_
  go_enter Try.func38, Try.ntmps38
  go_wp2_with fail
  refine (drawNext gc _ _ (h.under ((Below.refl _ w).alloc (Nat.le_refl _) _) hl) (by omega) (by omega)).mono ?_
  rintro e w2 ⟨r, rfl, r0, r1, _, hC2, hg2⟩
  obtain ⟨k, rfl⟩ := Int.eq_ofNat_of_zero_le r0
  have hk : k < 14 := by have := r1 (by omega); omega
  obtain ⟨s, hs, hsl⟩ := pick_short (n := 14) ((Blk.new _ _ _).grown hg2 (fun e => by injection e; omega)) (by rfl) hk
  have hgw : w.grownBy w2 (some gc) := grownBy_trans (World.grownBy_alloc _ _ _) hg2
  clear hg2 r1
  go_wp2
  go_ret
  exact ⟨s, rfl, hsl, hC2, hgw⟩

theorem drawValue (gc : Nat) (w : World) (h : Codes w gc) : Calls Try.prog 39 #[.pointer (some ⟨gc, 0, none⟩)] w (WordRes w gc) := by
  have hl := h.lt_
  go_enter Try.func39, Try.ntmps39
  go_wp2_with fail
  refine (drawNext gc _ _ (h.under ((Below.refl _ w).alloc (Nat.le_refl _) _) hl) (by omega) (by omega)).mono ?_
  rintro e w2 ⟨r, rfl, r0, r1, _, hC2, hg2⟩
  obtain ⟨k, rfl⟩ := Int.eq_ofNat_of_zero_le r0
  have hk : k < 11 := by have := r1 (by omega); omega
  obtain ⟨s, hs, hsl⟩ := pick_short (n := 11) ((Blk.new _ _ _).grown hg2 (fun e => by injection e; omega)) (by rfl) hk
  have hgw : w.grownBy w2 (some gc) := grownBy_trans (World.grownBy_alloc _ _ _) hg2
  clear hg2 r1
  go_wp2
  go_ret
  exact ⟨s, rfl, hsl, hC2, hgw⟩
end Go.Proofs.Ytfainbgbeojcpaa
