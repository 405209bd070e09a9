/- The sanity check of the statements about framing. -/
import Derived.Test.YtimldjlegbdldaaFrame
import Derived.Test.YtimldjlegbdldaaFrSame
namespace Go.Proofs.Ytimldjlegbdldaa
open Go.RowKit

theorem lit_bsl (w : World) (l : List UInt8) (cs : Array Value) (fz : Nat × Nat) (hc : cs.toList = l.map ub) (n : Nat) (hn : n = l.length) : BSl (w.alloc (.cells cs 5 fz)) (lt (w.alloc (.cells cs 5 fz)).heap.size) (.slice (some ⟨w.heap.size, 0, none⟩) n n) l := by
  subst hn
  refine ⟨by simp, _, l.length, rfl, Nat.le_refl _, fun _ => ⟨w.heap.size, 0, rfl, by simp, fun j u hu => ?_⟩⟩
  rw [Nat.zero_add, World.cell?_alloc_mark w cs 5 fz j, ← Array.getElem?_toList, hc]
  exact hu
theorem awake_frame : frEnd [97, 13, 10, 98] 0 = 3 ∧ frSp [97, 13, 10, 98] 0 = [(0, 3)] := by decide +kernel
theorem awake_rep : rep (stripB (segB [97, 13, 10, 98] 0 (0, 3))) = ([97], 0) := by decide +kernel
theorem awake_frL : frL [97, 13, 10, 98] 0 100 = [.int .i64 0, .int .i64 3, .string ⟨#[97]⟩, .int .i64 0, .bool false] := by
  unfold frL
  rw [awake_frame.2]
  show frV [97, 13, 10, 98] 0 100 (0, 3) ++ [] = _
  unfold frV
  dsimp only
  rw [if_neg (by decide), awake_rep]
  rfl
set_option maxHeartbeats 1000000 in
theorem awake_any (w : World) : Calls Try.prog 6 #[] w fun e w' => e = .returned (.bool true) ∧ Below w.heap.size w w' := by
  have kc := fun (w : World) (C : Array Value) (n c : Nat) => Lib.run_convert_bytes_const (P := Try.prog) w 22 5 C n c Try.underlying22 Try.underlying5
  have hb := fun fz => lit_bsl w [97, 13, 10, 98] #[.int .u8 97, .int .u8 13, .int .u8 10, .int .u8 98] fz rfl 4 rfl
  have hbel : ∀ fz, Below w.heap.size w (w.alloc (.cells #[.int .u8 97, .int .u8 13, .int .u8 10, .int .u8 98] 5 fz)) := fun fz => (Below.refl _ w).alloc (Nat.le_refl _) _
  have HB := keep hbel
  clear hbel
  go_enter Try.func6, Try.ntmps6
  go_wp2_with fail
  refine (frame_any _ _ 0 100 _ (hb _) (by decide)).mono ?_
  rintro e w1 ⟨v, rfl, hr, hb1⟩
  rw [awake_frame.2, awake_frL] at hr
  rw [awake_frame.1]
  obtain ⟨A, c, rfl, hc, hs⟩ := (Sl.of_own hr).form
  obtain ⟨b, o, rfl, _, hrow⟩ := hs.row (by decide)
  have x1 := hrow 1 _ rfl
  have x2 := hrow 2 _ rfl
  simp only [List.length_cons, List.length_nil, Nat.zero_add] at hc
  have HR := keep (And.intro hr hb1)
  clear hr hs hrow hb kc hb1
  go_wp2_with fail
  go_ret
  exact ⟨rfl, (HB.out _).trans (HR.out.2.mono (by simp))⟩
end Go.Proofs.Ytimldjlegbdldaa
