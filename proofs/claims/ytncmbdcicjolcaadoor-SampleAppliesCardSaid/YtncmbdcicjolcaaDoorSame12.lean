/- Same of items: equal items. -/
import Derived.Test.YtncmbdcicjolcaaDoorSameRows
namespace Go.Proofs.YtncmbdcicjolcaaDoor
open Go.RowKit

def sT (x : Nat → Value) : Array Value := #[x 0, x 1, x 2, x 3, x 4, x 5, x 6, x 7, x 8, x 9, x 10, x 11, x 12, x 13, x 14, x 15, x 16, x 17, x 18, x 19, x 20, x 21, x 22, x 23, x 24, x 25, x 26, x 27, x 28, x 29, x 30, x 31, x 32, x 33, x 34, x 35, x 36, x 37, x 38, x 39, x 40, x 41, x 42, x 43, x 44, x 45, x 46, x 47, x 48, x 49, x 50, x 51, x 52, x 53, x 54, x 55, x 56, x 57, x 58, x 59, x 60, x 61, x 62, x 63, x 64, x 65, x 66, x 67, x 68, x 69, x 70, x 71, x 72, x 73, x 74, x 75, x 76, x 77, x 78, x 79, x 80, x 81, x 82, x 83, x 84, x 85]

theorem below_keep {w w' : World} {b : Nat} {t : TypeId} {cs : Array Value} (h : Blk w b t cs) (hb : Below w.heap.size w w') : Blk w' b t cs := h.below hb h.lt
set_option maxRecDepth 100000 in
set_option maxHeartbeats 32000000 in
theorem same12 (e : Ev) (L : List (Int × Int × ByteArray)) (F : List (ByteArray × ByteArray)) (w : World) (hE : EvS e) (hL : Sl w (lt w.heap.size) 3 e.ln L.length (L.flatMap lnV)) (hF : Sl w (lt w.heap.size) 2 e.fd F.length (F.flatMap fdV)) (hl : L.length ≤ 3) (hf : F.length ≤ 4) :
    Calls Tryd.prog 25 #[.agg (.string ⟨#[]⟩ :: e.vals).toArray, .agg (.string ⟨#[]⟩ :: e.vals).toArray] w fun x w' => x = .returned (.bool true) ∧ Below w.heap.size w w' := by
  obtain ⟨vho, vfi, vfr, vto, vln, vti, vwt, vtr, vst, vfd⟩ := e
  obtain ⟨⟨lA, ln, lc, hln⟩, ⟨fA, fn, fc, hfd⟩, htr⟩ := hE
  simp only at hln hfd htr
  subst hln
  subst hfd
  simp only [Ev.vals] at hL hF ⊢
  go_enter Tryd.func25, Tryd.ntmps25
  go_upto_region 1 with fail
  have X1 : Blk ((w.alloc (.cells #[.string ⟨#[]⟩, .int .i64 vho, .int .i64 vfi, .int .i64 vfr, .int .i64 vto, .slice lA ln lc, .int .i64 vti, .int .i64 vwt, .string vtr, .string vst, .slice fA fn fc] 52)).alloc (.cells #[.string ⟨#[]⟩, .int .i64 vho, .int .i64 vfi, .int .i64 vfr, .int .i64 vto, .slice lA ln lc, .int .i64 vti, .int .i64 vwt, .string vtr, .string vst, .slice fA fn fc] 52)) w.heap.size 52 #[.string ⟨#[]⟩, .int .i64 vho, .int .i64 vfi, .int .i64 vfr, .int .i64 vto, .slice lA ln lc, .int .i64 vti, .int .i64 vwt, .string vtr, .string vst, .slice fA fn fc] := (Blk.new w _ _).alloc _
  have X2 : Blk ((w.alloc (.cells #[.string ⟨#[]⟩, .int .i64 vho, .int .i64 vfi, .int .i64 vfr, .int .i64 vto, .slice lA ln lc, .int .i64 vti, .int .i64 vwt, .string vtr, .string vst, .slice fA fn fc] 52)).alloc (.cells #[.string ⟨#[]⟩, .int .i64 vho, .int .i64 vfi, .int .i64 vfr, .int .i64 vto, .slice lA ln lc, .int .i64 vti, .int .i64 vwt, .string vtr, .string vst, .slice fA fn fc] 52)) (w.heap.size + 1) 52 #[.string ⟨#[]⟩, .int .i64 vho, .int .i64 vfi, .int .i64 vfr, .int .i64 vto, .slice lA ln lc, .int .i64 vti, .int .i64 vwt, .string vtr, .string vst, .slice fA fn fc] := by
    have := Blk.new (w.alloc (.cells #[.string ⟨#[]⟩, .int .i64 vho, .int .i64 vfi, .int .i64 vfr, .int .i64 vto, .slice lA ln lc, .int .i64 vti, .int .i64 vwt, .string vtr, .string vst, .slice fA fn fc] 52)) 52 #[.string ⟨#[]⟩, .int .i64 vho, .int .i64 vfi, .int .i64 vfr, .int .i64 vto, .slice lA ln lc, .int .i64 vti, .int .i64 vwt, .string vtr, .string vst, .slice fA fn fc]
    simpa using this
  have hb : Below w.heap.size w ((w.alloc (.cells #[.string ⟨#[]⟩, .int .i64 vho, .int .i64 vfi, .int .i64 vfr, .int .i64 vto, .slice lA ln lc, .int .i64 vti, .int .i64 vwt, .string vtr, .string vst, .slice fA fn fc] 52)).alloc (.cells #[.string ⟨#[]⟩, .int .i64 vho, .int .i64 vfi, .int .i64 vfr, .int .i64 vto, .slice lA ln lc, .int .i64 vti, .int .i64 vwt, .string vtr, .string vst, .slice fA fn fc] 52)) := ((Below.refl _ w).alloc (Nat.le_refl _) _).alloc (by simp) _
  generalize ((w.alloc (.cells #[.string ⟨#[]⟩, .int .i64 vho, .int .i64 vfi, .int .i64 vfr, .int .i64 vto, .slice lA ln lc, .int .i64 vti, .int .i64 vwt, .string vtr, .string vst, .slice fA fn fc] 52)).alloc (.cells #[.string ⟨#[]⟩, .int .i64 vho, .int .i64 vfi, .int .i64 vfr, .int .i64 vto, .slice lA ln lc, .int .i64 vti, .int .i64 vwt, .string vtr, .string vst, .slice fA fn fc] 52)) = w1 at X1 X2 hb ⊢
  rename_i K1 hK1
  have hK := keep hK1
  clear hK1
  have n0 := hb.size
  have l1 := X1.lt
  have l2 := X2.lt
  obtain ⟨g1, hg1⟩ : ∃ g, w.heap.size = g := ⟨_, rfl⟩
  obtain ⟨g2, hg2⟩ : ∃ g, g1 + 1 = g := ⟨_, rfl⟩
  rw [hg1] at X1 X2 l1 l2 ⊢
  rw [hg2] at X2 l2 ⊢
  have X1a : Blk (w1.drew.alloc (.cells #[.int .i64 0, .int .i64 0, .int .i64 0, .int .i64 0, .slice none 0 0, .int .i64 0, .int .i64 0, .string ⟨#[]⟩, .string ⟨#[]⟩, .slice none 0 0] 48)) g1 52 #[.string ⟨#[]⟩, .int .i64 vho, .int .i64 vfi, .int .i64 vfr, .int .i64 vto, .slice lA ln lc, .int .i64 vti, .int .i64 vwt, .string vtr, .string vst, .slice fA fn fc] := Blk.alloc (show Blk w1.drew _ _ _ from X1) _
  have X2a : Blk (w1.drew.alloc (.cells #[.int .i64 0, .int .i64 0, .int .i64 0, .int .i64 0, .slice none 0 0, .int .i64 0, .int .i64 0, .string ⟨#[]⟩, .string ⟨#[]⟩, .slice none 0 0] 48)) g2 52 #[.string ⟨#[]⟩, .int .i64 vho, .int .i64 vfi, .int .i64 vfr, .int .i64 vto, .slice lA ln lc, .int .i64 vti, .int .i64 vwt, .string vtr, .string vst, .slice fA fn fc] := Blk.alloc (show Blk w1.drew _ _ _ from X2) _
  have X1b : Blk ((w1.drew.alloc (.cells #[.int .i64 0, .int .i64 0, .int .i64 0, .int .i64 0, .slice none 0 0, .int .i64 0, .int .i64 0, .string ⟨#[]⟩, .string ⟨#[]⟩, .slice none 0 0] 48)).alloc (.cells #[.int .i64 0, .int .i64 0, .int .i64 0, .int .i64 0, .slice none 0 0, .int .i64 0, .int .i64 0, .string ⟨#[]⟩, .string ⟨#[]⟩, .slice none 0 0] 48)) g1 52 #[.string ⟨#[]⟩, .int .i64 vho, .int .i64 vfi, .int .i64 vfr, .int .i64 vto, .slice lA ln lc, .int .i64 vti, .int .i64 vwt, .string vtr, .string vst, .slice fA fn fc] := X1a.alloc _
  have X2b : Blk ((w1.drew.alloc (.cells #[.int .i64 0, .int .i64 0, .int .i64 0, .int .i64 0, .slice none 0 0, .int .i64 0, .int .i64 0, .string ⟨#[]⟩, .string ⟨#[]⟩, .slice none 0 0] 48)).alloc (.cells #[.int .i64 0, .int .i64 0, .int .i64 0, .int .i64 0, .slice none 0 0, .int .i64 0, .int .i64 0, .string ⟨#[]⟩, .string ⟨#[]⟩, .slice none 0 0] 48)) g2 52 #[.string ⟨#[]⟩, .int .i64 vho, .int .i64 vfi, .int .i64 vfr, .int .i64 vto, .slice lA ln lc, .int .i64 vti, .int .i64 vwt, .string vtr, .string vst, .slice fA fn fc] := X2a.alloc _
  have Z1b : Blk ((w1.drew.alloc (.cells #[.int .i64 0, .int .i64 0, .int .i64 0, .int .i64 0, .slice none 0 0, .int .i64 0, .int .i64 0, .string ⟨#[]⟩, .string ⟨#[]⟩, .slice none 0 0] 48)).alloc (.cells #[.int .i64 0, .int .i64 0, .int .i64 0, .int .i64 0, .slice none 0 0, .int .i64 0, .int .i64 0, .string ⟨#[]⟩, .string ⟨#[]⟩, .slice none 0 0] 48)) w1.heap.size 48 #[.int .i64 0, .int .i64 0, .int .i64 0, .int .i64 0, .slice none 0 0, .int .i64 0, .int .i64 0, .string ⟨#[]⟩, .string ⟨#[]⟩, .slice none 0 0] := (Blk.new w1.drew _ _).alloc _
  have Z2b : Blk ((w1.drew.alloc (.cells #[.int .i64 0, .int .i64 0, .int .i64 0, .int .i64 0, .slice none 0 0, .int .i64 0, .int .i64 0, .string ⟨#[]⟩, .string ⟨#[]⟩, .slice none 0 0] 48)).alloc (.cells #[.int .i64 0, .int .i64 0, .int .i64 0, .int .i64 0, .slice none 0 0, .int .i64 0, .int .i64 0, .string ⟨#[]⟩, .string ⟨#[]⟩, .slice none 0 0] 48)) (w1.heap.size + 1) 48 #[.int .i64 0, .int .i64 0, .int .i64 0, .int .i64 0, .slice none 0 0, .int .i64 0, .int .i64 0, .string ⟨#[]⟩, .string ⟨#[]⟩, .slice none 0 0] := by
    have := Blk.new (w1.drew.alloc (.cells #[.int .i64 0, .int .i64 0, .int .i64 0, .int .i64 0, .slice none 0 0, .int .i64 0, .int .i64 0, .string ⟨#[]⟩, .string ⟨#[]⟩, .slice none 0 0] 48)) 48 #[.int .i64 0, .int .i64 0, .int .i64 0, .int .i64 0, .slice none 0 0, .int .i64 0, .int .i64 0, .string ⟨#[]⟩, .string ⟨#[]⟩, .slice none 0 0]
    simpa using this
  have hbb : Below w1.heap.size w1 ((w1.drew.alloc (.cells #[.int .i64 0, .int .i64 0, .int .i64 0, .int .i64 0, .slice none 0 0, .int .i64 0, .int .i64 0, .string ⟨#[]⟩, .string ⟨#[]⟩, .slice none 0 0] 48)).alloc (.cells #[.int .i64 0, .int .i64 0, .int .i64 0, .int .i64 0, .slice none 0 0, .int .i64 0, .int .i64 0, .string ⟨#[]⟩, .string ⟨#[]⟩, .slice none 0 0] 48)) := ((show Below w1.heap.size w1 w1.drew from (Below.refl _ w1).drew).alloc (Nat.le_refl _) _).alloc (by simp) _
  have hfin : ∀ (g5 g6 : Nat) (w2 : World), Blk w2 g1 52 #[.string ⟨#[]⟩, .int .i64 vho, .int .i64 vfi, .int .i64 vfr, .int .i64 vto, .slice lA ln lc, .int .i64 vti, .int .i64 vwt, .string vtr, .string vst, .slice fA fn fc] → Blk w2 g2 52 #[.string ⟨#[]⟩, .int .i64 vho, .int .i64 vfi, .int .i64 vfr, .int .i64 vto, .slice lA ln lc, .int .i64 vti, .int .i64 vwt, .string vtr, .string vst, .slice fA fn fc] → Blk w2 g5 48 #[.int .i64 vho, .int .i64 vfi, .int .i64 vfr, .int .i64 vto, .slice lA ln lc, .int .i64 vti, .int .i64 vwt, .string vtr, .string vst, .slice fA fn fc] → Blk w2 g6 48 #[.int .i64 vho, .int .i64 vfi, .int .i64 vfr, .int .i64 vto, .slice lA ln lc, .int .i64 vti, .int .i64 vwt, .string vtr, .string vst, .slice fA fn fc] → Below w.heap.size w w2 → K1 { tmps := sT (kp0 (.agg #[.string ⟨#[]⟩, .int .i64 vho, .int .i64 vfi, .int .i64 vfr, .int .i64 vto, .slice lA ln lc, .int .i64 vti, .int .i64 vwt, .string vtr, .string vst, .slice fA fn fc]) (.agg #[.string ⟨#[]⟩, .int .i64 vho, .int .i64 vfi, .int .i64 vfr, .int .i64 vto, .slice lA ln lc, .int .i64 vti, .int .i64 vwt, .string vtr, .string vst, .slice fA fn fc]) (.pointer (some ⟨g1, 0, none⟩)) (.pointer (some ⟨g2, 0, none⟩)) (.bool false) (.pointer (some ⟨g5, 0, none⟩)) (.pointer (some ⟨g6, 0, none⟩)) (.pointer (some ⟨g1, 1, none⟩)) (.agg #[.int .i64 vho, .int .i64 vfi, .int .i64 vfr, .int .i64 vto, .slice lA ln lc, .int .i64 vti, .int .i64 vwt, .string vtr, .string vst, .slice fA fn fc]) (.pointer (some ⟨g2, 1, none⟩)) (.agg #[.int .i64 vho, .int .i64 vfi, .int .i64 vfr, .int .i64 vto, .slice lA ln lc, .int .i64 vti, .int .i64 vwt, .string vtr, .string vst, .slice fA fn fc])), defers := [] } w2 := by
    intro g5 g6 w2 B1 B2 B5 B6 hb2
    refine hK.out _ _ ?_
    clear hK X1 X2 hb
    have b10 : w2.cell? ⟨g1, 0, none⟩ = some (.string ⟨#[]⟩) := by rw [B1.cell]; rfl
    have b20 : w2.cell? ⟨g2, 0, none⟩ = some (.string ⟨#[]⟩) := by rw [B2.cell]; rfl
    have b50 : w2.cell? ⟨g5, 0, none⟩ = some (.int .i64 vho) := by rw [B5.cell]; rfl
    have b51 : w2.cell? ⟨g5, 1, none⟩ = some (.int .i64 vfi) := by rw [B5.cell]; rfl
    have b52 : w2.cell? ⟨g5, 2, none⟩ = some (.int .i64 vfr) := by rw [B5.cell]; rfl
    have b53 : w2.cell? ⟨g5, 3, none⟩ = some (.int .i64 vto) := by rw [B5.cell]; rfl
    have b54 : w2.cell? ⟨g5, 4, none⟩ = some (.slice lA ln lc) := by rw [B5.cell]; rfl
    have b55 : w2.cell? ⟨g5, 5, none⟩ = some (.int .i64 vti) := by rw [B5.cell]; rfl
    have b56 : w2.cell? ⟨g5, 6, none⟩ = some (.int .i64 vwt) := by rw [B5.cell]; rfl
    have b57 : w2.cell? ⟨g5, 7, none⟩ = some (.string vtr) := by rw [B5.cell]; rfl
    have b58 : w2.cell? ⟨g5, 8, none⟩ = some (.string vst) := by rw [B5.cell]; rfl
    have b59 : w2.cell? ⟨g5, 9, none⟩ = some (.slice fA fn fc) := by rw [B5.cell]; rfl
    have b60 : w2.cell? ⟨g6, 0, none⟩ = some (.int .i64 vho) := by rw [B6.cell]; rfl
    have b61 : w2.cell? ⟨g6, 1, none⟩ = some (.int .i64 vfi) := by rw [B6.cell]; rfl
    have b62 : w2.cell? ⟨g6, 2, none⟩ = some (.int .i64 vfr) := by rw [B6.cell]; rfl
    have b63 : w2.cell? ⟨g6, 3, none⟩ = some (.int .i64 vto) := by rw [B6.cell]; rfl
    have b64 : w2.cell? ⟨g6, 4, none⟩ = some (.slice lA ln lc) := by rw [B6.cell]; rfl
    have b65 : w2.cell? ⟨g6, 5, none⟩ = some (.int .i64 vti) := by rw [B6.cell]; rfl
    have b66 : w2.cell? ⟨g6, 6, none⟩ = some (.int .i64 vwt) := by rw [B6.cell]; rfl
    have b67 : w2.cell? ⟨g6, 7, none⟩ = some (.string vtr) := by rw [B6.cell]; rfl
    have b68 : w2.cell? ⟨g6, 8, none⟩ = some (.string vst) := by rw [B6.cell]; rfl
    have b69 : w2.cell? ⟨g6, 9, none⟩ = some (.slice fA fn fc) := by rw [B6.cell]; rfl
    unfold sT kp0
    go_wp2_with fail
    refine (sameLines_any _ L w2 ((hL.below hb2 (Nat.le_refl _)).more hb2.size) (by omega)).mono ?_
    rintro x w3 ⟨rfl, hb3⟩
    have b5z9 : w3.cell? ⟨g5, 9, none⟩ = some (.slice fA fn fc) := by rw [(below_keep B5 hb3).cell]; rfl
    have b6z9 : w3.cell? ⟨g6, 9, none⟩ = some (.slice fA fn fc) := by rw [(below_keep B6 hb3).cell]; rfl
    go_wp2_with fail
    refine (sameFields_any _ F w3 ((hF.below (hb2.trans (hb3.mono hb2.size)) (Nat.le_refl _)).more (Nat.le_trans hb2.size hb3.size)) (by omega)).mono ?_
    rintro x w4 ⟨rfl, hb4⟩
    go_wp2_with fail
    go_ret
    exact ⟨rfl, hb2.trans ((hb3.mono hb2.size).trans (hb4.mono (Nat.le_trans hb2.size hb3.size)))⟩
  have hgg : ¬ g1 = g2 := by omega
  have hgn : ¬ w1.heap.size = w1.heap.size + 1 := by omega
  have px1 : w1.cell? ⟨g1, 1, none⟩ = some (.int .i64 vho) := by rw [X1.cell]; rfl
  have py1 : w1.cell? ⟨g2, 1, none⟩ = some (.int .i64 vho) := by rw [X2.cell]; rfl
  have px2 : w1.cell? ⟨g1, 2, none⟩ = some (.int .i64 vfi) := by rw [X1.cell]; rfl
  have py2 : w1.cell? ⟨g2, 2, none⟩ = some (.int .i64 vfi) := by rw [X2.cell]; rfl
  have px3 : w1.cell? ⟨g1, 3, none⟩ = some (.int .i64 vfr) := by rw [X1.cell]; rfl
  have py3 : w1.cell? ⟨g2, 3, none⟩ = some (.int .i64 vfr) := by rw [X2.cell]; rfl
  have px4 : w1.cell? ⟨g1, 4, none⟩ = some (.int .i64 vto) := by rw [X1.cell]; rfl
  have py4 : w1.cell? ⟨g2, 4, none⟩ = some (.int .i64 vto) := by rw [X2.cell]; rfl
  have px5 : w1.cell? ⟨g1, 5, none⟩ = some (.slice lA ln lc) := by rw [X1.cell]; rfl
  have py5 : w1.cell? ⟨g2, 5, none⟩ = some (.slice lA ln lc) := by rw [X2.cell]; rfl
  have px6 : w1.cell? ⟨g1, 6, none⟩ = some (.int .i64 vti) := by rw [X1.cell]; rfl
  have py6 : w1.cell? ⟨g2, 6, none⟩ = some (.int .i64 vti) := by rw [X2.cell]; rfl
  have px7 : w1.cell? ⟨g1, 7, none⟩ = some (.int .i64 vwt) := by rw [X1.cell]; rfl
  have py7 : w1.cell? ⟨g2, 7, none⟩ = some (.int .i64 vwt) := by rw [X2.cell]; rfl
  have px8 : w1.cell? ⟨g1, 8, none⟩ = some (.string vtr) := by rw [X1.cell]; rfl
  have py8 : w1.cell? ⟨g2, 8, none⟩ = some (.string vtr) := by rw [X2.cell]; rfl
  have px9 : w1.cell? ⟨g1, 9, none⟩ = some (.string vst) := by rw [X1.cell]; rfl
  have py9 : w1.cell? ⟨g2, 9, none⟩ = some (.string vst) := by rw [X2.cell]; rfl
  have px10 : w1.cell? ⟨g1, 10, none⟩ = some (.slice fA fn fc) := by rw [X1.cell]; rfl
  have py10 : w1.cell? ⟨g2, 10, none⟩ = some (.slice fA fn fc) := by rw [X2.cell]; rfl
  have qx1 : (w1.drew.alloc (.cells #[.int .i64 0, .int .i64 0, .int .i64 0, .int .i64 0, .slice none 0 0, .int .i64 0, .int .i64 0, .string ⟨#[]⟩, .string ⟨#[]⟩, .slice none 0 0] 48)).cell? ⟨g1, 1, none⟩ = some (.int .i64 vho) := by rw [X1a.cell]; rfl
  have qy1 : (w1.drew.alloc (.cells #[.int .i64 0, .int .i64 0, .int .i64 0, .int .i64 0, .slice none 0 0, .int .i64 0, .int .i64 0, .string ⟨#[]⟩, .string ⟨#[]⟩, .slice none 0 0] 48)).cell? ⟨g2, 1, none⟩ = some (.int .i64 vho) := by rw [X2a.cell]; rfl
  have qx2 : (w1.drew.alloc (.cells #[.int .i64 0, .int .i64 0, .int .i64 0, .int .i64 0, .slice none 0 0, .int .i64 0, .int .i64 0, .string ⟨#[]⟩, .string ⟨#[]⟩, .slice none 0 0] 48)).cell? ⟨g1, 2, none⟩ = some (.int .i64 vfi) := by rw [X1a.cell]; rfl
  have qy2 : (w1.drew.alloc (.cells #[.int .i64 0, .int .i64 0, .int .i64 0, .int .i64 0, .slice none 0 0, .int .i64 0, .int .i64 0, .string ⟨#[]⟩, .string ⟨#[]⟩, .slice none 0 0] 48)).cell? ⟨g2, 2, none⟩ = some (.int .i64 vfi) := by rw [X2a.cell]; rfl
  have qx3 : (w1.drew.alloc (.cells #[.int .i64 0, .int .i64 0, .int .i64 0, .int .i64 0, .slice none 0 0, .int .i64 0, .int .i64 0, .string ⟨#[]⟩, .string ⟨#[]⟩, .slice none 0 0] 48)).cell? ⟨g1, 3, none⟩ = some (.int .i64 vfr) := by rw [X1a.cell]; rfl
  have qy3 : (w1.drew.alloc (.cells #[.int .i64 0, .int .i64 0, .int .i64 0, .int .i64 0, .slice none 0 0, .int .i64 0, .int .i64 0, .string ⟨#[]⟩, .string ⟨#[]⟩, .slice none 0 0] 48)).cell? ⟨g2, 3, none⟩ = some (.int .i64 vfr) := by rw [X2a.cell]; rfl
  have qx4 : (w1.drew.alloc (.cells #[.int .i64 0, .int .i64 0, .int .i64 0, .int .i64 0, .slice none 0 0, .int .i64 0, .int .i64 0, .string ⟨#[]⟩, .string ⟨#[]⟩, .slice none 0 0] 48)).cell? ⟨g1, 4, none⟩ = some (.int .i64 vto) := by rw [X1a.cell]; rfl
  have qy4 : (w1.drew.alloc (.cells #[.int .i64 0, .int .i64 0, .int .i64 0, .int .i64 0, .slice none 0 0, .int .i64 0, .int .i64 0, .string ⟨#[]⟩, .string ⟨#[]⟩, .slice none 0 0] 48)).cell? ⟨g2, 4, none⟩ = some (.int .i64 vto) := by rw [X2a.cell]; rfl
  have qx5 : (w1.drew.alloc (.cells #[.int .i64 0, .int .i64 0, .int .i64 0, .int .i64 0, .slice none 0 0, .int .i64 0, .int .i64 0, .string ⟨#[]⟩, .string ⟨#[]⟩, .slice none 0 0] 48)).cell? ⟨g1, 5, none⟩ = some (.slice lA ln lc) := by rw [X1a.cell]; rfl
  have qy5 : (w1.drew.alloc (.cells #[.int .i64 0, .int .i64 0, .int .i64 0, .int .i64 0, .slice none 0 0, .int .i64 0, .int .i64 0, .string ⟨#[]⟩, .string ⟨#[]⟩, .slice none 0 0] 48)).cell? ⟨g2, 5, none⟩ = some (.slice lA ln lc) := by rw [X2a.cell]; rfl
  have qx6 : (w1.drew.alloc (.cells #[.int .i64 0, .int .i64 0, .int .i64 0, .int .i64 0, .slice none 0 0, .int .i64 0, .int .i64 0, .string ⟨#[]⟩, .string ⟨#[]⟩, .slice none 0 0] 48)).cell? ⟨g1, 6, none⟩ = some (.int .i64 vti) := by rw [X1a.cell]; rfl
  have qy6 : (w1.drew.alloc (.cells #[.int .i64 0, .int .i64 0, .int .i64 0, .int .i64 0, .slice none 0 0, .int .i64 0, .int .i64 0, .string ⟨#[]⟩, .string ⟨#[]⟩, .slice none 0 0] 48)).cell? ⟨g2, 6, none⟩ = some (.int .i64 vti) := by rw [X2a.cell]; rfl
  have qx7 : (w1.drew.alloc (.cells #[.int .i64 0, .int .i64 0, .int .i64 0, .int .i64 0, .slice none 0 0, .int .i64 0, .int .i64 0, .string ⟨#[]⟩, .string ⟨#[]⟩, .slice none 0 0] 48)).cell? ⟨g1, 7, none⟩ = some (.int .i64 vwt) := by rw [X1a.cell]; rfl
  have qy7 : (w1.drew.alloc (.cells #[.int .i64 0, .int .i64 0, .int .i64 0, .int .i64 0, .slice none 0 0, .int .i64 0, .int .i64 0, .string ⟨#[]⟩, .string ⟨#[]⟩, .slice none 0 0] 48)).cell? ⟨g2, 7, none⟩ = some (.int .i64 vwt) := by rw [X2a.cell]; rfl
  have qx8 : (w1.drew.alloc (.cells #[.int .i64 0, .int .i64 0, .int .i64 0, .int .i64 0, .slice none 0 0, .int .i64 0, .int .i64 0, .string ⟨#[]⟩, .string ⟨#[]⟩, .slice none 0 0] 48)).cell? ⟨g1, 8, none⟩ = some (.string vtr) := by rw [X1a.cell]; rfl
  have qy8 : (w1.drew.alloc (.cells #[.int .i64 0, .int .i64 0, .int .i64 0, .int .i64 0, .slice none 0 0, .int .i64 0, .int .i64 0, .string ⟨#[]⟩, .string ⟨#[]⟩, .slice none 0 0] 48)).cell? ⟨g2, 8, none⟩ = some (.string vtr) := by rw [X2a.cell]; rfl
  have qx9 : (w1.drew.alloc (.cells #[.int .i64 0, .int .i64 0, .int .i64 0, .int .i64 0, .slice none 0 0, .int .i64 0, .int .i64 0, .string ⟨#[]⟩, .string ⟨#[]⟩, .slice none 0 0] 48)).cell? ⟨g1, 9, none⟩ = some (.string vst) := by rw [X1a.cell]; rfl
  have qy9 : (w1.drew.alloc (.cells #[.int .i64 0, .int .i64 0, .int .i64 0, .int .i64 0, .slice none 0 0, .int .i64 0, .int .i64 0, .string ⟨#[]⟩, .string ⟨#[]⟩, .slice none 0 0] 48)).cell? ⟨g2, 9, none⟩ = some (.string vst) := by rw [X2a.cell]; rfl
  have qx10 : (w1.drew.alloc (.cells #[.int .i64 0, .int .i64 0, .int .i64 0, .int .i64 0, .slice none 0 0, .int .i64 0, .int .i64 0, .string ⟨#[]⟩, .string ⟨#[]⟩, .slice none 0 0] 48)).cell? ⟨g1, 10, none⟩ = some (.slice fA fn fc) := by rw [X1a.cell]; rfl
  have qy10 : (w1.drew.alloc (.cells #[.int .i64 0, .int .i64 0, .int .i64 0, .int .i64 0, .slice none 0 0, .int .i64 0, .int .i64 0, .string ⟨#[]⟩, .string ⟨#[]⟩, .slice none 0 0] 48)).cell? ⟨g2, 10, none⟩ = some (.slice fA fn fc) := by rw [X2a.cell]; rfl
  have rx1 : ((w1.drew.alloc (.cells #[.int .i64 0, .int .i64 0, .int .i64 0, .int .i64 0, .slice none 0 0, .int .i64 0, .int .i64 0, .string ⟨#[]⟩, .string ⟨#[]⟩, .slice none 0 0] 48)).alloc (.cells #[.int .i64 0, .int .i64 0, .int .i64 0, .int .i64 0, .slice none 0 0, .int .i64 0, .int .i64 0, .string ⟨#[]⟩, .string ⟨#[]⟩, .slice none 0 0] 48)).cell? ⟨g1, 1, none⟩ = some (.int .i64 vho) := by rw [X1b.cell]; rfl
  have ry1 : ((w1.drew.alloc (.cells #[.int .i64 0, .int .i64 0, .int .i64 0, .int .i64 0, .slice none 0 0, .int .i64 0, .int .i64 0, .string ⟨#[]⟩, .string ⟨#[]⟩, .slice none 0 0] 48)).alloc (.cells #[.int .i64 0, .int .i64 0, .int .i64 0, .int .i64 0, .slice none 0 0, .int .i64 0, .int .i64 0, .string ⟨#[]⟩, .string ⟨#[]⟩, .slice none 0 0] 48)).cell? ⟨g2, 1, none⟩ = some (.int .i64 vho) := by rw [X2b.cell]; rfl
  have rx2 : ((w1.drew.alloc (.cells #[.int .i64 0, .int .i64 0, .int .i64 0, .int .i64 0, .slice none 0 0, .int .i64 0, .int .i64 0, .string ⟨#[]⟩, .string ⟨#[]⟩, .slice none 0 0] 48)).alloc (.cells #[.int .i64 0, .int .i64 0, .int .i64 0, .int .i64 0, .slice none 0 0, .int .i64 0, .int .i64 0, .string ⟨#[]⟩, .string ⟨#[]⟩, .slice none 0 0] 48)).cell? ⟨g1, 2, none⟩ = some (.int .i64 vfi) := by rw [X1b.cell]; rfl
  have ry2 : ((w1.drew.alloc (.cells #[.int .i64 0, .int .i64 0, .int .i64 0, .int .i64 0, .slice none 0 0, .int .i64 0, .int .i64 0, .string ⟨#[]⟩, .string ⟨#[]⟩, .slice none 0 0] 48)).alloc (.cells #[.int .i64 0, .int .i64 0, .int .i64 0, .int .i64 0, .slice none 0 0, .int .i64 0, .int .i64 0, .string ⟨#[]⟩, .string ⟨#[]⟩, .slice none 0 0] 48)).cell? ⟨g2, 2, none⟩ = some (.int .i64 vfi) := by rw [X2b.cell]; rfl
  have rx3 : ((w1.drew.alloc (.cells #[.int .i64 0, .int .i64 0, .int .i64 0, .int .i64 0, .slice none 0 0, .int .i64 0, .int .i64 0, .string ⟨#[]⟩, .string ⟨#[]⟩, .slice none 0 0] 48)).alloc (.cells #[.int .i64 0, .int .i64 0, .int .i64 0, .int .i64 0, .slice none 0 0, .int .i64 0, .int .i64 0, .string ⟨#[]⟩, .string ⟨#[]⟩, .slice none 0 0] 48)).cell? ⟨g1, 3, none⟩ = some (.int .i64 vfr) := by rw [X1b.cell]; rfl
  have ry3 : ((w1.drew.alloc (.cells #[.int .i64 0, .int .i64 0, .int .i64 0, .int .i64 0, .slice none 0 0, .int .i64 0, .int .i64 0, .string ⟨#[]⟩, .string ⟨#[]⟩, .slice none 0 0] 48)).alloc (.cells #[.int .i64 0, .int .i64 0, .int .i64 0, .int .i64 0, .slice none 0 0, .int .i64 0, .int .i64 0, .string ⟨#[]⟩, .string ⟨#[]⟩, .slice none 0 0] 48)).cell? ⟨g2, 3, none⟩ = some (.int .i64 vfr) := by rw [X2b.cell]; rfl
  have rx4 : ((w1.drew.alloc (.cells #[.int .i64 0, .int .i64 0, .int .i64 0, .int .i64 0, .slice none 0 0, .int .i64 0, .int .i64 0, .string ⟨#[]⟩, .string ⟨#[]⟩, .slice none 0 0] 48)).alloc (.cells #[.int .i64 0, .int .i64 0, .int .i64 0, .int .i64 0, .slice none 0 0, .int .i64 0, .int .i64 0, .string ⟨#[]⟩, .string ⟨#[]⟩, .slice none 0 0] 48)).cell? ⟨g1, 4, none⟩ = some (.int .i64 vto) := by rw [X1b.cell]; rfl
  have ry4 : ((w1.drew.alloc (.cells #[.int .i64 0, .int .i64 0, .int .i64 0, .int .i64 0, .slice none 0 0, .int .i64 0, .int .i64 0, .string ⟨#[]⟩, .string ⟨#[]⟩, .slice none 0 0] 48)).alloc (.cells #[.int .i64 0, .int .i64 0, .int .i64 0, .int .i64 0, .slice none 0 0, .int .i64 0, .int .i64 0, .string ⟨#[]⟩, .string ⟨#[]⟩, .slice none 0 0] 48)).cell? ⟨g2, 4, none⟩ = some (.int .i64 vto) := by rw [X2b.cell]; rfl
  have rx5 : ((w1.drew.alloc (.cells #[.int .i64 0, .int .i64 0, .int .i64 0, .int .i64 0, .slice none 0 0, .int .i64 0, .int .i64 0, .string ⟨#[]⟩, .string ⟨#[]⟩, .slice none 0 0] 48)).alloc (.cells #[.int .i64 0, .int .i64 0, .int .i64 0, .int .i64 0, .slice none 0 0, .int .i64 0, .int .i64 0, .string ⟨#[]⟩, .string ⟨#[]⟩, .slice none 0 0] 48)).cell? ⟨g1, 5, none⟩ = some (.slice lA ln lc) := by rw [X1b.cell]; rfl
  have ry5 : ((w1.drew.alloc (.cells #[.int .i64 0, .int .i64 0, .int .i64 0, .int .i64 0, .slice none 0 0, .int .i64 0, .int .i64 0, .string ⟨#[]⟩, .string ⟨#[]⟩, .slice none 0 0] 48)).alloc (.cells #[.int .i64 0, .int .i64 0, .int .i64 0, .int .i64 0, .slice none 0 0, .int .i64 0, .int .i64 0, .string ⟨#[]⟩, .string ⟨#[]⟩, .slice none 0 0] 48)).cell? ⟨g2, 5, none⟩ = some (.slice lA ln lc) := by rw [X2b.cell]; rfl
  have rx6 : ((w1.drew.alloc (.cells #[.int .i64 0, .int .i64 0, .int .i64 0, .int .i64 0, .slice none 0 0, .int .i64 0, .int .i64 0, .string ⟨#[]⟩, .string ⟨#[]⟩, .slice none 0 0] 48)).alloc (.cells #[.int .i64 0, .int .i64 0, .int .i64 0, .int .i64 0, .slice none 0 0, .int .i64 0, .int .i64 0, .string ⟨#[]⟩, .string ⟨#[]⟩, .slice none 0 0] 48)).cell? ⟨g1, 6, none⟩ = some (.int .i64 vti) := by rw [X1b.cell]; rfl
  have ry6 : ((w1.drew.alloc (.cells #[.int .i64 0, .int .i64 0, .int .i64 0, .int .i64 0, .slice none 0 0, .int .i64 0, .int .i64 0, .string ⟨#[]⟩, .string ⟨#[]⟩, .slice none 0 0] 48)).alloc (.cells #[.int .i64 0, .int .i64 0, .int .i64 0, .int .i64 0, .slice none 0 0, .int .i64 0, .int .i64 0, .string ⟨#[]⟩, .string ⟨#[]⟩, .slice none 0 0] 48)).cell? ⟨g2, 6, none⟩ = some (.int .i64 vti) := by rw [X2b.cell]; rfl
  have rx7 : ((w1.drew.alloc (.cells #[.int .i64 0, .int .i64 0, .int .i64 0, .int .i64 0, .slice none 0 0, .int .i64 0, .int .i64 0, .string ⟨#[]⟩, .string ⟨#[]⟩, .slice none 0 0] 48)).alloc (.cells #[.int .i64 0, .int .i64 0, .int .i64 0, .int .i64 0, .slice none 0 0, .int .i64 0, .int .i64 0, .string ⟨#[]⟩, .string ⟨#[]⟩, .slice none 0 0] 48)).cell? ⟨g1, 7, none⟩ = some (.int .i64 vwt) := by rw [X1b.cell]; rfl
  have ry7 : ((w1.drew.alloc (.cells #[.int .i64 0, .int .i64 0, .int .i64 0, .int .i64 0, .slice none 0 0, .int .i64 0, .int .i64 0, .string ⟨#[]⟩, .string ⟨#[]⟩, .slice none 0 0] 48)).alloc (.cells #[.int .i64 0, .int .i64 0, .int .i64 0, .int .i64 0, .slice none 0 0, .int .i64 0, .int .i64 0, .string ⟨#[]⟩, .string ⟨#[]⟩, .slice none 0 0] 48)).cell? ⟨g2, 7, none⟩ = some (.int .i64 vwt) := by rw [X2b.cell]; rfl
  have rx8 : ((w1.drew.alloc (.cells #[.int .i64 0, .int .i64 0, .int .i64 0, .int .i64 0, .slice none 0 0, .int .i64 0, .int .i64 0, .string ⟨#[]⟩, .string ⟨#[]⟩, .slice none 0 0] 48)).alloc (.cells #[.int .i64 0, .int .i64 0, .int .i64 0, .int .i64 0, .slice none 0 0, .int .i64 0, .int .i64 0, .string ⟨#[]⟩, .string ⟨#[]⟩, .slice none 0 0] 48)).cell? ⟨g1, 8, none⟩ = some (.string vtr) := by rw [X1b.cell]; rfl
  have ry8 : ((w1.drew.alloc (.cells #[.int .i64 0, .int .i64 0, .int .i64 0, .int .i64 0, .slice none 0 0, .int .i64 0, .int .i64 0, .string ⟨#[]⟩, .string ⟨#[]⟩, .slice none 0 0] 48)).alloc (.cells #[.int .i64 0, .int .i64 0, .int .i64 0, .int .i64 0, .slice none 0 0, .int .i64 0, .int .i64 0, .string ⟨#[]⟩, .string ⟨#[]⟩, .slice none 0 0] 48)).cell? ⟨g2, 8, none⟩ = some (.string vtr) := by rw [X2b.cell]; rfl
  have rx9 : ((w1.drew.alloc (.cells #[.int .i64 0, .int .i64 0, .int .i64 0, .int .i64 0, .slice none 0 0, .int .i64 0, .int .i64 0, .string ⟨#[]⟩, .string ⟨#[]⟩, .slice none 0 0] 48)).alloc (.cells #[.int .i64 0, .int .i64 0, .int .i64 0, .int .i64 0, .slice none 0 0, .int .i64 0, .int .i64 0, .string ⟨#[]⟩, .string ⟨#[]⟩, .slice none 0 0] 48)).cell? ⟨g1, 9, none⟩ = some (.string vst) := by rw [X1b.cell]; rfl
  have ry9 : ((w1.drew.alloc (.cells #[.int .i64 0, .int .i64 0, .int .i64 0, .int .i64 0, .slice none 0 0, .int .i64 0, .int .i64 0, .string ⟨#[]⟩, .string ⟨#[]⟩, .slice none 0 0] 48)).alloc (.cells #[.int .i64 0, .int .i64 0, .int .i64 0, .int .i64 0, .slice none 0 0, .int .i64 0, .int .i64 0, .string ⟨#[]⟩, .string ⟨#[]⟩, .slice none 0 0] 48)).cell? ⟨g2, 9, none⟩ = some (.string vst) := by rw [X2b.cell]; rfl
  have rx10 : ((w1.drew.alloc (.cells #[.int .i64 0, .int .i64 0, .int .i64 0, .int .i64 0, .slice none 0 0, .int .i64 0, .int .i64 0, .string ⟨#[]⟩, .string ⟨#[]⟩, .slice none 0 0] 48)).alloc (.cells #[.int .i64 0, .int .i64 0, .int .i64 0, .int .i64 0, .slice none 0 0, .int .i64 0, .int .i64 0, .string ⟨#[]⟩, .string ⟨#[]⟩, .slice none 0 0] 48)).cell? ⟨g1, 10, none⟩ = some (.slice fA fn fc) := by rw [X1b.cell]; rfl
  have ry10 : ((w1.drew.alloc (.cells #[.int .i64 0, .int .i64 0, .int .i64 0, .int .i64 0, .slice none 0 0, .int .i64 0, .int .i64 0, .string ⟨#[]⟩, .string ⟨#[]⟩, .slice none 0 0] 48)).alloc (.cells #[.int .i64 0, .int .i64 0, .int .i64 0, .int .i64 0, .slice none 0 0, .int .i64 0, .int .i64 0, .string ⟨#[]⟩, .string ⟨#[]⟩, .slice none 0 0] 48)).cell? ⟨g2, 10, none⟩ = some (.slice fA fn fc) := by rw [X2b.cell]; rfl
  have z10 : ((w1.drew.alloc (.cells #[.int .i64 0, .int .i64 0, .int .i64 0, .int .i64 0, .slice none 0 0, .int .i64 0, .int .i64 0, .string ⟨#[]⟩, .string ⟨#[]⟩, .slice none 0 0] 48)).alloc (.cells #[.int .i64 0, .int .i64 0, .int .i64 0, .int .i64 0, .slice none 0 0, .int .i64 0, .int .i64 0, .string ⟨#[]⟩, .string ⟨#[]⟩, .slice none 0 0] 48)).cell? ⟨w1.heap.size, 0, none⟩ = some (.int .i64 0) := by rw [Z1b.cell]; rfl
  have z20 : ((w1.drew.alloc (.cells #[.int .i64 0, .int .i64 0, .int .i64 0, .int .i64 0, .slice none 0 0, .int .i64 0, .int .i64 0, .string ⟨#[]⟩, .string ⟨#[]⟩, .slice none 0 0] 48)).alloc (.cells #[.int .i64 0, .int .i64 0, .int .i64 0, .int .i64 0, .slice none 0 0, .int .i64 0, .int .i64 0, .string ⟨#[]⟩, .string ⟨#[]⟩, .slice none 0 0] 48)).cell? ⟨w1.heap.size + 1, 0, none⟩ = some (.int .i64 0) := by rw [Z2b.cell]; rfl
  have f10 := Z1b.frozen 0
  have f20 := Z2b.frozen 0
  have z11 : ((w1.drew.alloc (.cells #[.int .i64 0, .int .i64 0, .int .i64 0, .int .i64 0, .slice none 0 0, .int .i64 0, .int .i64 0, .string ⟨#[]⟩, .string ⟨#[]⟩, .slice none 0 0] 48)).alloc (.cells #[.int .i64 0, .int .i64 0, .int .i64 0, .int .i64 0, .slice none 0 0, .int .i64 0, .int .i64 0, .string ⟨#[]⟩, .string ⟨#[]⟩, .slice none 0 0] 48)).cell? ⟨w1.heap.size, 1, none⟩ = some (.int .i64 0) := by rw [Z1b.cell]; rfl
  have z21 : ((w1.drew.alloc (.cells #[.int .i64 0, .int .i64 0, .int .i64 0, .int .i64 0, .slice none 0 0, .int .i64 0, .int .i64 0, .string ⟨#[]⟩, .string ⟨#[]⟩, .slice none 0 0] 48)).alloc (.cells #[.int .i64 0, .int .i64 0, .int .i64 0, .int .i64 0, .slice none 0 0, .int .i64 0, .int .i64 0, .string ⟨#[]⟩, .string ⟨#[]⟩, .slice none 0 0] 48)).cell? ⟨w1.heap.size + 1, 1, none⟩ = some (.int .i64 0) := by rw [Z2b.cell]; rfl
  have f11 := Z1b.frozen 1
  have f21 := Z2b.frozen 1
  have z12 : ((w1.drew.alloc (.cells #[.int .i64 0, .int .i64 0, .int .i64 0, .int .i64 0, .slice none 0 0, .int .i64 0, .int .i64 0, .string ⟨#[]⟩, .string ⟨#[]⟩, .slice none 0 0] 48)).alloc (.cells #[.int .i64 0, .int .i64 0, .int .i64 0, .int .i64 0, .slice none 0 0, .int .i64 0, .int .i64 0, .string ⟨#[]⟩, .string ⟨#[]⟩, .slice none 0 0] 48)).cell? ⟨w1.heap.size, 2, none⟩ = some (.int .i64 0) := by rw [Z1b.cell]; rfl
  have z22 : ((w1.drew.alloc (.cells #[.int .i64 0, .int .i64 0, .int .i64 0, .int .i64 0, .slice none 0 0, .int .i64 0, .int .i64 0, .string ⟨#[]⟩, .string ⟨#[]⟩, .slice none 0 0] 48)).alloc (.cells #[.int .i64 0, .int .i64 0, .int .i64 0, .int .i64 0, .slice none 0 0, .int .i64 0, .int .i64 0, .string ⟨#[]⟩, .string ⟨#[]⟩, .slice none 0 0] 48)).cell? ⟨w1.heap.size + 1, 2, none⟩ = some (.int .i64 0) := by rw [Z2b.cell]; rfl
  have f12 := Z1b.frozen 2
  have f22 := Z2b.frozen 2
  have z13 : ((w1.drew.alloc (.cells #[.int .i64 0, .int .i64 0, .int .i64 0, .int .i64 0, .slice none 0 0, .int .i64 0, .int .i64 0, .string ⟨#[]⟩, .string ⟨#[]⟩, .slice none 0 0] 48)).alloc (.cells #[.int .i64 0, .int .i64 0, .int .i64 0, .int .i64 0, .slice none 0 0, .int .i64 0, .int .i64 0, .string ⟨#[]⟩, .string ⟨#[]⟩, .slice none 0 0] 48)).cell? ⟨w1.heap.size, 3, none⟩ = some (.int .i64 0) := by rw [Z1b.cell]; rfl
  have z23 : ((w1.drew.alloc (.cells #[.int .i64 0, .int .i64 0, .int .i64 0, .int .i64 0, .slice none 0 0, .int .i64 0, .int .i64 0, .string ⟨#[]⟩, .string ⟨#[]⟩, .slice none 0 0] 48)).alloc (.cells #[.int .i64 0, .int .i64 0, .int .i64 0, .int .i64 0, .slice none 0 0, .int .i64 0, .int .i64 0, .string ⟨#[]⟩, .string ⟨#[]⟩, .slice none 0 0] 48)).cell? ⟨w1.heap.size + 1, 3, none⟩ = some (.int .i64 0) := by rw [Z2b.cell]; rfl
  have f13 := Z1b.frozen 3
  have f23 := Z2b.frozen 3
  have z14 : ((w1.drew.alloc (.cells #[.int .i64 0, .int .i64 0, .int .i64 0, .int .i64 0, .slice none 0 0, .int .i64 0, .int .i64 0, .string ⟨#[]⟩, .string ⟨#[]⟩, .slice none 0 0] 48)).alloc (.cells #[.int .i64 0, .int .i64 0, .int .i64 0, .int .i64 0, .slice none 0 0, .int .i64 0, .int .i64 0, .string ⟨#[]⟩, .string ⟨#[]⟩, .slice none 0 0] 48)).cell? ⟨w1.heap.size, 4, none⟩ = some (.slice none 0 0) := by rw [Z1b.cell]; rfl
  have z24 : ((w1.drew.alloc (.cells #[.int .i64 0, .int .i64 0, .int .i64 0, .int .i64 0, .slice none 0 0, .int .i64 0, .int .i64 0, .string ⟨#[]⟩, .string ⟨#[]⟩, .slice none 0 0] 48)).alloc (.cells #[.int .i64 0, .int .i64 0, .int .i64 0, .int .i64 0, .slice none 0 0, .int .i64 0, .int .i64 0, .string ⟨#[]⟩, .string ⟨#[]⟩, .slice none 0 0] 48)).cell? ⟨w1.heap.size + 1, 4, none⟩ = some (.slice none 0 0) := by rw [Z2b.cell]; rfl
  have f14 := Z1b.frozen 4
  have f24 := Z2b.frozen 4
  have z15 : ((w1.drew.alloc (.cells #[.int .i64 0, .int .i64 0, .int .i64 0, .int .i64 0, .slice none 0 0, .int .i64 0, .int .i64 0, .string ⟨#[]⟩, .string ⟨#[]⟩, .slice none 0 0] 48)).alloc (.cells #[.int .i64 0, .int .i64 0, .int .i64 0, .int .i64 0, .slice none 0 0, .int .i64 0, .int .i64 0, .string ⟨#[]⟩, .string ⟨#[]⟩, .slice none 0 0] 48)).cell? ⟨w1.heap.size, 5, none⟩ = some (.int .i64 0) := by rw [Z1b.cell]; rfl
  have z25 : ((w1.drew.alloc (.cells #[.int .i64 0, .int .i64 0, .int .i64 0, .int .i64 0, .slice none 0 0, .int .i64 0, .int .i64 0, .string ⟨#[]⟩, .string ⟨#[]⟩, .slice none 0 0] 48)).alloc (.cells #[.int .i64 0, .int .i64 0, .int .i64 0, .int .i64 0, .slice none 0 0, .int .i64 0, .int .i64 0, .string ⟨#[]⟩, .string ⟨#[]⟩, .slice none 0 0] 48)).cell? ⟨w1.heap.size + 1, 5, none⟩ = some (.int .i64 0) := by rw [Z2b.cell]; rfl
  have f15 := Z1b.frozen 5
  have f25 := Z2b.frozen 5
  have z16 : ((w1.drew.alloc (.cells #[.int .i64 0, .int .i64 0, .int .i64 0, .int .i64 0, .slice none 0 0, .int .i64 0, .int .i64 0, .string ⟨#[]⟩, .string ⟨#[]⟩, .slice none 0 0] 48)).alloc (.cells #[.int .i64 0, .int .i64 0, .int .i64 0, .int .i64 0, .slice none 0 0, .int .i64 0, .int .i64 0, .string ⟨#[]⟩, .string ⟨#[]⟩, .slice none 0 0] 48)).cell? ⟨w1.heap.size, 6, none⟩ = some (.int .i64 0) := by rw [Z1b.cell]; rfl
  have z26 : ((w1.drew.alloc (.cells #[.int .i64 0, .int .i64 0, .int .i64 0, .int .i64 0, .slice none 0 0, .int .i64 0, .int .i64 0, .string ⟨#[]⟩, .string ⟨#[]⟩, .slice none 0 0] 48)).alloc (.cells #[.int .i64 0, .int .i64 0, .int .i64 0, .int .i64 0, .slice none 0 0, .int .i64 0, .int .i64 0, .string ⟨#[]⟩, .string ⟨#[]⟩, .slice none 0 0] 48)).cell? ⟨w1.heap.size + 1, 6, none⟩ = some (.int .i64 0) := by rw [Z2b.cell]; rfl
  have f16 := Z1b.frozen 6
  have f26 := Z2b.frozen 6
  have z17 : ((w1.drew.alloc (.cells #[.int .i64 0, .int .i64 0, .int .i64 0, .int .i64 0, .slice none 0 0, .int .i64 0, .int .i64 0, .string ⟨#[]⟩, .string ⟨#[]⟩, .slice none 0 0] 48)).alloc (.cells #[.int .i64 0, .int .i64 0, .int .i64 0, .int .i64 0, .slice none 0 0, .int .i64 0, .int .i64 0, .string ⟨#[]⟩, .string ⟨#[]⟩, .slice none 0 0] 48)).cell? ⟨w1.heap.size, 7, none⟩ = some (.string ⟨#[]⟩) := by rw [Z1b.cell]; rfl
  have z27 : ((w1.drew.alloc (.cells #[.int .i64 0, .int .i64 0, .int .i64 0, .int .i64 0, .slice none 0 0, .int .i64 0, .int .i64 0, .string ⟨#[]⟩, .string ⟨#[]⟩, .slice none 0 0] 48)).alloc (.cells #[.int .i64 0, .int .i64 0, .int .i64 0, .int .i64 0, .slice none 0 0, .int .i64 0, .int .i64 0, .string ⟨#[]⟩, .string ⟨#[]⟩, .slice none 0 0] 48)).cell? ⟨w1.heap.size + 1, 7, none⟩ = some (.string ⟨#[]⟩) := by rw [Z2b.cell]; rfl
  have f17 := Z1b.frozen 7
  have f27 := Z2b.frozen 7
  have z18 : ((w1.drew.alloc (.cells #[.int .i64 0, .int .i64 0, .int .i64 0, .int .i64 0, .slice none 0 0, .int .i64 0, .int .i64 0, .string ⟨#[]⟩, .string ⟨#[]⟩, .slice none 0 0] 48)).alloc (.cells #[.int .i64 0, .int .i64 0, .int .i64 0, .int .i64 0, .slice none 0 0, .int .i64 0, .int .i64 0, .string ⟨#[]⟩, .string ⟨#[]⟩, .slice none 0 0] 48)).cell? ⟨w1.heap.size, 8, none⟩ = some (.string ⟨#[]⟩) := by rw [Z1b.cell]; rfl
  have z28 : ((w1.drew.alloc (.cells #[.int .i64 0, .int .i64 0, .int .i64 0, .int .i64 0, .slice none 0 0, .int .i64 0, .int .i64 0, .string ⟨#[]⟩, .string ⟨#[]⟩, .slice none 0 0] 48)).alloc (.cells #[.int .i64 0, .int .i64 0, .int .i64 0, .int .i64 0, .slice none 0 0, .int .i64 0, .int .i64 0, .string ⟨#[]⟩, .string ⟨#[]⟩, .slice none 0 0] 48)).cell? ⟨w1.heap.size + 1, 8, none⟩ = some (.string ⟨#[]⟩) := by rw [Z2b.cell]; rfl
  have f18 := Z1b.frozen 8
  have f28 := Z2b.frozen 8
  have z19 : ((w1.drew.alloc (.cells #[.int .i64 0, .int .i64 0, .int .i64 0, .int .i64 0, .slice none 0 0, .int .i64 0, .int .i64 0, .string ⟨#[]⟩, .string ⟨#[]⟩, .slice none 0 0] 48)).alloc (.cells #[.int .i64 0, .int .i64 0, .int .i64 0, .int .i64 0, .slice none 0 0, .int .i64 0, .int .i64 0, .string ⟨#[]⟩, .string ⟨#[]⟩, .slice none 0 0] 48)).cell? ⟨w1.heap.size, 9, none⟩ = some (.slice none 0 0) := by rw [Z1b.cell]; rfl
  have z29 : ((w1.drew.alloc (.cells #[.int .i64 0, .int .i64 0, .int .i64 0, .int .i64 0, .slice none 0 0, .int .i64 0, .int .i64 0, .string ⟨#[]⟩, .string ⟨#[]⟩, .slice none 0 0] 48)).alloc (.cells #[.int .i64 0, .int .i64 0, .int .i64 0, .int .i64 0, .slice none 0 0, .int .i64 0, .int .i64 0, .string ⟨#[]⟩, .string ⟨#[]⟩, .slice none 0 0] 48)).cell? ⟨w1.heap.size + 1, 9, none⟩ = some (.slice none 0 0) := by rw [Z2b.cell]; rfl
  have f19 := Z1b.frozen 9
  have f29 := Z2b.frozen 9
  clear hK
  have FX1 : Blk ((w1.alloc (.cells #[.int .i64 vho, .int .i64 vfi, .int .i64 vfr, .int .i64 vto, .slice lA ln lc, .int .i64 vti, .int .i64 vwt, .string vtr, .string vst, .slice fA fn fc] 48)).alloc (.cells #[.int .i64 vho, .int .i64 vfi, .int .i64 vfr, .int .i64 vto, .slice lA ln lc, .int .i64 vti, .int .i64 vwt, .string vtr, .string vst, .slice fA fn fc] 48)).drew g1 52 #[.string ⟨#[]⟩, .int .i64 vho, .int .i64 vfi, .int .i64 vfr, .int .i64 vto, .slice lA ln lc, .int .i64 vti, .int .i64 vwt, .string vtr, .string vst, .slice fA fn fc] := Blk.alloc (Blk.alloc X1 _) _
  have FX2 : Blk ((w1.alloc (.cells #[.int .i64 vho, .int .i64 vfi, .int .i64 vfr, .int .i64 vto, .slice lA ln lc, .int .i64 vti, .int .i64 vwt, .string vtr, .string vst, .slice fA fn fc] 48)).alloc (.cells #[.int .i64 vho, .int .i64 vfi, .int .i64 vfr, .int .i64 vto, .slice lA ln lc, .int .i64 vti, .int .i64 vwt, .string vtr, .string vst, .slice fA fn fc] 48)).drew g2 52 #[.string ⟨#[]⟩, .int .i64 vho, .int .i64 vfi, .int .i64 vfr, .int .i64 vto, .slice lA ln lc, .int .i64 vti, .int .i64 vwt, .string vtr, .string vst, .slice fA fn fc] := Blk.alloc (Blk.alloc X2 _) _
  have F1 : Blk ((w1.alloc (.cells #[.int .i64 vho, .int .i64 vfi, .int .i64 vfr, .int .i64 vto, .slice lA ln lc, .int .i64 vti, .int .i64 vwt, .string vtr, .string vst, .slice fA fn fc] 48)).alloc (.cells #[.int .i64 vho, .int .i64 vfi, .int .i64 vfr, .int .i64 vto, .slice lA ln lc, .int .i64 vti, .int .i64 vwt, .string vtr, .string vst, .slice fA fn fc] 48)).drew w1.heap.size 48 #[.int .i64 vho, .int .i64 vfi, .int .i64 vfr, .int .i64 vto, .slice lA ln lc, .int .i64 vti, .int .i64 vwt, .string vtr, .string vst, .slice fA fn fc] := Blk.alloc (Blk.new w1 _ _) _
  have F2 : Blk ((w1.alloc (.cells #[.int .i64 vho, .int .i64 vfi, .int .i64 vfr, .int .i64 vto, .slice lA ln lc, .int .i64 vti, .int .i64 vwt, .string vtr, .string vst, .slice fA fn fc] 48)).alloc (.cells #[.int .i64 vho, .int .i64 vfi, .int .i64 vfr, .int .i64 vto, .slice lA ln lc, .int .i64 vti, .int .i64 vwt, .string vtr, .string vst, .slice fA fn fc] 48)).drew (w1.heap.size + 1) 48 #[.int .i64 vho, .int .i64 vfi, .int .i64 vfr, .int .i64 vto, .slice lA ln lc, .int .i64 vti, .int .i64 vwt, .string vtr, .string vst, .slice fA fn fc] := by
    have := Blk.new (w1.alloc (.cells #[.int .i64 vho, .int .i64 vfi, .int .i64 vfr, .int .i64 vto, .slice lA ln lc, .int .i64 vti, .int .i64 vwt, .string vtr, .string vst, .slice fA fn fc] 48)) 48 #[.int .i64 vho, .int .i64 vfi, .int .i64 vfr, .int .i64 vto, .slice lA ln lc, .int .i64 vti, .int .i64 vwt, .string vtr, .string vst, .slice fA fn fc]
    rw [show (w1.alloc (.cells #[.int .i64 vho, .int .i64 vfi, .int .i64 vfr, .int .i64 vto, .slice lA ln lc, .int .i64 vti, .int .i64 vwt, .string vtr, .string vst, .slice fA fn fc] 48)).heap.size = w1.heap.size + 1 by simp] at this
    exact this
  have FB : Below w.heap.size w ((w1.alloc (.cells #[.int .i64 vho, .int .i64 vfi, .int .i64 vfr, .int .i64 vto, .slice lA ln lc, .int .i64 vti, .int .i64 vwt, .string vtr, .string vst, .slice fA fn fc] 48)).alloc (.cells #[.int .i64 vho, .int .i64 vfi, .int .i64 vfr, .int .i64 vto, .slice lA ln lc, .int .i64 vti, .int .i64 vwt, .string vtr, .string vst, .slice fA fn fc] 48)).drew := ((hb.alloc n0 _).alloc (by simp; omega) _).drew
  have hf1 := hfin _ _ _ FX1 FX2 F1 F2 FB
  have hf2 := hfin _ _ _ FX1 FX2 F2 F1 FB
  have HF1 := keep hf1
  have HF2 := keep hf2
  clear hf1 hf2 hfin FX1 FX2 F1 F2 FB X1 X2 X1a X2a X1b X2b Z1b Z2b hbb hb hL hF hl hf
  go_region_with (fail)
  all_goals first
    | exact HF1.out
    | exact HF2.out
end Go.Proofs.YtncmbdcicjolcaaDoor
