/- FilterHash, part New: contracts of single functions of the filter package and its reference. -/
import Derived.Test.YtfainbgbeojcpaaHash
namespace Go.Proofs.Ytfainbgbeojcpaa
open Go.RowKit

theorem el25 : Elem Try.prog 25 67 1 8 (.int .u64 0) := ⟨Try.underlying25, by kernel_rfl, rfl, by decide⟩
theorem el31 : Elem Try.prog 31 3 1 8 (.int .i64 0) := ⟨Try.underlying31, by kernel_rfl, rfl, by decide⟩

def fwords (size : Int) : Nat := ((size + 63) / 64).toNat
theorem fwords_bd {size : Int} (h1 : 1 ≤ size) (h2 : size ≤ 65536) : 1 ≤ fwords size ∧ fwords size ≤ 1024 := by unfold fwords; omega

/-- The result of both News. -/
def NewRes (w : World) (size k : Int) (e : Ending) (w' : World) : Prop :=
  ∃ g, e = .returned (.tuple #[.agg #[.int .i64 k, .slice (some ⟨g, 0, none⟩) (fwords size) (fwords size)], .int .i64 0]) ∧
      w'.ownsRow w.heap.size 67 1 (.slice (some ⟨g, 0, none⟩) (fwords size) (fwords size)) (fwords size) (List.replicate (fwords size) (.int .u64 0)) ∧ Below w.heap.size w w'

theorem refNew_ok (size k : Int) (w : World) (h1 : 1 ≤ size) (h2 : size ≤ 65536) (h3 : 1 ≤ k) (h4 : k ≤ 8) :
    Calls Try.prog 10 #[.int .i64 size, .int .i64 k] w (NewRes w size k) := by
  have hf : ((size + 63) / 64) = (fwords size : Int) := by unfold fwords; omega
  have hF := keep hf
  clear hf
  have hle : fwords size ≤ 1024 := by unfold fwords; omega
  have a1 : decide (size < 1) = false := by simp; omega
  have a2 : decide (65536 < size) = false := by simp; omega
  have a3 : decide (k < 1) = false := by simp; omega
  have a4 : decide (8 < k) = false := by simp; omega
  go_enter Try.func10, Try.ntmps10
  go_wp2_with (refine wpList_make el25 rfl rfl _ _ rfl _ _ _ _ (fwords size) rfl rfl hF.out hF.out (by omega) (by unfold maxLen; omega) ?_; intro w1 hown hb hsz; obtain ⟨hc, hf⟩ := bcell hb; simp only [World.size_alloc] at hc hf hsz)
  refine bodyPost_ret (v := .tuple #[.agg #[.int .i64 k, .slice (some ⟨w.heap.size + 1, 0, none⟩) (fwords size) (fwords size)], .int .i64 0]) (by simp [results, Try.results10, go_sem, hc]) rfl ⟨w.heap.size + 1, rfl, ?_, ?_⟩
  · simp only [World.size_alloc] at hown
    exact own_base (ownsRow_setCell_below (ownsRow_setCell_below hown (by simp) _) (by simp) _) (by omega)
  · have hb0 : Below w.heap.size w w1 := ((Below.refl _ w).alloc (Nat.le_refl _) _).trans (hb.mono (by simp))
    exact (hb0.setCell (by simp) _).setCell (by simp) _

theorem new_ok (size k : Int) (w : World) (h1 : 1 ≤ size) (h2 : size ≤ 65536) (h3 : 1 ≤ k) (h4 : k ≤ 8) :
    Calls Try.prog 36 #[.int .i64 size, .int .i64 k] w (NewRes w size k) := by
  have hf : ((size + 64 - 1) / 64) = (fwords size : Int) := by unfold fwords; omega
  have hF := keep hf
  clear hf
  have hle : fwords size ≤ 1024 := by unfold fwords; omega
  have a1 : decide (size < 1) = false := by simp; omega
  have a2 : decide (65536 < size) = false := by simp; omega
  have a3 : decide (k < 1) = false := by simp; omega
  have a4 : decide (8 < k) = false := by simp; omega
  go_enter Try.func36, Try.ntmps36
  go_wp2_with (refine wpList_make el25 rfl rfl _ _ rfl _ _ _ _ (fwords size) rfl rfl hF.out hF.out (by omega) (by unfold maxLen; omega) ?_; intro w1 hown hb hsz; obtain ⟨hc, hf⟩ := bcell hb; simp only [World.size_alloc] at hc hf hsz)
  refine bodyPost_ret (v := .tuple #[.agg #[.int .i64 k, .slice (some ⟨w.heap.size + 1, 0, none⟩) (fwords size) (fwords size)], .int .i64 0]) (by simp [results, Try.results36, go_sem, hc]) rfl ⟨w.heap.size + 1, rfl, ?_, ?_⟩
  · simp only [World.size_alloc] at hown
    exact own_base (ownsRow_setCell_below (ownsRow_setCell_below hown (by simp) _) (by simp) _) (by omega)
  · have hb0 : Below w.heap.size w w1 := ((Below.refl _ w).alloc (Nat.le_refl _) _).trans (hb.mono (by simp))
    exact (hb0.setCell (by simp) _).setCell (by simp) _

theorem awake_true (w : World) : Calls Try.prog 9 #[] w fun e w' => e = .returned (.bool true) ∧ Below w.heap.size w w' := by
  go_enter Try.func9, Try.ntmps9
  go_wp2_with (go_at_call 36; refine (new_ok 100 3 _ (by omega) (by omega) (by omega) (by omega)).mono ?_; rintro e w1 ⟨g, rfl, hown, hb⟩)
  go_ret
  exact ⟨rfl, hb.alloc hb.size _⟩

theorem sameInts_same (v1 v2 : Value) (l : List Int) (w : World) (h1 : Sl w (lt w.heap.size) 1 v1 l.length (l.map (.int .i64))) (h2 : Sl w (lt w.heap.size) 1 v2 l.length (l.map (.int .i64))) (hm : l.length ≤ maxLen) :
    Calls Try.prog 15 #[v1, v2] w fun e w' => e = .returned (.bool true) ∧ Below w.heap.size w w' := by
  unfold maxLen at hm
  obtain ⟨A, c, rfl, hc, h1⟩ := h1.form
  obtain ⟨A', c', rfl, hc', h2⟩ := h2.form
  go_enter Try.func15, Try.ntmps15
  go_wp2
  go_loopw [5] (fun i wr => ∃ k : Nat, k ≤ l.length ∧ i = .int .i64 k ∧ Below w.heap.size w wr) (fun i _ => l.length - (intOf i).toNat)
  case atStart => exact ⟨0, Nat.zero_le _, rfl, Below.refl _ _⟩
  case round =>
    obtain ⟨k, hk, rfl, hb⟩ := hrel
    by_cases hlt : k < l.length
    · obtain ⟨b1, o1, u1, rfl, hb1, hx1, hc1⟩ := (h1.below hb (Nat.le_refl _)).at_ hlt
      obtain ⟨b2, o2, u2, rfl, hb2, hx2, hc2⟩ := (h2.below hb (Nat.le_refl _)).at_ hlt
      have hu : u1 = .int .i64 l[k] := by simpa [hlt] using hx1.symm
      have hu2 : u2 = .int .i64 l[k] := by simpa [hlt] using hx2.symm
      subst hu hu2
      have hi1 : (0 : Int) ≤ (k : Int) := by omega
      have hi2 : (k : Int) < (l.length : Int) := by omega
      clear hx1 hx2
      go_wp2
      go_quiet (fail)
      go_wp2
      go_roundw
      case rel => exact ⟨k + 1, by omega, by go_num, below_drewN hb _⟩
      case measure => simp [intOf]; omega
    · go_wp2
      go_ret
      exact ⟨rfl, hb⟩
end Go.Proofs.Ytfainbgbeojcpaa
