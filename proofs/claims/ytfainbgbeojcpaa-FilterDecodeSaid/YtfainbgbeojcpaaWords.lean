/- The words that the statements of the filter draw. -/
import Derived.Test.YtfainbgbeojcpaaDrawWord
namespace Go.Proofs.Ytfainbgbeojcpaa
open Go.RowKit
theorem elStrs : Elem Try.prog 40 9 1 16 (.string .empty) := ⟨Try.underlying40, by kernel_rfl, rfl, by decide⟩

def WordsRes (w : World) (gc : Nat) (e : Ending) (w' : World) : Prop :=
  ∃ (v : Value) (l : List ByteArray), e = .returned v ∧ l.length ≤ 30 ∧ (∀ s ∈ l, s.size ≤ 64) ∧ w'.ownsRow w.heap.size 9 1 v l.length (l.map .string) ∧ Codes w' gc ∧ w.grownBy w' (some gc)

theorem words_any (gc : Nat) (w : World) (h : Codes w gc) : Calls Try.prog 18 #[.pointer (some ⟨gc, 0, none⟩)] w (WordsRes w gc) := by
  have hl := h.lt_
  go_enter Try.func18, Try.ntmps18
  go_wp2_with fail
  refine (drawNext gc _ _ h (by omega) (by omega)).mono ?_
  rintro e w1 ⟨r, rfl, r0, r1, _, hC1, hg1⟩
  have r2 := r1 (by omega)
  clear r1
  go_wp2_with fail
  go_loopw [3, 4] (fun v n wr => ∃ (m : Int) (l : List ByteArray), n = .int .i64 m ∧ 0 ≤ m ∧ m + l.length = r ∧ (∀ s ∈ l, s.size ≤ 64) ∧ wr.ownsRow w.heap.size 9 1 v l.length (l.map .string) ∧ Codes wr gc ∧ w.grownBy wr (some gc))
    (fun _ n _ => (intOf n).toNat)
  case atStart => exact ⟨r, [], rfl, r0, by simp, by simp, World.ownsRow_nil _ _ _ _, hC1, hg1⟩
  case round =>
    obtain ⟨m, l, rfl, hm0, hml, hll, hown, hC, hg⟩ := hrel
    have hm30 : m ≤ 30 := by omega
    have hML := keep hml
    have hle : (l.length : Int) ≤ 30 := by omega
    clear hml
    by_cases hp : 0 < m
    · have hd : decide (0 < m) = true := by simpa using hp
      go_wp2_with fail
      refine (drawWord gc _ hC).mono ?_
      rintro e w2 ⟨s1, rfl, hs1, hC2, hg2⟩
      have hown2 := own_grown hown hg2 hl
      go_wp2_with fail
      refine (drawValue gc _ hC2).mono ?_
      rintro e w3 ⟨s2, rfl, hs2, hC3, hg3⟩
      have hown3 := own_grown hown2 hg3 hl
      have hg3' := grownBy_trans (grownBy_trans hg hg2) hg3
      clear hown hown2 hg2 hg3 hg hC hC2
      go_wp2_with (refine wpList_push1 elStrs rfl rfl _ _ _ rfl rfl rfl w.heap.size _ _ _ _ rfl (fun _ => rfl) (fun _ => rfl) hown3 rfl (by unfold maxLen; omega) (by omega) hg3'.size ?_; intro g cap w4 hown4 hb4 hg4 _ _)
      go_roundw
      case rel =>
        refine ⟨m - 1, l ++ [s1 ++ s2], by go_num, by omega, by have := hML.out; simp; omega, ?_, own_snoc Value.string l (s1 ++ s2) hown4, hC3.under hb4 hl, grownBy_below hg3' hb4⟩
        intro s hs
        rcases List.mem_append.1 hs with hs | hs
        · exact hll s hs
        · simp at hs; subst hs; simp [ByteArray.size_append]; omega
      case measure => simp [intOf]; omega
    · have hd : decide (0 < m) = false := by simpa using hp
      go_wp2
      go_ret
      exact ⟨_, l, rfl, by omega, hll, hown, hC, hg⟩
end Go.Proofs.Ytfainbgbeojcpaa
