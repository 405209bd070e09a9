/- The contracts of filesystem.Lines and of its reference. -/
import Derived.Test.YtldopkdjoejhbaaDoorSpans
import Derived.Test.YtldopkdjoejhbaaDoorBslAt
namespace Go.Proofs.YtldopkdjoejhbaaDoor
open Go.RowKit

def spV (p : Nat × Nat) : List Value := [.int .i64 p.1, .int .i64 p.2]
theorem elSpan : Elem Tryd.prog 51 54 2 16 (.agg #[.int .i64 0, .int .i64 0]) := ⟨Tryd.underlying51, by kernel_rfl, rfl, by decide⟩
def LinesRes (w : World) (l : List UInt8) (e : Ending) (w' : World) : Prop :=
  ∃ v, e = .returned v ∧ w'.ownsRow w.heap.size 54 2 v (spans l).length ((spans l).flatMap spV) ∧ Below w.heap.size w w'
theorem spV_push (l : List UInt8) (k : Nat) (h : l.getD k 0 = 10) {w : World} {B : Nat} {v : Value}
    (ho : w.ownsRow B 54 2 v ((lnS l k).1.length + 1) ((lnS l k).1.flatMap spV ++ [.int .i64 ((lnS l k).2 : Nat), .int .i64 ((k : Int) + 1)])) : w.ownsRow B 54 2 v (lnS l (k + 1)).1.length ((lnS l (k + 1)).1.flatMap spV) ∧ (lnS l (k + 1)).2 = k + 1 := by
  have e : lnS l (k + 1) = ((lnS l k).1 ++ [((lnS l k).2, k + 1)], k + 1) := by simp only [lnS, if_pos h]
  rw [e]
  refine ⟨?_, rfl⟩
  rw [List.length_append, List.flatMap_append]
  exact ho
theorem lnS_skip (l : List UInt8) (k : Nat) (h : ¬ l.getD k 0 = 10) : lnS l (k + 1) = lnS l k := by simp only [lnS, if_neg h]
theorem byte_ten (b : UInt8) : ((b.toNat : Int) == 10) = decide (b = 10) := by
  rw [Bool.eq_iff_iff]
  simp only [beq_iff_eq, decide_eq_true_eq]
  constructor
  · intro h; have h' : b.toNat = 10 := by omega
    exact UInt8.toNat_inj.1 h'
  · intro h; subst h; rfl

set_option maxHeartbeats 1000000 in
theorem lines_any (v : Value) (l : List UInt8) (w : World) (h : BSl w (lt w.heap.size) v l) (hm : l.length ≤ 1000000000) :
    Calls Tryd.prog 18 #[v] w (LinesRes w l) := by
  obtain ⟨A, c, rfl, hc, h⟩ := h.forms
  go_enter Tryd.func18, Tryd.ntmps18
  go_wp2
  go_loopw [3, 4, 5, 6, 9] (fun v f _ _ i wr => ∃ k : Nat, i = .int .i64 k ∧ k ≤ l.length ∧ f = .int .i64 ((lnS l k).2 : Nat) ∧ wr.ownsRow w.heap.size 54 2 v (lnS l k).1.length ((lnS l k).1.flatMap spV) ∧ Below w.heap.size w wr)
    (fun _ _ _ _ i _ => l.length - (intOf i).toNat)
  case atStart => exact ⟨0, rfl, Nat.zero_le _, rfl, World.ownsRow_nil _ _ _ _, Below.refl _ _⟩
  case round =>
    obtain ⟨k, rfl, hk, rfl, hown, hb⟩ := hrel
    have hz := hb.size
    have hle := lnS_le l k
    by_cases hlt : k < l.length
    · have hS : BSl wr (lt w.heap.size) (.slice A l.length c) l := Sl.below h hb (Nat.le_refl _)
      obtain ⟨b, o, rfl, hbb, hcell⟩ := hS.byte hlt
      have ht := byte_ten (l.getD k 0)
      have a1 : (k : Int) < (l.length : Int) := by omega
      have a0 : (0 : Int) ≤ (k : Int) := by omega
      obtain ⟨x, hx⟩ : ∃ x, ((l.getD k 0).toNat : Int) = x := ⟨_, rfl⟩
      rw [hx] at ht hcell
      obtain ⟨f, hf⟩ : ∃ f, (lnS l k).2 = f := ⟨_, rfl⟩
      obtain ⟨L, hL⟩ : ∃ L, (lnS l k).1 = L := ⟨_, rfl⟩
      rw [hf, hL] at hle
      rw [hL] at hown
      rw [hf]
      have HF := keep (And.intro hf hL)
      by_cases h10 : l.getD k 0 = 10
      · have hq : (x == 10) = true := by rw [ht, h10]; rfl
        have hbd : L.length + 1 ≤ maxLen := by unfold maxLen; omega
        have H10 := keep h10
        clear h10 ht hx hf hL
        go_wp2_with (refine wpList_push elSpan rfl rfl _ _ 21 rfl rfl rfl w.heap.size _ (.agg #[.int .i64 (f : Int), .int .i64 ((k : Int) + 1)]) L.length _ rfl (fun _ => rfl) (fun _ => rfl) hown rfl (by intro c hc; simp [Value.cells] at hc; rcases hc with rfl | rfl <;> rfl) (by decide) hbd (by omega) hz ?_; intro g cap w9 hown9 hb9 hg9 _ _)
        have hp := spV_push l k H10.out (w := w9) (B := w.heap.size) (by rw [HF.out.1, HF.out.2]; exact hown9)
        go_roundw
        case rel => exact ⟨k + 1, by go_num, by omega, by rw [hp.2]; go_num, hp.1, hb.trans hb9⟩
        case measure => simp [intOf]; omega
      · have hq : (x == 10) = false := by rw [ht]; simpa using h10
        have hs := keep (lnS_skip l k h10)
        clear h10 ht hx hf hL
        go_wp2
        go_roundw
        case rel => exact ⟨k + 1, by go_num, by omega, by rw [hs.out, HF.out.1], by rw [hs.out, HF.out.2]; exact hown, hb⟩
        case measure => simp [intOf]; omega
    · obtain rfl : k = l.length := by omega
      go_wp2
      go_ret
      exact ⟨_, rfl, hown, hb⟩

set_option maxHeartbeats 1000000 in
theorem linesRef_any (v : Value) (l : List UInt8) (w : World) (h : BSl w (lt w.heap.size) v l) (hm : l.length ≤ 1000000000) :
    Calls Tryd.prog 19 #[v] w (LinesRes w l) := by
  obtain ⟨A, c, rfl, hc, h⟩ := h.forms
  go_enter Tryd.func19, Tryd.ntmps19
  go_wp2
  go_loopw [3, 4, 5] (fun v f i wr => ∃ k : Nat, i = .int .i64 k ∧ k ≤ l.length ∧ f = .int .i64 ((lnS l k).2 : Nat) ∧ wr.ownsRow w.heap.size 54 2 v (lnS l k).1.length ((lnS l k).1.flatMap spV) ∧ Below w.heap.size w wr)
    (fun _ _ i _ => l.length - (intOf i).toNat)
  case atStart => exact ⟨0, rfl, Nat.zero_le _, rfl, World.ownsRow_nil _ _ _ _, Below.refl _ _⟩
  case round =>
    obtain ⟨k, rfl, hk, rfl, hown, hb⟩ := hrel
    have hz := hb.size
    have hle := lnS_le l k
    by_cases hlt : k < l.length
    · have hS : BSl wr (lt w.heap.size) (.slice A l.length c) l := Sl.below h hb (Nat.le_refl _)
      obtain ⟨b, o, rfl, hbb, hcell⟩ := hS.byte hlt
      have ht := byte_ten (l.getD k 0)
      have a1 : (k : Int) < (l.length : Int) := by omega
      have a0 : (0 : Int) ≤ (k : Int) := by omega
      obtain ⟨x, hx⟩ : ∃ x, ((l.getD k 0).toNat : Int) = x := ⟨_, rfl⟩
      rw [hx] at ht hcell
      obtain ⟨f, hf⟩ : ∃ f, (lnS l k).2 = f := ⟨_, rfl⟩
      obtain ⟨L, hL⟩ : ∃ L, (lnS l k).1 = L := ⟨_, rfl⟩
      rw [hf, hL] at hle
      rw [hL] at hown
      rw [hf]
      have HF := keep (And.intro hf hL)
      by_cases h10 : l.getD k 0 = 10
      · have hq : (x == 10) = true := by rw [ht, h10]; rfl
        have hbd : L.length + 1 ≤ maxLen := by unfold maxLen; omega
        have H10 := keep h10
        clear h10 ht hx hf hL
        go_wp2_with (refine wpList_push elSpan rfl rfl _ _ 22 rfl rfl rfl w.heap.size _ (.agg #[.int .i64 (f : Int), .int .i64 ((k : Int) + 1)]) L.length _ rfl (fun _ => rfl) (fun _ => rfl) hown rfl (by intro c hc; simp [Value.cells] at hc; rcases hc with rfl | rfl <;> rfl) (by decide) hbd (by omega) hz ?_; intro g cap w9 hown9 hb9 hg9 _ _)
        have hp := spV_push l k H10.out (w := w9) (B := w.heap.size) (by rw [HF.out.1, HF.out.2]; exact hown9)
        go_roundw
        case rel => exact ⟨k + 1, by go_num, by omega, by rw [hp.2]; go_num, hp.1, hb.trans hb9⟩
        case measure => simp [intOf]; omega
      · have hq : (x == 10) = false := by rw [ht]; simpa using h10
        have hs := keep (lnS_skip l k h10)
        clear h10 ht hx hf hL
        go_wp2
        go_roundw
        case rel => exact ⟨k + 1, by go_num, by omega, by rw [hs.out, HF.out.1], by rw [hs.out, HF.out.2]; exact hown, hb⟩
        case measure => simp [intOf]; omega
    · obtain rfl : k = l.length := by omega
      go_wp2
      go_ret
      exact ⟨_, rfl, hown, hb⟩
end Go.Proofs.YtldopkdjoejhbaaDoor
