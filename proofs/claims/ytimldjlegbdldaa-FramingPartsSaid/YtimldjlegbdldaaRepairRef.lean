/- The contract of the reference's Repair. -/
import Derived.Test.YtimldjlegbdldaaSeqRef
import Derived.Test.YtimldjlegbdldaaSub
namespace Go.Proofs.Ytimldjlegbdldaa
open Go.RowKit

theorem elB : Elem Try.prog 22 5 1 1 (.int .u8 0) := ⟨Try.underlying22, by kernel_rfl, rfl, by decide⟩
theorem BSl.below {w w' : World} {B B' : Nat} {v : Value} {l : List UInt8} (h : BSl w (lt B) v l) (hb : Below B' w w') (hB : B ≤ B') : BSl w' (lt B) v l := Sl.below h hb hB
theorem OwnB.below_of {w w' : World} {B : Nat} {v : Value} (hB : B ≤ w.heap.size) (hg : w.grownBy w' v.ownBlock) (hv : ∀ k, v.ownBlock = some k → B ≤ k) {a : World} (h : Below B a w) : Below B a w' :=
  h.grown hg hB (fun k hk => hv k hk)

/-- What Repair hands back. -/
def RepairRes (w : World) (l : List UInt8) (e : Ending) (w' : World) : Prop :=
  e = .returned (.tuple #[.string ⟨(rep l).1.toArray⟩, .int .i64 (rep l).2]) ∧ Below w.heap.size w w'
theorem tuple_str {a b : List UInt8} {x y : Int} (h1 : a = b) (h2 : x = y) : Ending.returned (.tuple #[.string ⟨a.toArray⟩, .int .i64 x]) = .returned (.tuple #[.string ⟨b.toArray⟩, .int .i64 y]) := by rw [h1, h2]

set_option maxHeartbeats 1000000 in
theorem repairRef_any (v : Value) (l : List UInt8) (w : World) (h : BSl w (lt w.heap.size) v l) (hm : l.length ≤ 1000000000) :
    Calls Try.prog 22 #[v] w (RepairRes w l) := by
  obtain ⟨A, c, rfl, hc, h⟩ := h.forms
  go_enter Try.func22, Try.ntmps22
  go_wp2
  go_loopw [4, 5, 6] (fun vo n i wr => ∃ (a m : Nat) (o : List UInt8), i = .int .i64 a ∧ a ≤ l.length ∧ n = .int .i64 m ∧ Hid (o.length ≤ a ∧ m ≤ a ∧ o ++ (rep (l.drop a)).1 = (rep l).1 ∧ m + (rep (l.drop a)).2 = (rep l).2) ∧ OwnB wr w.heap.size vo o ∧ Below w.heap.size w wr)
    (fun _ _ i _ => l.length - (intOf i).toNat)
  case atStart => exact ⟨0, 0, [], rfl, Nat.zero_le _, rfl, keep ⟨Nat.le_refl _, Nat.le_refl _, by simp, by simp⟩, OwnB.nil _ _, Below.refl _ _⟩
  case round =>
    obtain ⟨a, m, o, rfl, ha, rfl, hR, hown, hb⟩ := hrel
    have hz := hb.size
    by_cases hlt : a < l.length
    · have hS := h.below hb (Nat.le_refl _)
      have hne : l.drop a ≠ [] := by intro e; have := congrArg List.length e; simp at this; omega
      have hst := rep_step (l.drop a) hne
      have hsl := stepL_le (l.drop a) hne
      have hpl := pieceL_len (l.drop a) hne
      rw [List.drop_drop] at hst
      rw [List.length_drop] at hsl
      have s1 := congrArg (·.1) hst
      have s2 := congrArg (·.2) hst
      dsimp only at s1 s2
      have hsq := sequence_any _ l _ _ hS a hlt (by omega)
      obtain ⟨r1, r2, r3, r4⟩ := hR.out
      by_cases h0 : seqL (l.drop a) = 0
      · have e1 : stepL (l.drop a) = 1 := by unfold stepL; rw [h0]; rfl
        have e2 : pieceL (l.drop a) = [63] := by unfold pieceL; rw [if_pos h0]
        have e3 : badL (l.drop a) = 1 := by unfold badL; rw [if_pos h0]
        rw [e1, e2] at s1
        rw [e1, e3] at s2
        rw [h0] at hsq
        have HN : Hid ((o ++ [63]).length ≤ a + 1 ∧ m + 1 ≤ a + 1 ∧ (o ++ [63]) ++ (rep (l.drop (a + 1))).1 = (rep l).1 ∧ (m + 1) + (rep (l.drop (a + 1))).2 = (rep l).2) :=
          keep ⟨by rw [List.length_append]; simp; omega, by omega, by rw [← r3, s1, List.append_assoc], by omega⟩
        have hol : o.length + 1 ≤ 140737488355328 := by omega
        have hma : m ≤ 1000000000 := by omega
        clear hst hsl hpl s1 s2 h0 e1 e2 e3 r1 r2 r3 r4 hne hR
        go_wp2_with (first
          | (go_at_call 31; refine hsq.mono ?_; rintro e w' ⟨rfl, rfl⟩)
          | (refine wpList_pushB' elB rfl rfl _ _ 18 rfl rfl rfl w.heap.size _ 63 o rfl (fun _ => rfl) (fun _ => rfl) hown hol hz ?_; intro q v9 w9 hown9 hg9 hk9))
        have hb9 := OwnB.below_of hz hg9 (fun k hk => (hown.in_ k hk).1) hb
        go_roundw
        case rel => exact ⟨a + 1, m + 1, o ++ [63], by go_num, by omega, by go_num, HN, hown9, hb9⟩
        case measure => simp [intOf]; omega
      · obtain ⟨k, hk⟩ : ∃ k, seqL (l.drop a) = k := ⟨_, rfl⟩
        rw [hk] at h0 hsq
        have e1 : stepL (l.drop a) = k := by unfold stepL; omega
        have e2 : pieceL (l.drop a) = (l.drop a).take (a + k - a) := by unfold pieceL; rw [hk, if_neg h0, Nat.add_sub_cancel_left]
        have e3 : badL (l.drop a) = 0 := by unfold badL; rw [hk, if_neg h0]
        rw [e1] at s1 s2 hsl
        rw [e3] at s2
        rw [e1] at hpl
        obtain ⟨p, hp⟩ : ∃ p, pieceL (l.drop a) = p := ⟨_, rfl⟩
        rw [hp] at s1 e2 hpl
        have HN : Hid ((o ++ p).length ≤ a + k ∧ m ≤ a + k ∧ (o ++ p) ++ (rep (l.drop (a + k))).1 = (rep l).1 ∧ m + (rep (l.drop (a + k))).2 = (rep l).2) :=
          keep ⟨by rw [List.length_append]; omega, by omega, by rw [← r3, s1, List.append_assoc], by omega⟩
        have HP := keep e2
        have hol : o.length + p.length ≤ 140737488355328 := by omega
        have hkk : a + k ≤ l.length := by omega
        have hk4 : (k : Int) ≤ 1000000000 := by omega
        have hk0 : ((k : Int) == 0) = false := by simp; omega
        clear hst hsl hpl s1 s2 e1 e2 e3 r1 r2 r3 r4 hne hR hp hk
        go_wp2_with (first
          | (go_at_call 31; refine hsq.mono ?_; rintro e w' ⟨rfl, rfl⟩)
          | (refine wpList_subB elB rfl _ _ _ rfl a (a + k) rfl hS rfl rfl rfl (by omega) (by omega) hkk ?_; intro v8 hs8; rw [← HP.out] at hs8)
          | (refine wpList_appendBb' elB rfl _ _ rfl w.heap.size _ o rfl hown _ _ p rfl hs8 hol hz ?_; intro v9 w9 hown9 hg9 hk9))
        have hb9 := OwnB.below_of hz hg9 (fun k hk => (hown.in_ k hk).1) hb
        go_roundw
        case rel => exact ⟨a + k, m, o ++ p, by go_num, by omega, rfl, HN, hown9, hb9⟩
        case measure => simp [intOf]; omega
    · obtain rfl : a = l.length := by omega
      have hR' := hR.out
      rw [List.drop_length, rep_nil] at hR'
      have HR := keep hR'
      clear hR hR'
      go_wp2_with (refine wpList_stringB rfl _ rfl rfl hown.slt Try.underlying22 Try.underlying5 Try.underlying9 ?_)
      go_ret2
      exact ⟨tuple_str (by have := HR.out.2.2.1; simpa using this) (by have := HR.out.2.2.2; simp at this; omega), hb⟩
end Go.Proofs.Ytimldjlegbdldaa
