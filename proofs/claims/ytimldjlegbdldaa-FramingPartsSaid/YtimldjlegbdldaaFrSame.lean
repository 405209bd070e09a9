/- The contract of the reference's Same, at two lists of framed lines that are alike. -/
import Derived.Test.YtimldjlegbdldaaFrames
namespace Go.Proofs.Ytimldjlegbdldaa
open Go.RowKit

/-- The five cells of an element. -/
theorem fr_cells {α : Type} {w : World} {S : Nat → Prop} {A : Option Addr} {c k : Nat} (ps : List α) (f : α → List Value) (h : Sl w S 5 (.slice A ps.length c) ps.length (ps.flatMap f)) (hk : k < ps.length) (h5 : ∀ p ∈ ps, (f p).length = 5) :
    ∃ b o, A = some ⟨b, o, none⟩ ∧ S b ∧ ∀ j u, (f (ps[k]))[j]? = some u → w.cell? ⟨b, o + k * 5 + j, none⟩ = some u := by
  obtain ⟨b, o, hA, hb, hrow⟩ := h.row (by omega)
  have hf : ∀ (qs : List α) (_ : ∀ p ∈ qs, (f p).length = 5) (j : Nat) (hj : j < qs.length) (i : Nat) (hi : i < 5), (qs.flatMap f)[j * 5 + i]? = (f (qs[j]))[i]? := by
    intro qs
    induction qs with
    | nil => intro _ j hj; simp at hj
    | cons q qs ih =>
      intro h5 j hj i hi
      have hq := h5 q (by simp)
      cases j with
      | zero =>
        rw [List.flatMap_cons, List.getElem?_append_left (by rw [hq]; omega)]
        simp
      | succ j =>
        rw [List.flatMap_cons, List.getElem?_append_right (by rw [hq]; omega), hq, show (j + 1) * 5 + i - 5 = j * 5 + i by omega]
        exact ih (fun p hp => h5 p (by simp [hp])) j (by simpa using hj) i hi
  refine ⟨b, o, hA, hb, fun j u hu => ?_⟩
  have hj : j < 5 := by
    have := (List.getElem?_eq_some_iff.1 hu).1
    rw [h5 _ (List.getElem_mem _)] at this
    exact this
  have := hrow (k * 5 + j) u (by rw [hf ps h5 k hk j hj]; exact hu)
  rwa [← Nat.add_assoc] at this
set_option maxHeartbeats 1000000 in
theorem same_any {α : Type} (ps : List α) (f : α → List Value) (hf : ∀ p ∈ ps, ∃ (g q r : Nat) (s : ByteArray) (b : Bool), f p = [.int .i64 (g : Int), .int .i64 (q : Int), .string s, .int .i64 r, .bool b]) (v1 v2 : Value) (S1 S2 : Nat → Prop) (w : World)
    (h1 : Sl w S1 5 v1 ps.length (ps.flatMap f)) (h2 : Sl w S2 5 v2 ps.length (ps.flatMap f)) (hm : ps.length ≤ 1000000000) :
    Calls Try.prog 15 #[v1, v2] w fun e w' => e = .returned (.bool true) ∧ Below w.heap.size w w' := by
  obtain ⟨A1, c1, rfl, hc1, h1⟩ := h1.form
  obtain ⟨A2, c2, rfl, hc2, h2⟩ := h2.form
  have h5 : ∀ p ∈ ps, (f p).length = 5 := fun p hp => by obtain ⟨g, q, r, s, b, e⟩ := hf p hp; rw [e]; rfl
  have HF := keep hf
  have H5 := keep h5
  have hnn : ((ps.length : Int) != (ps.length : Int)) = false := by simp
  clear hf h5
  go_enter Try.func15, Try.ntmps15
  go_wp2
  go_loopw [5] (fun i wr => ∃ k : Nat, i = .int .i64 k ∧ k ≤ ps.length ∧ Below w.heap.size w wr ∧ ∃ n, wr = w.drewN n) (fun i _ => ps.length - (intOf i).toNat)
  case atStart => exact ⟨0, rfl, Nat.zero_le _, Below.refl _ _, 0, rfl⟩
  case round =>
    obtain ⟨k, rfl, hk, hb, n, rfl⟩ := hrel
    by_cases hlt : k < ps.length
    · obtain ⟨b1, o1, rfl, _, e1⟩ := fr_cells ps f h1 hlt H5.out
      obtain ⟨b2, o2, rfl, _, e2⟩ := fr_cells ps f h2 hlt H5.out
      obtain ⟨g, q, r, s, b, hf⟩ := HF.out (ps[k]) (List.getElem_mem _)
      rw [hf] at e1 e2
      have x0 := e1 0 _ rfl
      have x1 := e1 1 _ rfl
      have x2 := e1 2 _ rfl
      have x3 := e1 3 _ rfl
      have x4 := e1 4 _ rfl
      have y0 := e2 0 _ rfl
      have y1 := e2 1 _ rfl
      have y2 := e2 2 _ rfl
      have y3 := e2 3 _ rfl
      have y4 := e2 4 _ rfl
      have a0 : (0 : Int) ≤ (k : Int) := by omega
      have a1 : (k : Int) < (ps.length : Int) := by omega
      rw [Nat.add_zero] at x0 y0
      clear e1 e2 hf
      go_wp2
      go_quiet (fail)
      go_wp2
      go_roundw
      case rel => exact ⟨k + 1, by go_num, by omega, below_drewN (Below.refl _ _) _, _, rfl⟩
      case measure => simp [intOf]; omega
    · obtain rfl : k = ps.length := by omega
      go_wp2
      go_ret
      exact ⟨rfl, hb⟩
end Go.Proofs.Ytimldjlegbdldaa
