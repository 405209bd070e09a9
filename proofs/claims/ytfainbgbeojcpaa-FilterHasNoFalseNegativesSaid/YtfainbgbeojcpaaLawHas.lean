/- FilterHas: the walk of the statement. -/
import Derived.Test.YtfainbgbeojcpaaAdd
import Derived.Test.YtfainbgbeojcpaaUspec
namespace Go.Proofs.Ytfainbgbeojcpaa
open Go.RowKit

theorem sl_lift {w w' : World} {a n : Nat} {v : Value} {xs : List Value} (h : Sl w (btw a w.heap.size) 1 v n xs) (hb : Below w.heap.size w w') : Sl w' (lt w'.heap.size) 1 v n xs :=
  (h.under hb (fun _ hb => hb.2)).mono (fun _ hx => Nat.lt_of_lt_of_le hx.2 hb.size)
theorem sl_now {w : World} {a n : Nat} {v : Value} {xs : List Value} (h : Sl w (btw a w.heap.size) 1 v n xs) : Sl w (lt w.heap.size) 1 v n xs := h.mono fun _ hx => hx.2
theorem law_has_out (A : Option Addr) (n c : Nat) (hashes : Int) (s : ByteArray) (w : World) (h : n < 1 ∨ 1000 < n ∨ 500 < s.size) :
    Calls Try.prog 7 #[.slice A n c, .int .u8 hashes, .string s] w fun e w' => e = .returned (.bool true) ∧ Below w.heap.size w w' := by
  by_cases h1 : n < 1
  · have d1 : decide ((n : Int) < 1) = true := by simp; omega
    go_enter Try.func7, Try.ntmps7
    go_wp2_with fail
    refine (awake_true _).mono ?_
    rintro e w1 ⟨rfl, hb⟩
    go_wp2_with fail
    go_ret
    exact ⟨rfl, hb⟩
  · have d1 : decide ((n : Int) < 1) = false := by simp; omega
    by_cases h2 : 1000 < n
    · have d2 : decide ((1000 : Int) < n) = true := by simp; omega
      go_enter Try.func7, Try.ntmps7
      go_wp2_with fail
      refine (awake_true _).mono ?_
      rintro e w1 ⟨rfl, hb⟩
      go_wp2_with fail
      go_ret
      exact ⟨rfl, hb⟩
    · have d2 : decide ((1000 : Int) < n) = false := by simp; omega
      have d3 : decide ((500 : Int) < s.size) = true := by simp; omega
      go_enter Try.func7, Try.ntmps7
      go_wp2_with fail
      refine (awake_true _).mono ?_
      rintro e w1 ⟨rfl, hb⟩
      go_wp2_with fail
      go_ret
      exact ⟨rfl, hb⟩

set_option maxHeartbeats 2000000 in
set_option maxRecDepth 100000 in
theorem law_has_in (v : Value) (l : List Int) (hashes : Int) (s : ByteArray) (w : World) (hs : Sl w (lt w.heap.size) 1 v l.length (l.map (.int .u64))) (h1 : 1 ≤ l.length) (h2 : l.length ≤ 1000) (h3 : s.size ≤ 500) (hU : ∀ x ∈ l, U64 x) (b0 : 0 ≤ hashes) (b1 : hashes ≤ 255) :
    Calls Try.prog 7 #[v, .int .u8 hashes, .string s] w fun e w' => e = .returned (.bool true) ∧ Below w.heap.size w w' := by
  obtain ⟨A, c, rfl, hc, hs⟩ := hs.form
  have d1 : decide ((l.length : Int) < 1) = false := by simp; omega
  have d2 : decide ((1000 : Int) < l.length) = false := by simp; omega
  have d3 : decide ((500 : Int) < s.size) = false := by simp; omega
  obtain ⟨k, hk⟩ : ∃ k : Nat, (k : Int) = 1 + hashes % 8 := ⟨(1 + hashes % 8).toNat, by omega⟩
  have hk8 : k ≤ 8 := by omega
  have HK := keep hk
  have hsm : s.size ≤ maxLen := by unfold maxLen; omega
  have h24 : l.length ≤ 1024 := by omega
  have HU := keep hU
  clear hk hU
  go_enter Try.func7, Try.ntmps7
  go_wp2_with fail
  refine (awake_true _).mono ?_
  rintro e w1 ⟨rfl, hb1⟩
  have hs1 := (hs.below hb1 (Nat.le_refl _)).more hb1.size
  clear hs
  go_upto_region 4 with fail
  rw [← HK.out]
  obtain ⟨W, hW⟩ : ∃ W, W = w1.alloc (.cells #[.int .i64 k, .slice A l.length c] 27) := ⟨_, rfl⟩
  have hbW : Below w1.heap.size w1 W := hW ▸ (Below.refl _ w1).alloc (Nat.le_refl _) _
  have hB : Blk W w1.heap.size 27 #[.int .i64 k, .slice A l.length c] := hW ▸ Blk.new _ _ _
  obtain ⟨q0, q1⟩ := hB.cell2
  have hlB := hB.lt
  have hsW := (hs1.below hbW (Nat.le_refl _)).more hbW.size
  rw [← hW]
  clear hW hs1 hB
  have hbf := bchain hb1 hbW
  have hslA := keep (fun (a : World) (h : Held W.heap.size W a) => (hsW.below h.2.2 (Nat.le_refl _)).more h.2.2.size)
  have hlen : (setBits l (poss s k l.length)).length ≤ 1000000 := by rw [setBits_len]; omega
  obtain ⟨ha, hha⟩ : ∃ ha, hasAll l (poss s k l.length) = ha := ⟨_, rfl⟩
  obtain ⟨on, hon⟩ : ∃ on, ocs l = on := ⟨_, rfl⟩
  have HHA := keep hha
  have HON := keep hon
  clear hha hon
  have e1 : (ha == ha) = true := by simp
  have e2 : (on == on) = true := by simp
  obtain ⟨L, hL⟩ : ∃ L, setBits l (poss s k l.length) = L := ⟨_, rfl⟩
  rw [hL] at hlen
  have HL := keep hL
  clear hL HK
  go_region_held3 (Held W.heap.size W) (first | exact Held.start _ _ | exact Held.call (by assumption) (by assumption) (Nat.le_refl _) | assumption)
    (first
      | (go_at_call 30; refine (has_any k _ l s _ (hslA.out _ (by assumption)) h1 h24 hk8 hsm).mono ?_; rw [HHA.out]; rintro e w2 ⟨rfl, hb2⟩)
      | (go_at_call 31; refine (refHas_any k _ l s _ (hslA.out _ (by assumption)) h1 h24 hk8 hsm HU.out).mono ?_; rw [HHA.out]; rintro e w3 ⟨rfl, hb3⟩)
      | (go_at_call 32; refine (ones_any _ _ l _ (hslA.out _ (by assumption)) h24).mono ?_; rw [HON.out]; rintro e w4 ⟨rfl, hb4⟩)
      | (go_at_call 33; refine (refOnes_any _ _ l _ (hslA.out _ (by assumption)) h24).mono ?_; rw [HON.out]; rintro e w5 ⟨rfl, hb5⟩)
      | (go_at_call 34; refine (add_any k _ l s _ (hslA.out _ (by assumption)) h1 h24 hk8 hsm).mono ?_; rw [HL.out]; rintro e w6 ⟨v6, rfl, hS6, hb6⟩; obtain ⟨A6, c6, rfl, _, hS6⟩ := hS6.form)
      | (go_at_call 35; refine (refAdd_any k _ l s _ (hslA.out _ (by assumption)) h1 h24 hk8 hsm).mono ?_; rw [HL.out]; rintro e w7 ⟨v7, rfl, hS7, hb7⟩; obtain ⟨A7, c7, rfl, _, hS7⟩ := hS7.form)
      | (go_at_call 22; refine (same_true _ L _ _ _ (sl_lift hS6 hb7) (sl_now hS7) hlen).mono ?_; rintro e w8 ⟨rfl, hb8⟩))
  have hH : Held W.heap.size W w8 := by assumption
  go_wp2_with fail
  go_ret
  exact ⟨rfl, bchain hbf hH.2.2⟩
theorem law_has_row (v : Value) (l : List Int) (hashes : Int) (s : ByteArray) (w : World) (hs : Sl w (lt w.heap.size) 1 v l.length (l.map (.int .u64))) (hU : ∀ x ∈ l, (Lit.int .u64 x).wf = true) (b : 0 ≤ hashes ∧ hashes ≤ 255) :
    Calls Try.prog 7 #[v, .int .u8 hashes, .string s] w fun e w' => e = .returned (.bool true) ∧ Below w.heap.size w w' := by
  by_cases h : l.length < 1 ∨ 1000 < l.length ∨ 500 < s.size
  · obtain ⟨A, c, rfl, _, _⟩ := hs.form
    exact law_has_out A _ c hashes s w h
  · refine law_has_in v l hashes s w hs (by omega) (by omega) (by omega) (fun x hx => ?_) b.1 b.2
    have hx' : 0 ≤ x ∧ x ≤ 18446744073709551615 := by simpa [Lit.wf, IntKind.min, IntKind.max, IntKind.signed, IntKind.bits] using hU x hx
    exact ⟨hx'.1, by omega⟩
end Go.Proofs.Ytfainbgbeojcpaa
