/- FingerprintPremise: the walk of the statement. -/
import Derived.Test.YtgegmefnbkcdkaaConsistRef
import Derived.Test.YtgegmefnbkcdkaaMakeData
namespace Go.Proofs.Ytgegmefnbkcdkaa
open Go.RowKit

theorem litBB (w : World) (vs : List Value) (L : List (List UInt8)) (hl : vs.length = L.length) (hall : ∀ i (h : i < L.length), BSl w (lt w.heap.size) (vs[i]'(by omega)) L[i]) :
    BBs (w.alloc (.cells vs.toArray 22)) (lt (w.alloc (.cells vs.toArray 22)).heap.size) (.slice (some ⟨w.heap.size, 0, none⟩) L.length L.length) L := by
  refine ⟨vs, hl, ⟨by omega, _, _, rfl, Nat.le_refl _, fun _ => ⟨w.heap.size, 0, rfl, by simp [lt], fun j u hu => ?_⟩⟩, fun i hi => (hall i hi).up ((Below.refl _ w).alloc (Nat.le_refl _) _)⟩
  rw [(Blk.new w 22 vs.toArray).cell]
  simpa using hu

theorem litBB' (w : World) (g : Nat) (vs : List Value) (L : List (List UInt8)) (hg : g = w.heap.size) (hl : vs.length = L.length) (hall : ∀ i (h : i < L.length), BSl w (lt w.heap.size) (vs[i]'(by omega)) L[i]) :
    BBs (w.alloc (.cells vs.toArray 22)) (lt (w.alloc (.cells vs.toArray 22)).heap.size) (.slice (some ⟨g, 0, none⟩) L.length L.length) L := by
  subst hg
  exact litBB w vs L hl hall

theorem awake_true (w : World) : Calls Try.prog 6 #[] w fun e w' => e = .returned (.bool true) ∧ Below w.heap.size w w' := by
  go_enter Try.func6, Try.ntmps6
  go_wp2_with fail
  have h := lit2B w 0 9 (by omega) (by omega) (by omega) (by omega)
  refine (number_ok _ _ _ _ _ h (by rfl)).mono ?_
  rintro e w1 ⟨rfl, rfl⟩
  rw [show nfold (List.take (Int.toNat 1) [UInt8.ofNat (Int.toNat 0), UInt8.ofNat (Int.toNat 9)]) = 1 by rfl]
  go_wp2_with fail
  go_ret
  exact ⟨rfl, (Below.refl _ _).alloc (Nat.le_refl _) _⟩

theorem prefixes_agree (l : List UInt8) (n : Nat) (k : Int) : consOf [l, l.take n, []] k = true := by
  refine cons_true (fun x hx y hy _ => ?_)
  have hx3 : x < 3 := by simpa using hx
  match x, y, hx3, hy with
  | 1, 0, _, _ => exact clash5 (by simpa using List.take_prefix n l)
  | 2, 0, _, _ => exact clash5 (by simp)
  | 2, 1, _, _ => exact clash5 (by simp)
theorem partings_clash (l : List UInt8) (k : Int) (h1 : 1 ≤ k) (h2 : k ≤ 64) (h3 : k ≤ l.length) : consOf [l ++ [0], l ++ [1]] k = false := by
  refine cons_false (i := 1) (j := 0) (by simp) (by omega) ?_
  have hk : k.toNat ≤ l.length := by omega
  have hne : ∀ a b : UInt8, a ≠ b → decide (l ++ [a] <+: l ++ [b]) = false := by
    intro a b hab
    rw [decide_eq_false_iff_not]
    intro hp
    have := List.IsPrefix.eq_of_length hp (by simp)
    have := List.append_cancel_left this
    simp at this
    exact hab this
  refine clash6 (numOk_iff.2 ⟨h1, h2, by simp; omega⟩) (numOk_iff.2 ⟨h1, h2, by simp; omega⟩) ?_ (hne _ _ (by decide)) (hne _ _ (by decide))
  simp [List.take_append_of_le_length hk]

theorem BSl.take {w : World} {S : Nat → Prop} {A : Option Addr} {c k : Nat} {l : List UInt8} (h : BSl w S (.slice A l.length c) l) (hk : k ≤ l.length) : BSl w S (.slice A k c) (l.take k) := by
  have h1' : Sl w S 1 (.slice A l.length c) l.length (l.map ub) := h
  have := h1'.take hk
  rw [Nat.mul_one, ← List.map_take] at this
  unfold BSl
  rw [List.length_take, Nat.min_eq_left hk]
  exact this

set_option maxHeartbeats 1000000 in
set_option maxRecDepth 100000 in
theorem law_premise (vc : Value) (bs : List Int) (cut size : Int) (w : World) (hsc : Sl w (lt w.heap.size) 1 vc bs.length (bs.map (.int .u8))) (hr : ∀ x ∈ bs, 0 ≤ x ∧ x ≤ 255) (hm : bs.length ≤ maxLen)
    (c0 : 0 ≤ cut) (c1 : cut ≤ 255) (s0 : 0 ≤ size) (s1 : size ≤ 255) :
    Calls Try.prog 4 #[vc, .int .u8 cut, .int .u8 size] w fun e w' => e = .returned (.bool true) ∧ Below w.heap.size w w' := by
  obtain ⟨k, hk⟩ : ∃ k : Nat, (k : Int) = 1 + size % 12 := ⟨(1 + size % 12).toNat, by omega⟩
  have k1 : 1 ≤ k := by omega
  have k2 : k ≤ 12 := by omega
  have hK := keep hk
  clear hk
  go_enter Try.func4, Try.ntmps4
  go_wp2_with fail
  refine (awake_true _).mono ?_
  rintro e w1 ⟨rfl, hb1⟩
  have hS1 := (hsc.below hb1 (Nat.le_refl _)).more hb1.size
  clear hsc
  go_wp2_with fail
  rw [← hK.out]
  refine (drawNew _ bs 60 _ hS1 hr (by omega) hm).mono ?_
  rintro e w2 ⟨gc, rfl, hgc, hC2, hb2⟩
  have hbw2 := bchain hb1 hb2
  go_wp2_with fail
  refine (makeData gc _ 3 _ hC2 (by omega) (by omega)).mono ?_
  rintro e w3 ⟨v3, l, rfl, hown3, l15, lmax, hC3, hg3⟩
  obtain ⟨A, c, rfl, hc, hown3⟩ := hown3.form
  have hz1 := hb1.size
  have hbw3 : Below w.heap.size w w3 := below_grown hbw2 hg3 hbw2.size (by omega)
  obtain ⟨n, hn⟩ : ∃ n : Nat, (n : Int) = cut % ((l.length : Int) + 1) := ⟨(cut % ((l.length : Int) + 1)).toNat, by have := Int.emod_nonneg cut (show (l.length : Int) + 1 ≠ 0 by omega); omega⟩
  have hn1 : n ≤ l.length := by have := Int.emod_lt_of_pos cut (show (0 : Int) < (l.length : Int) + 1 by omega); omega
  have hN := keep hn
  clear hn hC2 hC3 hg3 hb2 hb1
  go_upto_region 6 with fail
  rw [← hN.out]
  have kc : (k : Int) ≤ (c : Int) := by omega
  have nc : (n : Int) ≤ (c : Int) := by omega
  have hz3 := hbw3.size
  obtain ⟨m, hml, hmk, hcase⟩ : ∃ m : Nat, m ≤ l.length ∧ k ≤ m ∧ ((m = k ∧ n < k) ∨ (m = n ∧ k ≤ n)) := by
    by_cases h : n < k
    · exact ⟨k, by omega, by omega, .inl ⟨rfl, h⟩⟩
    · exact ⟨n, by omega, by omega, .inr ⟨rfl, by omega⟩⟩
  have hS : BSl w3 (lt w3.heap.size) (.slice A m c) (l.take m) := hown3.slt.take hml
  have hmc : (m : Int) ≤ (c : Int) := by omega
  have hlt : (l.take m).length = m := by simp; omega
  have hl600 : l.length ≤ 3000 := by omega
  have HLT := keep hlt
  clear hlt
  have hlt' : (l.take m).length ≤ m := by rw [HLT.out]; omega
  have hS0 : BSl w3 (lt w3.heap.size) (.slice A l.length c) l := hown3.slt
  obtain ⟨T, hSn, htr⟩ : ∃ T, BSl w3 (lt w3.heap.size) (.slice A n c) T ∧ consOf [l, T, []] k = true := ⟨l.take n, hown3.slt.take hn1, prefixes_agree l n k⟩
  have htrue := keep htr
  clear htr
  have hfalse := keep (partings_clash (l.take m) k (by omega) (by omega) (by rw [HLT.out]; omega))
  clear hown3 hc
  rcases hcase with ⟨rfl, hnk⟩ | ⟨rfl, hnk⟩
  all_goals
    go_upto_region 7 with (first
      | (refine wpList_pushB elBytes rfl rfl _ _ _ rfl rfl rfl w3.heap.size _ 0 (l.take m) rfl (fun _ => rfl) (fun _ => rfl) hown4 (by omega) hb4.size ?_; intro q5 v5 w5 hown5 hb5 hg5)
      | (at_builtin; refine wpList_appendBb elBytes rfl _ _ rfl w3.heap.size _ [] rfl (OwnB.nil _ _) _ _ (l.take m) rfl hS (by simp only [List.length_nil]; omega) (Nat.le_refl _) ?_; intro v4 w4 hown4' hb4 hg4; have hown4 : OwnB w4 w3.heap.size v4 (l.take m) := hown4'; clear hown4'))
    have hb35 : Below w3.heap.size w3 w5 := hb4.trans hb5
    have hS5 := hS.up hb35
    clear hown4 hg4 hg5 hb4 hb5 hS
    go_upto_region 8 with (first
      | (refine wpList_pushB elBytes rfl rfl _ _ _ rfl rfl rfl w5.heap.size _ 1 (l.take m) rfl (fun _ => rfl) (fun _ => rfl) hown6 (by omega) hb6.size ?_; intro q7 v7 w7 hown7 hb7 hg7)
      | (at_builtin; refine wpList_appendBb elBytes rfl _ _ rfl w5.heap.size _ [] rfl (OwnB.nil _ _) _ _ (l.take m) rfl hS5 (by simp only [List.length_nil]; omega) (Nat.le_refl _) ?_; intro v6 w6 hown6' hb6 hg6; have hown6 : OwnB w6 w5.heap.size v6 (l.take m) := hown6'; clear hown6'))
    have hb57 : Below w5.heap.size w5 w7 := hb6.trans hb7
    have hb37 := bchain hb35 hb57
    have hS0' := hS0.up hb37
    have hSn' := hSn.up hb37
    have hbw7 := bchain hbw3 hb37
    generalize l.take m ++ [0] = Lo at *
    generalize l.take m ++ [1] = Lm at *
    obtain ⟨A5, c5, rfl, _, hown5⟩ := hown5.form
    obtain ⟨A7, c7, rfl, _, hown7⟩ := hown7.form
    have hso := (hown5.below hb57).slt
    have hsm := hown7.slt
    clear hown5 hown6 hown7 hg6 hg7 hb6 hb7 hS5 hS0 hSn
    go_wp2_with fail
    refine (consistent_any _ [l, T, []] _ _ _ (litBB w7 [_, _, _] [l, T, []] rfl (fun i hi => ?_)) (by simp)).mono ?_
    · have hi3 : i < 3 := by simpa using hi
      match i, hi3 with
      | 0, _ => exact hS0'
      | 1, _ => exact hSn'
      | 2, _ => exact Sl.nil _ _ _ _ _
    rintro e w8 ⟨he, rfl⟩
    rw [htrue.out] at he
    subst he
    go_wp2_with fail
    refine (consistent_any _ [Lo, Lm] _ _ _ (litBB' _ (w7.heap.size + 1) [_, _] [Lo, Lm] (by simp) rfl (fun i hi => ?_)) (by simp)).mono ?_
    · have hi2 : i < 2 := by simpa using hi
      match i, hi2 with
      | 0, _ => exact hso.up ((Below.refl _ w7).alloc (Nat.le_refl _) _)
      | 1, _ => exact hsm.up ((Below.refl _ w7).alloc (Nat.le_refl _) _)
    rintro e w9 ⟨he, rfl⟩
    rw [hfalse.out] at he
    subst he
    go_wp2_with fail
    go_ret
    exact ⟨rfl, (hbw7.alloc hbw7.size _).alloc (by have := hbw7.size; simp; omega) _⟩
end Go.Proofs.Ytgegmefnbkcdkaa
