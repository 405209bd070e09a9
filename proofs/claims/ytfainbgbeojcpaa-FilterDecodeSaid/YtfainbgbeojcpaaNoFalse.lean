/- Plain laws for FilterHasNoFalseNegatives. -/
import Derived.Test.YtfainbgbeojcpaaBitsOf
namespace Go.Proofs.Ytfainbgbeojcpaa
open Go.RowKit

def pops (l : List Int) : Nat := (l.map fun x => pop 64 x.toNat).sum
theorem oc_u64 {x : Int} (h : U64 x) : oc x = ((pop 64 x.toNat : Nat) : Int) := by
  obtain ⟨h0, h1⟩ := h
  obtain ⟨n, rfl⟩ := Int.eq_ofNat_of_zero_le h0
  rw [oc_nat n (by omega), Int.toNat_natCast]
theorem pops_le (l : List Int) : pops l ≤ 64 * l.length := by
  unfold pops
  induction l with
  | nil => simp
  | cons x l ih =>
    have := pop_le 64 x.toNat
    rw [List.map_cons, List.sum_cons, List.length_cons]
    omega
theorem pops_cons (x : Int) (l : List Int) : pops (x :: l) = pop 64 x.toNat + pops l := by simp [pops]
theorem ocs_pops {l : List Int} (h : UL l) (hl : l.length ≤ 1024) : ocs l = (pops l : Int) := by
  suffices H : ∀ acc : Nat, acc + 64 * l.length ≤ 1000000 → l.foldl (fun n x => wrap64 (n + oc x)) (acc : Int) = ((acc + pops l : Nat) : Int) by
    have := H 0 (by omega)
    simpa [ocs] using this
  clear hl
  induction l with
  | nil => intro acc _; simp [pops]
  | cons x l ih =>
    intro acc hacc
    rw [List.length_cons] at hacc
    have hp := pop_le 64 x.toNat
    rw [List.foldl_cons, oc_u64 (h x (List.mem_cons_self ..)), ← Int.natCast_add, IntWalk.wrap64_in _ (by omega), ih (fun y hy => h y (List.mem_cons_of_mem _ hy)) _ (by omega)]
    rw [pops_cons, Nat.add_assoc]
theorem pops_set (l : List Int) (i : Nat) (y : Int) (h : i < l.length) : pops (l.set i y) + pop 64 (l.getD i 0).toNat = pops l + pop 64 y.toNat := by
  induction l generalizing i with
  | nil => simp at h
  | cons x l ih =>
    cases i with
    | zero => simp only [List.set_cons_zero, pops, List.map_cons, List.sum_cons, List.getD_cons_zero]; omega
    | succ i =>
      have := ih i (by simpa using h)
      simp only [List.set_cons_succ, pops, List.map_cons, List.sum_cons, List.getD_cons_succ] at this ⊢
      omega
theorem pops_setBit {l : List Int} (h : UL l) (p : Int) (hp : 0 ≤ p ∧ p < 64 * l.length) : pops l ≤ pops (setBit l p) ∧ pops (setBit l p) ≤ pops l + 1 := by
  obtain ⟨n, hn, hlt⟩ := h.get (p / 64).toNat
  have := pops_set l (p / 64).toNat (orBit (l.getD (p / 64).toNat 0) p) (by omega)
  unfold setBit
  rw [hn, orBit_nat n hlt, Int.toNat_natCast, Int.toNat_natCast] at this
  rw [hn, orBit_nat n hlt]
  have := pop_or 64 n (p % 64).toNat
  omega
theorem pops_setBits {l : List Int} (h : UL l) (ps : List Int) (hp : ∀ p ∈ ps, 0 ≤ p ∧ p < 64 * l.length) : pops l ≤ pops (setBits l ps) ∧ pops (setBits l ps) ≤ pops l + ps.length := by
  unfold setBits
  induction ps generalizing l with
  | nil => simp
  | cons p ps ih =>
    have h1 := pops_setBit h p (hp p (List.mem_cons_self ..))
    have h2 := ih (setBit_UL h p) (fun x hx => by rw [setBit_len]; exact hp x (List.mem_cons_of_mem _ hx))
    rw [List.foldl_cons, List.length_cons]
    omega
theorem ones_step {l : List Int} (h : UL l) (s : ByteArray) (k n : Nat) (hn : l.length = n) (h1 : 1 ≤ n) (h2 : n ≤ 1024) :
    ocs l ≤ ocs (setBits l (poss s k n)) ∧ ocs (setBits l (poss s k n)) ≤ ocs l + k := by
  subst hn
  have := pops_setBits h (poss s k l.length) (poss_bd s k _ h1)
  rw [poss_len] at this
  rw [ocs_pops h h2, ocs_pops (setBits_UL h _) (by rw [setBits_len]; exact h2)]
  omega
theorem built_UL (n k : Nat) (l : List ByteArray) : UL (built n k l) := by rw [built_all]; exact setBits_UL (zeros_UL n) _
theorem zeros_len (n : Nat) : (zeros n).length = n := by simp [zeros]
theorem bt_built (n k : Nat) (l : List ByteArray) (hn : 1 ≤ n) (q : Int) (hq : 0 ≤ q) : bt (built n k l) q = decide (q ∈ allPos n k l) := by
  rw [built_all, bt_setBits (zeros_UL n) _ q (by rw [zeros_len]; exact allPos_bd n k l hn) hq, bt_zeros, Bool.false_or]
theorem mem_allPos (n k : Nat) (l : List ByteArray) (q : Int) : q ∈ allPos n k l ↔ ∃ s ∈ l, q ∈ poss s k n := by simp [allPos, List.mem_flatMap]
/-- Words in any order and any number of times. -/
theorem built_same (n k : Nat) (a b : List ByteArray) (hn : 1 ≤ n) (h : ∀ s, s ∈ a ↔ s ∈ b) : built n k a = built n k b := by
  refine ext_bt (built_UL n k a) (built_UL n k b) (by rw [built_len, built_len]) fun q hq => ?_
  rw [bt_built n k a hn q hq, bt_built n k b hn q hq, decide_eq_decide, mem_allPos, mem_allPos]
  constructor
  · rintro ⟨s, hs, h'⟩; exact ⟨s, (h s).1 hs, h'⟩
  · rintro ⟨s, hs, h'⟩; exact ⟨s, (h s).2 hs, h'⟩
theorem built_rev (n k : Nat) (a : List ByteArray) (hn : 1 ≤ n) : built n k a.reverse = built n k a := built_same n k _ _ hn (by simp)
theorem built_twice (n k : Nat) (b : List ByteArray) (j : Nat) (hj : j < b.length) (hn : 1 ≤ n) :
    setBits (setBits (built n k (b.take j)) (poss b[j] k n)) (poss b[j] k n) = built n k (b.take (j + 1)) := by
  rw [← built_succ n k b j hj]
  have e : setBits (built n k (b.take (j + 1))) (poss b[j] k n) = built n k (b.take (j + 1) ++ [b[j]]) := by simp [built]
  rw [e]
  refine built_same n k _ _ hn fun s => ?_
  rw [take_succ_map b j hj]
  simp only [List.mem_append, List.mem_singleton]
  exact ⟨fun h => h.elim id .inr, .inl⟩
theorem has_built (n k : Nat) (a : List ByteArray) (s : ByteArray) (h : s ∈ a) (hn : 1 ≤ n) : hasAll (built n k a) (poss s k n) = true := by
  unfold hasAll
  rw [List.all_eq_true]
  intro q hq
  have hq0 := (poss_bd s k n hn q hq).1
  rw [hasB_bt (built_UL n k a), bt_built n k a hn q hq0, decide_eq_true_eq, mem_allPos]
  exact ⟨s, h, hq⟩
theorem has_left (n k : Nat) (a b : List ByteArray) (s : ByteArray) (h : s ∈ a ∨ s ∈ b) (hn : 1 ≤ n) : hasAll (orZip (built n k a) (built n k b)) (poss s k n) = true := by
  unfold hasAll
  rw [List.all_eq_true]
  intro q hq
  have hq0 := (poss_bd s k n hn q hq).1
  rw [hasB_bt (orZip_UL (built_UL n k a) (built_UL n k b)), bt_orZip (built_UL n k a) (built_UL n k b) (by rw [built_len, built_len]), bt_built n k a hn q hq0, bt_built n k b hn q hq0, Bool.or_eq_true, decide_eq_true_eq, decide_eq_true_eq, mem_allPos, mem_allPos]
  rcases h with h | h
  · exact .inl ⟨s, h, hq⟩
  · exact .inr ⟨s, h, hq⟩
theorem has_zeros (n k : Nat) (s : ByteArray) (hk : 1 ≤ k) : hasAll (zeros n) (poss s k n) = false := by
  obtain ⟨j, rfl⟩ : ∃ j, k = j + 1 := ⟨k - 1, by omega⟩
  rw [poss_succ]
  simp [hasAll, hasB_bt (zeros_UL n), bt_zeros]
theorem union_comm (n k : Nat) (a b : List ByteArray) : orZip (built n k b) (built n k a) = orZip (built n k a) (built n k b) :=
  orZip_comm (built_UL n k b) (built_UL n k a) (by rw [built_len, built_len])
end Go.Proofs.Ytfainbgbeojcpaa
