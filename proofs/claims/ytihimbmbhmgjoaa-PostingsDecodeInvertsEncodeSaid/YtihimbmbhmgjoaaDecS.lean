/- The state of postings.Decode while it reads, as plain data. -/
import Derived.Test.YtihimbmbhmgjoaaEnt
import Derived.Test.YtihimbmbhmgjoaaPostR
namespace Go.Proofs.Ytihimbmbhmgjoaa
open Go.RowKit

/-- Within a block: k identifiers are to come, q have come, the last one is a. -/
def InS (R : Option (List Int × List UInt8)) (k : Nat) (q : List Int) (a : Int) (ok : Bool) (rest : Value) (w wr : World) : Prop :=
  (ok = false ∧ R = none) ∨ (ok = true ∧ ∃ rb, BSl wr (lt w.heap.size) rest rb ∧ rb.length ≤ 1000000 ∧ (match blkP k a rb with | none => none | some (p, r) => some (q ++ p, r)) = R)
/-- Between two blocks: K blocks and n identifiers are to come, o have come. -/
def OutS (R : Option (List Int)) (K n : Nat) (o : List Int) (ok : Bool) (rest : Value) (w wr : World) : Prop :=
  (ok = false ∧ R = none) ∨ (ok = true ∧ ∃ rb, BSl wr (lt w.heap.size) rest rb ∧ rb.length ≤ 1000000 ∧ (match blksP K n rb with | none => none | some p => some (o ++ p)) = R)
section
variable {R1 : Option (List Int × List UInt8)} {R : Option (List Int)} {k K n : Nat} {q o : List Int} {a : Int} {ok : Bool} {rest : Value} {w wr w' : World}
theorem InS.no (h : InS R1 k q a false rest w wr) : R1 = none := by
  rcases h with h | h
  · exact h.2
  · cases h.1
theorem InS.yes (h : InS R1 k q a true rest w wr) : ∃ rb, BSl wr (lt w.heap.size) rest rb ∧ rb.length ≤ 1000000 ∧ (match blkP k a rb with | none => none | some (p, r) => some (q ++ p, r)) = R1 := by
  rcases h with h | h
  · cases h.1
  · exact h.2
theorem InS.fail {rb : List UInt8} (h : (match blkP (k + 1) a rb with | none => none | some (p, r) => some (q ++ p, r)) = R1) (hn : numP rb = none) (rest' : Value) : InS R1 k q a false rest' w wr := by
  refine .inl ⟨rfl, ?_⟩
  rw [blkP, hn] at h
  exact h.symm
theorem InS.step {rb r : List UInt8} {d : Nat} (h : (match blkP (k + 1) a rb with | none => none | some (p, r) => some (q ++ p, r)) = R1) (hn : numP rb = some (d, r)) {v : Value} (hs : BSl wr (lt w.heap.size) v r) (hl : r.length ≤ 1000000) : InS R1 k (q ++ [a + d]) (a + d) true v w wr := by
  refine .inr ⟨rfl, r, hs, hl, ?_⟩
  rw [← h, blkP, hn]
  simp only
  cases blkP k (a + d) r with
  | none => rfl
  | some p => simp
theorem InS.move (h : InS R1 k q a ok rest w wr) (hb : Below w.heap.size wr w') : InS R1 k q a ok rest w w' := by
  rcases h with h | ⟨h1, rb, h2, h3, h4⟩
  · exact .inl h
  · exact .inr ⟨h1, rb, h2.keep_ hb, h3, h4⟩
theorem OutS.start (h : OutS R (K + 1) n o true rest w wr) : ∃ R1, InS R1 (min 32 n) [] 0 true rest w wr ∧ R = match (generalizing := false) R1 with | none => none | some (p, r) => match blksP K (n - min 32 n) r with | none => none | some p' => some (o ++ (p ++ p')) := by
  rcases h with h | ⟨_, rb, h2, h3, h4⟩
  · cases h.1
  · refine ⟨blkP (min 32 n) 0 rb, .inr ⟨rfl, rb, h2, h3, ?_⟩, ?_⟩
    · cases blkP (min 32 n) 0 rb with
      | none => rfl
      | some p => simp
    · rw [← h4, blksP]
      cases blkP (min 32 n) 0 rb with
      | none => rfl
      | some p =>
        simp only
        cases blksP K (n - min 32 n) p.2 <;> rfl
theorem OutS.of_no (h : R = none) (K n : Nat) (o : List Int) (rest : Value) (w wr : World) : OutS R K n o false rest w wr := .inl ⟨rfl, h⟩
theorem OutS.no (h : OutS R K n o false rest w wr) : R = none := by
  rcases h with h | h
  · exact h.2
  · cases h.1
/-- A block is over. -/
theorem OutS.next {m : Nat} (h : InS R1 0 q a ok rest w wr) (hR : R = match (generalizing := false) R1 with | none => none | some (p, r) => match blksP K m r with | none => none | some p' => some (o ++ (p ++ p'))) : OutS R K m (o ++ q) ok rest w wr := by
  rcases h with ⟨rfl, rfl⟩ | ⟨rfl, rb, h2, h3, h4⟩
  · exact .inl ⟨rfl, hR⟩
  · refine .inr ⟨rfl, rb, h2, h3, ?_⟩
    rw [hR, ← h4, blkP]
    simp only [List.append_nil]
    cases blksP K m rb with
    | none => rfl
    | some p => simp
theorem OutS.final (h : OutS R 0 n o true rest w wr) : R = some o := by
  rcases h with h | ⟨_, rb, _, _, h4⟩
  · cases h.1
  · rw [← h4, blksP]; simp
theorem OutS.move (h : OutS R K n o ok rest w wr) (hb : Below w.heap.size wr w') : OutS R K n o ok rest w w' := by
  rcases h with h | ⟨h1, rb, h2, h3, h4⟩
  · exact .inl h
  · exact .inr ⟨h1, rb, h2.keep_ hb, h3, h4⟩
end
theorem decP_ent {b b1 b2 : List UInt8} {n : Nat} (h : entOk b = some (n, b1, b2)) : decP b = blksP (blocksNo n) n b2 ∧ n ≤ 4096 := by
  unfold entOk at h
  unfold decP
  cases hn : numP b with
  | none => rw [hn] at h; cases h
  | some p =>
    rw [hn] at h
    simp only at h ⊢
    split at h
    · cases h
    · rename_i h4
      cases he : entP (blocksNo p.1) p.2 with
      | none => rw [he] at h; cases h
      | some r =>
        rw [he] at h
        simp only at h
        injection h with h
        injection h with h1 h2
        injection h2 with h2 h3
        subst h1 h2 h3
        rw [if_neg h4]
        exact ⟨rfl, by omega⟩
theorem decP_no {b : List UInt8} (h : entOk b = none) : decP b = none := by
  unfold entOk at h
  unfold decP
  cases hn : numP b with
  | none => rfl
  | some p =>
    rw [hn] at h
    simp only at h ⊢
    split at h
    · rename_i h4; rw [if_pos h4]
    · rename_i h4
      cases he : entP (blocksNo p.1) p.2 with
      | none => rw [if_neg h4]
      | some r => rw [he] at h; cases h
theorem not_post {b : List UInt8} (h : decP b = none) : ∀ l, ¬ IsPost b l := fun l hl => by
  have := hl.decP
  rw [h] at this
  cases this
theorem post_or {b : List UInt8} {o : List Int} (h : decP b = some o) (hn : ¬ (checkOf o = 0 ∧ postB o = b)) : ∀ l, ¬ IsPost b l := fun l hl => by
  have h1 := hl.decP
  rw [h] at h1
  injection h1 with h1
  subst h1
  exact hn hl
def DecRes (w : World) (b : List UInt8) (e : Ending) (w' : World) : Prop :=
  (∃ (l : List Int) (v : Value), IsPost b l ∧ e = .returned (.tuple #[v, .int .i64 0]) ∧ w'.ownsRow w.heap.size 3 1 v l.length (l.map (.int .i64)) ∧ Below w.heap.size w w') ∨
  ((∀ l, ¬ IsPost b l) ∧ e = .returned (.tuple #[.slice none 0 0, .int .i64 22]) ∧ Below w.heap.size w w')
end Go.Proofs.Ytihimbmbhmgjoaa
