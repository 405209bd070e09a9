/- A drawn region whose last operation is a store behind all others: each operation is shown once, its result by a property of its own. No program in sight. -/
import Derived.Test.YtldopkdjoejhbaaDoorInv
namespace Go.Proofs.YtldopkdjoejhbaaDoor
open Go.RowKit

def upd (x : Nat → Value) (d : Nat) (v : Value) : Nat → Value := fun k => if k = d then v else x k
theorem upd_same (x : Nat → Value) (d : Nat) (v : Value) : upd x d v d = v := by simp [upd]
theorem upd_other (x : Nat → Value) {d k : Nat} (v : Value) (h : k ≠ d) : upd x d v k = x k := by simp [upd, h]
/-- The place of an operation's result. -/
def dstOf (ops : Array Oper) (i : Nat) : Nat := ((ops[i]?).bind (·.dst)).getD 0
/-- Every operation but the last has a place of its own for its result; no guards; edges go back; the last one waits for all. -/
def slotsOk (ops : Array Oper) : Bool :=
  ((List.range ops.size).all fun i => match ops[i]? with
    | some o => o.guard.isNone && (o.after.all fun e => decide (e.on < i)) && (if i + 1 < ops.size then o.dst.isSome else o.dst.isNone)
    | none => false) &&
  (List.range (ops.size - 1)).all (fun i => (List.range (ops.size - 1)).all fun j => i == j || dstOf ops i != dstOf ops j) &&
  (List.range (ops.size - 1)).all (fun j => match ops[ops.size - 1]? with | some o => o.after.any fun e => e.on == j && Region.binds .any e | none => false)
theorem ready_iff {md : Region.Mode} {ops : Array Oper} {listed : Array Bool} {j : Nat} (h : j ∈ Region.ready md ops listed) :
    j < ops.size ∧ listed.getD j true = false ∧ ∃ o, ops[j]? = some o ∧ ∀ e ∈ o.after, Region.binds md e = true → listed.getD e.on false = true := by
  obtain ⟨h1, h2⟩ := ready_mem h
  refine ⟨h1, h2, ?_⟩
  simp only [Region.ready, List.mem_filter, List.mem_range, Bool.and_eq_true] at h
  obtain ⟨_, _, h3⟩ := h
  cases ho : ops[j]? with
  | none => rw [ho] at h3; simp at h3
  | some o =>
    rw [ho] at h3
    simp only [Option.map_some, Option.getD_some] at h3
    rw [Array.all_eq_true'] at h3
    refine ⟨o, rfl, fun e he hb => ?_⟩
    have := h3 e he
    simpa [hb] using this
theorem mem_ready_of {md : Region.Mode} {ops : Array Oper} {listed : Array Bool} {j : Nat} {o : Oper} (h1 : j < ops.size) (h2 : listed.getD j true = false) (ho : ops[j]? = some o) (h3 : ∀ e ∈ o.after, Region.binds md e = true → listed.getD e.on false = true) : j ∈ Region.ready md ops listed := by
  simp only [Region.ready, List.mem_filter, List.mem_range, Bool.and_eq_true, Bool.not_eq_true']
  refine ⟨h1, h2, ?_⟩
  rw [ho]
  simp only [Option.map_some, Option.getD_some]
  rw [Array.all_eq_true']
  intro e he
  cases hb : Region.binds md e with
  | false => simp
  | true => simp [h3 e he hb]
section
variable {P : Program} {ops : Array Oper} {Q : Exit → Act → World → Prop} {id : Nat} {w0 : World} {ds : List Deferred}
theorem slots_spec (hok : slotsOk ops = true) : (∀ i o, ops[i]? = some o → o.guard = none ∧ (∀ e ∈ o.after, e.on < i) ∧ (i + 1 < ops.size → ∃ d, o.dst = some d) ∧ (¬ i + 1 < ops.size → o.dst = none)) ∧
    (∀ i j, i < ops.size - 1 → j < ops.size - 1 → i ≠ j → dstOf ops i ≠ dstOf ops j) ∧ (∀ j, j < ops.size - 1 → ∀ o, ops[ops.size - 1]? = some o → ∃ e ∈ o.after, e.on = j ∧ Region.binds .any e = true) := by
  unfold slotsOk at hok
  simp only [Bool.and_eq_true] at hok
  obtain ⟨⟨h1, h2⟩, h3⟩ := hok
  refine ⟨fun i o ho => ?_, fun i j hi hj hne he => ?_, fun j hj o ho => ?_⟩
  · have hi : i < ops.size := (Array.getElem?_eq_some_iff.1 ho).1
    have := List.all_eq_true.1 h1 i (List.mem_range.2 hi)
    rw [ho] at this
    simp only [Bool.and_eq_true, Option.isNone_iff_eq_none] at this
    obtain ⟨⟨g, a⟩, d⟩ := this
    rw [Array.all_eq_true'] at a
    refine ⟨g, fun e he => by simpa using a e he, fun hl => ?_, fun hl => ?_⟩
    · rw [if_pos hl] at d
      exact Option.isSome_iff_exists.1 d
    · rw [if_neg hl] at d
      simpa using d
  · have := List.all_eq_true.1 (List.all_eq_true.1 h2 i (List.mem_range.2 hi)) j (List.mem_range.2 hj)
    simp [hne, he] at this
  · have := List.all_eq_true.1 h3 j (List.mem_range.2 hj)
    rw [ho] at this
    simp only [] at this
    rw [Array.any_eq_true'] at this
    obtain ⟨e, he, h⟩ := this
    simp only [Bool.and_eq_true, beq_iff_eq] at h
    exact ⟨e, he, h.1, h.2⟩
theorem ready_nil_all (hok : slotsOk ops = true) {listed : Array Bool} (hr : Region.ready .any ops listed = []) : ∀ k, ∀ i, i < k → i < ops.size → listed.getD i true = true := by
  intro k
  induction k with
  | zero => intro i hi; omega
  | succ k ih =>
    intro i hi hs
    by_cases hik : i < k
    · exact ih i hik hs
    · obtain rfl : i = k := by omega
      cases hl : listed.getD i true with
      | true => rfl
      | false =>
        have ho : ops[i]? = some ops[i] := Array.getElem?_eq_getElem hs
        obtain ⟨_, hb, _⟩ := (slots_spec hok).1 i _ ho
        have : i ∈ Region.ready .any ops listed := mem_ready_of hs hl ho (fun e he _ => by
          have h1 := ih e.on (hb e he) (by have := hb e he; omega)
          have h2 : e.on < listed.size := by
            rcases Nat.lt_or_ge e.on listed.size with h | h
            · exact h
            · exfalso
              have hi2 : i < listed.size := by
                rcases Nat.lt_or_ge i listed.size with h | h
                · exact h
                · rw [Array.getD, dif_neg (by omega)] at hl; cases hl
              have := hb e he
              omega
          simpa [Array.getD, h2] using h1)
        rw [hr] at this
        cases this
/-- What holds between two operations. -/
structure SI (ops : Array Oper) (T : (Nat → Value) → Array Value) (ds : List Deferred) (x0 : Nat → Value) (Wk : World → Prop) (Pr : Nat → Value → World → Prop) (listed : Array Bool) (x : Nat → Value) (a : Act) (w : World) : Prop where
  a_ : a = { tmps := T x, defers := ds }
  w_ : Wk w
  o_ : ∀ k, (∀ i, i < ops.size - 1 → dstOf ops i ≠ k) → x k = x0 k
  p_ : ∀ j, j < ops.size - 1 → listed.getD j false = true → Pr j (x (dstOf ops j)) w
  n_ : listed.size = ops.size
theorem wp_region_slots (hm : P.follows .mixedOrders = true) (hok : slotsOk ops = true) (hpos : 0 < ops.size) (T : (Nat → Value) → Array Value) (x0 : Nat → Value) (Wk : World → Prop) (Mn : World → World → Prop) (Pr : Nat → Value → World → Prop) (Fin : (Nat → Value) → World → Prop)
    (hmono : ∀ j v w w', Mn w w' → Pr j v w → Pr j v w') (h0 : Wk { w0 with drawn := w0.drawn + 1 })
    (hstep : ∀ i o d, i < ops.size - 1 → ops[i]? = some o → o.dst = some d → ∀ (x : Nat → Value) (w : World) (K : Act → World → Prop), Wk w → (∀ k, (∀ i, i < ops.size - 1 → dstOf ops i ≠ k) → x k = x0 k) → (∀ e ∈ o.after, Region.binds .any e = true → Pr e.on (x (dstOf ops e.on)) w) →
      (∀ v w', Wk w' → Mn w w' → Pr i v w' → K { tmps := T (upd x d v), defers := ds } w') → o.wp P { tmps := T x, defers := ds } w K Q)
    (hlast : ∀ o, ops[ops.size - 1]? = some o → ∀ (x : Nat → Value) (w : World) (K : Act → World → Prop), Wk w → (∀ k, (∀ i, i < ops.size - 1 → dstOf ops i ≠ k) → x k = x0 k) → (∀ j, j < ops.size - 1 → Pr j (x (dstOf ops j)) w) →
      (∀ w', Fin x w' → K { tmps := T x, defers := ds } w') → o.wp P { tmps := T x, defers := ds } w K Q)
    (hend : ∀ (x : Nat → Value) (w : World), (∀ k, (∀ i, i < ops.size - 1 → dstOf ops i ≠ k) → x k = x0 k) → Fin x w → Q .normal { tmps := T x, defers := ds } w) :
    (Code.region id ops true).wp P Q { tmps := T x0, defers := ds } w0 := by
  obtain ⟨s1, s2, s3⟩ := slots_spec hok
  refine wp_region_inv hm (fun listed a w => (listed.getD (ops.size - 1) false = false ∧ ∃ x, SI ops T ds x0 Wk Pr listed x a w) ∨ ((∀ i, i < ops.size → listed.getD i true = true) ∧ ∃ x, a = { tmps := T x, defers := ds } ∧ (∀ k, (∀ i, i < ops.size - 1 → dstOf ops i ≠ k) → x k = x0 k) ∧ Fin x w)) ?_ ?_ ?_
  · refine .inl ⟨by simp [show ops.size - 1 < ops.size by omega], x0, rfl, h0, fun _ _ => rfl, fun j hj h => ?_, by simp⟩
    simp [Array.getD, show j < ops.size by omega] at h
  · rintro listed a w i (⟨hnl, x, hS⟩ | ⟨hall, _⟩) hi
    · obtain ⟨hi1, hi2, o, ho, hdep⟩ := ready_iff hi
      obtain ⟨g, hbk, hd1, hd2⟩ := s1 i o ho
      have hun : wpOp P ops Q i = fun K a w => if Region.wanted o (yielded ops a.tmps) then o.wp P a w K Q ∨ (o.asks P a w ∧ LetsOut Q) else K (a.put o.dst undef) w := by
        funext K a w
        simp only [wpOp, ho]
      rw [hun]
      show if Region.wanted o (yielded ops a.tmps) then _ else _
      rw [if_pos (by simp [Region.wanted, g]), hS.a_]
      refine .inl ?_
      have hsz := hS.n_
      have hin : i < listed.size := by omega
      by_cases hl : i + 1 < ops.size
      · obtain ⟨d, hd⟩ := hd1 hl
        have hdi : dstOf ops i = d := by simp [dstOf, ho, hd]
        refine hstep i o d (by omega) ho hd x w _ hS.w_ hS.o_ (fun e he hb => hS.p_ e.on (by have := hbk e he; omega) (hdep e he hb)) (fun v w' hw hmn hp => ?_)
        refine .inl ⟨?_, upd x d v, rfl, hw, fun k hk => ?_, fun j hj hlj => ?_, by simpa using hsz⟩
        · rw [getD_set_ne false (by omega)]; exact hnl
        · rw [upd_other x v (fun e => hk i (by omega) (by rw [hdi, e]))]
          exact hS.o_ k hk
        · by_cases hij : j = i
          · subst hij
            rw [hdi, upd_same]
            exact hp
          · rw [upd_other x v (by rw [← hdi]; exact s2 j i hj (by omega) hij)]
            rw [getD_set_ne false (fun e => hij e.symm)] at hlj
            exact hmono _ _ _ _ hmn (hS.p_ j hj hlj)
      · obtain rfl : i = ops.size - 1 := by omega
        refine hlast o ho x w _ hS.w_ hS.o_ (fun j hj => ?_) (fun w' hF => ?_)
        · obtain ⟨e, he, rfl, hb⟩ := s3 j hj o ho
          exact hS.p_ e.on hj (hdep e he hb)
        · refine .inr ⟨fun j hj => ?_, x, rfl, hS.o_, hF⟩
          by_cases hjm : j = ops.size - 1
          · rw [hjm]
            simp [Array.getD, hin]
          · obtain ⟨e, he, rfl, hb⟩ := s3 j (by omega) o ho
            have h1 := getD_set_true (i := ops.size - 1) (hdep e he hb)
            have h2 : e.on < listed.size := by omega
            simpa [Array.getD, h2] using h1
    · obtain ⟨hi1, hi2, _⟩ := ready_iff hi
      rw [hall i hi1] at hi2
      cases hi2
  · rintro listed a w (⟨hnl, x, hS⟩ | ⟨hall, x, rfl, ho, hF⟩) hr
    · have h1 := ready_nil_all hok hr ops.size (ops.size - 1) (by omega) (by omega)
      have h2 : ops.size - 1 < listed.size := by have := hS.n_; omega
      simp [Array.getD, h2] at h1 hnl
      rw [hnl] at h1
      cases h1
    · exact hend x w ho hF
end
end Go.Proofs.YtldopkdjoejhbaaDoor
