/- A drawn region, some of whose operations hand nothing back (a store ahead of the last one); the last operation waits for all. No program in sight. -/
import Derived.Test.YtncmbdcicjolcaaDoorSlots
namespace Go.Proofs.YtncmbdcicjolcaaDoor
open Go.RowKit

def dstO (ops : Array Oper) (i : Nat) : Option Nat := (ops[i]?).bind (·.dst)
/-- What operation i left. -/
def sv (ops : Array Oper) (x : Nat → Value) (i : Nat) : Value := match dstO ops i with | some d => x d | none => undef
def nxt (d : Option Nat) (v : Value) (x : Nat → Value) : Nat → Value := match d with | some d => upd x d v | none => x
def vv (d : Option Nat) (v : Value) : Value := match d with | some _ => v | none => undef
def slotsOk2 (ops : Array Oper) : Bool :=
  ((List.range ops.size).all fun i => match ops[i]? with
    | some o => o.guard.isNone && (o.after.all fun e => decide (e.on < i))
    | none => false) &&
  (List.range ops.size).all (fun i => (List.range ops.size).all fun j => i == j || (dstO ops i).isNone || dstO ops i != dstO ops j) &&
  (List.range (ops.size - 1)).all (fun j => match ops[ops.size - 1]? with | some o => o.after.any fun e => e.on == j && Region.binds .any e | none => false)
section
variable {P : Program} {ops : Array Oper} {Q : Exit → Act → World → Prop} {id : Nat} {w0 : World} {ds : List Deferred}
theorem slots_spec2 (hok : slotsOk2 ops = true) : (∀ (i : Nat) (o : Oper), ops[i]? = some o → o.guard = none ∧ (∀ e ∈ o.after, e.on < i)) ∧
    (∀ i j, i < ops.size → j < ops.size → i ≠ j → dstO ops i = none ∨ dstO ops i ≠ dstO ops j) ∧ (∀ (j : Nat), j < ops.size - 1 → ∀ (o : Oper), ops[ops.size - 1]? = some o → ∃ e ∈ o.after, e.on = j ∧ Region.binds .any e = true) := by
  unfold slotsOk2 at hok
  simp only [Bool.and_eq_true] at hok
  obtain ⟨⟨h1, h2⟩, h3⟩ := hok
  refine ⟨fun i o ho => ?_, fun i j hi hj hne => ?_, fun j hj o ho => ?_⟩
  · have hi : i < ops.size := (Array.getElem?_eq_some_iff.1 ho).1
    have := List.all_eq_true.1 h1 i (List.mem_range.2 hi)
    rw [ho] at this
    simp only [Bool.and_eq_true, Option.isNone_iff_eq_none] at this
    obtain ⟨g, a⟩ := this
    rw [Array.all_eq_true'] at a
    exact ⟨g, fun e he => by simpa using a e he⟩
  · have := List.all_eq_true.1 (List.all_eq_true.1 h2 i (List.mem_range.2 hi)) j (List.mem_range.2 hj)
    simpa [hne, Option.isNone_iff_eq_none] using this
  · have := List.all_eq_true.1 h3 j (List.mem_range.2 hj)
    rw [ho] at this
    simp only [] at this
    rw [Array.any_eq_true'] at this
    obtain ⟨e, he, h⟩ := this
    simp only [Bool.and_eq_true, beq_iff_eq] at h
    exact ⟨e, he, h.1, h.2⟩
theorem ready_nil_all2 (hok : slotsOk2 ops = true) {listed : Array Bool} (hr : Region.ready .any ops listed = []) : ∀ k, ∀ i, i < k → i < ops.size → listed.getD i true = true := by
  intro k
  induction k with
  | zero => intro i hi; omega
  | succ k ih =>
    intro i hi hs
    by_cases hik : i < k
    · exact ih i hik hs
    · obtain rfl : i = k := by omega
      cases hl : listed.getD i true with
      | true => rfl
      | false =>
        have ho : ops[i]? = some ops[i] := Array.getElem?_eq_getElem hs
        obtain ⟨_, hb⟩ := (slots_spec2 hok).1 i _ ho
        have : i ∈ Region.ready .any ops listed := mem_ready_of hs hl ho (fun e he _ => by
          have h1 := ih e.on (hb e he) (by have := hb e he; omega)
          have h2 : e.on < listed.size := by
            rcases Nat.lt_or_ge e.on listed.size with h | h
            · exact h
            · exfalso
              have hi2 : i < listed.size := by
                rcases Nat.lt_or_ge i listed.size with h | h
                · exact h
                · rw [Array.getD, dif_neg (by omega)] at hl; cases hl
              have := hb e he
              omega
          simpa [Array.getD, h2] using h1)
        rw [hr] at this
        cases this
structure SI2 (ops : Array Oper) (T : (Nat → Value) → Array Value) (ds : List Deferred) (x0 : Nat → Value) (Wk : World → Prop) (Pr : Nat → Value → World → Prop) (listed : Array Bool) (x : Nat → Value) (a : Act) (w : World) : Prop where
  a_ : a = { tmps := T x, defers := ds }
  w_ : Wk w
  o_ : ∀ k, (∀ i, i < ops.size → dstO ops i ≠ some k) → x k = x0 k
  p_ : ∀ j, j < ops.size - 1 → listed.getD j false = true → Pr j (sv ops x j) w
  n_ : listed.size = ops.size
theorem sv_nxt_same {o : Oper} {i : Nat} (ho : ops[i]? = some o) (v : Value) (x : Nat → Value) : sv ops (nxt o.dst v x) i = vv o.dst v := by
  have : dstO ops i = o.dst := by simp [dstO, ho]
  unfold sv nxt vv
  rw [this]
  cases o.dst with
  | none => rfl
  | some d => exact upd_same x d v
theorem sv_nxt_other {o : Oper} {i j : Nat} (ho : ops[i]? = some o) (v : Value) (x : Nat → Value) (h : dstO ops j = none ∨ dstO ops j ≠ dstO ops i) : sv ops (nxt o.dst v x) j = sv ops x j := by
  have hi : dstO ops i = o.dst := by simp [dstO, ho]
  rw [hi] at h
  unfold sv nxt
  cases hj : dstO ops j with
  | none => rfl
  | some k =>
    cases hd : o.dst with
    | none => rfl
    | some d =>
      rw [hj, hd] at h
      rcases h with h | h
      · cases h
      · exact upd_other x v (fun e => h (by rw [e]))
theorem nxt_out {o : Oper} {i k : Nat} (ho : ops[i]? = some o) (hi : i < ops.size) (v : Value) (x : Nat → Value) (hk : ∀ i, i < ops.size → dstO ops i ≠ some k) : nxt o.dst v x k = x k := by
  have h := hk i hi
  rw [show dstO ops i = o.dst by simp [dstO, ho]] at h
  unfold nxt
  cases hd : o.dst with
  | none => rfl
  | some d =>
    rw [hd] at h
    exact upd_other x v (fun e => h (by rw [e]))
theorem wp_region_slots2 (hm : P.follows .mixedOrders = true) (hok : slotsOk2 ops = true) (hpos : 0 < ops.size) (T : (Nat → Value) → Array Value) (x0 : Nat → Value) (Wk : World → Prop) (Mn : World → World → Prop) (Pr : Nat → Value → World → Prop) (Fin : (Nat → Value) → World → Prop)
    (hmono : ∀ j v w w', Mn w w' → Pr j v w → Pr j v w') (h0 : Wk { w0 with drawn := w0.drawn + 1 })
    (hstep : ∀ i o, i < ops.size - 1 → ops[i]? = some o → ∀ (x : Nat → Value) (w : World) (K : Act → World → Prop), Wk w → (∀ k, (∀ i, i < ops.size → dstO ops i ≠ some k) → x k = x0 k) → (∀ e ∈ o.after, Region.binds .any e = true → Pr e.on (sv ops x e.on) w) →
      (∀ v w', Wk w' → Mn w w' → Pr i (vv o.dst v) w' → K { tmps := T (nxt o.dst v x), defers := ds } w') → o.wp P { tmps := T x, defers := ds } w K Q)
    (hlast : ∀ o, ops[ops.size - 1]? = some o → ∀ (x : Nat → Value) (w : World) (K : Act → World → Prop), Wk w → (∀ k, (∀ i, i < ops.size → dstO ops i ≠ some k) → x k = x0 k) → (∀ j, j < ops.size - 1 → Pr j (sv ops x j) w) →
      (∀ v w', Fin (nxt o.dst v x) w' → K { tmps := T (nxt o.dst v x), defers := ds } w') → o.wp P { tmps := T x, defers := ds } w K Q)
    (hend : ∀ (x : Nat → Value) (w : World), (∀ k, (∀ i, i < ops.size → dstO ops i ≠ some k) → x k = x0 k) → Fin x w → Q .normal { tmps := T x, defers := ds } w) :
    (Code.region id ops true).wp P Q { tmps := T x0, defers := ds } w0 := by
  obtain ⟨s1, s2, s3⟩ := slots_spec2 hok
  refine wp_region_inv hm (fun listed a w => (listed.getD (ops.size - 1) false = false ∧ ∃ x, SI2 ops T ds x0 Wk Pr listed x a w) ∨ ((∀ i, i < ops.size → listed.getD i true = true) ∧ ∃ x, a = { tmps := T x, defers := ds } ∧ (∀ k, (∀ i, i < ops.size → dstO ops i ≠ some k) → x k = x0 k) ∧ Fin x w)) ?_ ?_ ?_
  · refine .inl ⟨by simp [show ops.size - 1 < ops.size by omega], x0, rfl, h0, fun _ _ => rfl, fun j hj h => ?_, by simp⟩
    simp [Array.getD, show j < ops.size by omega] at h
  · rintro listed a w i (⟨hnl, x, hS⟩ | ⟨hall, _⟩) hi
    · obtain ⟨hi1, hi2, o, ho, hdep⟩ := ready_iff hi
      obtain ⟨g, hbk⟩ := s1 i o ho
      have hun : wpOp P ops Q i = fun K a w => if Region.wanted o (yielded ops a.tmps) then o.wp P a w K Q ∨ (o.asks P a w ∧ LetsOut Q) else K (a.put o.dst undef) w := by
        funext K a w
        simp only [wpOp, ho]
      rw [hun]
      show if Region.wanted o (yielded ops a.tmps) then _ else _
      rw [if_pos (by simp [Region.wanted, g]), hS.a_]
      refine .inl ?_
      have hsz := hS.n_
      have hin : i < listed.size := by omega
      by_cases hl : i + 1 < ops.size
      · refine hstep i o (by omega) ho x w _ hS.w_ hS.o_ (fun e he hb => hS.p_ e.on (by have := hbk e he; omega) (hdep e he hb)) (fun v w' hw hmn hp => ?_)
        refine .inl ⟨?_, nxt o.dst v x, rfl, hw, fun k hk => (nxt_out ho hi1 v x hk).trans (hS.o_ k hk), fun j hj hlj => ?_, by simpa using hsz⟩
        · rw [getD_set_ne false (by omega)]; exact hnl
        · by_cases hij : j = i
          · subst hij
            rw [sv_nxt_same ho]
            exact hp
          · rw [sv_nxt_other ho v x (s2 j i (by omega) hi1 hij)]
            rw [getD_set_ne false (fun e => hij e.symm)] at hlj
            exact hmono _ _ _ _ hmn (hS.p_ j hj hlj)
      · obtain rfl : i = ops.size - 1 := by omega
        refine hlast o ho x w _ hS.w_ hS.o_ (fun j hj => ?_) (fun v w' hF => ?_)
        · obtain ⟨e, he, rfl, hb⟩ := s3 j hj o ho
          exact hS.p_ e.on hj (hdep e he hb)
        · refine .inr ⟨fun j hj => ?_, nxt o.dst v x, rfl, fun k hk => (nxt_out ho hi1 v x hk).trans (hS.o_ k hk), hF⟩
          by_cases hjm : j = ops.size - 1
          · rw [hjm]
            simp [Array.getD, hin]
          · obtain ⟨e, he, rfl, hb⟩ := s3 j (by omega) o ho
            have h1 := getD_set_true (i := ops.size - 1) (hdep e he hb)
            have h2 : e.on < listed.size := by omega
            simpa [Array.getD, h2] using h1
    · obtain ⟨hi1, hi2, _⟩ := ready_iff hi
      rw [hall i hi1] at hi2
      cases hi2
  · rintro listed a w (⟨hnl, x, hS⟩ | ⟨hall, x, rfl, ho, hF⟩) hr
    · have h1 := ready_nil_all2 hok hr ops.size (ops.size - 1) (by omega) (by omega)
      have h2 : ops.size - 1 < listed.size := by have := hS.n_; omega
      simp [Array.getD, h2] at h1 hnl
      rw [hnl] at h1
      cases h1
    · exact hend x w ho hF
end
end Go.Proofs.YtncmbdcicjolcaaDoor
