/- A region that draws its order, by an invariant: each operation is shown once, whatever went before. No program in sight. A region that draws its order: each operation is shown once, by a property of its own result; guards may be false; no operation need be the last. No program in sight. -/
import Derived.Test.YtigogjlbemkhdaaGreatLib
import Derived.Orders
namespace Go.Proofs.YtigogjlbemkhdaaGreat
open Go.RowKit
/-- How many operations are still to come. -/
def toCome (n : Nat) (listed : Array Bool) : Nat := ((List.range n).filter fun i => !listed.getD i true).length
theorem filter_len_lt {α : Type} (p q : α → Bool) (l : List α) (h : ∀ x, q x = true → p x = true) (x : α) (hx : x ∈ l) (hp : p x = true) (hq : q x = false) : (l.filter q).length < (l.filter p).length := by
  induction l with
  | nil => simp at hx
  | cons y l ih =>
    have hle : (l.filter q).length ≤ (l.filter p).length := by
      clear ih hx
      induction l with
      | nil => simp
      | cons z l ih =>
        by_cases hqz : q z = true
        · simp [hqz, h z hqz]; exact ih
        · by_cases hpz : p z = true <;> simp [hqz, hpz] <;> omega
    rcases List.mem_cons.1 hx with rfl | hx
    · simp [hp, hq]; omega
    · have := ih hx
      by_cases hqy : q y = true
      · simp [hqy, h y hqy]; exact this
      · by_cases hpy : p y = true <;> simp [hqy, hpy] <;> omega
theorem ready_mem {md : Region.Mode} {ops : Array Oper} {listed : Array Bool} {i : Nat} (h : i ∈ Region.ready md ops listed) : i < ops.size ∧ listed.getD i true = false := by
  simp only [Region.ready, List.mem_filter, List.mem_range, Bool.and_eq_true, Bool.not_eq_true'] at h
  exact ⟨h.1, h.2.1⟩
theorem toCome_lt {md : Region.Mode} {ops : Array Oper} {listed : Array Bool} {i : Nat} (h : i ∈ Region.ready md ops listed) : toCome ops.size (listed.setIfInBounds i true) < toCome ops.size listed := by
  obtain ⟨h1, h2⟩ := ready_mem h
  have hil : i < listed.size := by
    by_cases hl : i < listed.size
    · exact hl
    · rw [Array.getD, dif_neg hl] at h2; cases h2
  refine filter_len_lt _ _ _ (fun x hx => ?_) i (List.mem_range.2 h1) (by simp [h2]) (by simp [Array.getD, hil])
  by_cases e : i = x
  · subst e; simp [Array.getD, hil] at hx
  · by_cases hxl : x < listed.size
    · simpa [Array.getD, hxl, Array.getElem_setIfInBounds, e] using hx
    · simp [Array.getD, hxl] at hx
/-- The rule. -/
theorem wpAny_inv {P : Program} {md : Region.Mode} {ops : Array Oper} {Q : Exit → Act → World → Prop} (I : Array Bool → Act → World → Prop)
    (hstep : ∀ (listed : Array Bool) (a : Act) (w : World) (i : Nat), I listed a w → i ∈ Region.ready md ops listed → wpOp P ops Q i (I (listed.setIfInBounds i true)) a w)
    (hend : ∀ (listed : Array Bool) (a : Act) (w : World), I listed a w → Region.ready md ops listed = [] → Q .normal a w) :
    ∀ (fuel : Nat) (listed : Array Bool) (a : Act) (w : World), I listed a w → toCome ops.size listed ≤ fuel → wpAny P md ops Q fuel listed a w := by
  intro fuel
  induction fuel with
  | zero =>
    intro listed a w h hf
    have hr : Region.ready md ops listed = [] := by
      cases hr : Region.ready md ops listed with
      | nil => rfl
      | cons i rs =>
        have := toCome_lt (md := md) (ops := ops) (listed := listed) (i := i) (by rw [hr]; exact List.mem_cons_self ..)
        omega
    exact ⟨hr, hend _ _ _ h hr⟩
  | succ fuel ih =>
    intro listed a w h hf
    refine ⟨fun hr => hend _ _ _ h hr, fun i hi => ?_⟩
    have hlt := toCome_lt hi
    exact wpOp_mono (fun a' w' h' => ih _ a' w' h' (by omega)) (hstep listed a w i h hi)
theorem wp_region_inv {P : Program} {ops : Array Oper} {Q : Exit → Act → World → Prop} {id : Nat} {a : Act} {w : World} (hm : P.follows .mixedOrders = true) (I : Array Bool → Act → World → Prop)
    (h0 : I (Array.replicate ops.size false) a { w with drawn := w.drawn + 1 })
    (hstep : ∀ (listed : Array Bool) (a : Act) (w : World) (i : Nat), I listed a w → i ∈ Region.ready .any ops listed → wpOp P ops Q i (I (listed.setIfInBounds i true)) a w)
    (hend : ∀ (listed : Array Bool) (a : Act) (w : World), I listed a w → Region.ready .any ops listed = [] → Q .normal a w) : (Code.region id ops true).wp P Q a w :=
  wp_region_any hm (wpAny_inv I hstep hend _ _ _ _ h0 (by
    refine Nat.le_trans (List.length_filter_le _ _) ?_
    simp))
end Go.Proofs.YtigogjlbemkhdaaGreat
namespace Go.Proofs.YtigogjlbemkhdaaGreat
open Go.RowKit
def rUpd (x : Nat → Value) (d : Nat) (v : Value) : Nat → Value := fun k => if k = d then v else x k
def rDst (ops : Array Oper) (i : Nat) : Option Nat := (ops[i]?).bind (·.dst)
/-- What operation i left. -/
def rVal (ops : Array Oper) (x : Nat → Value) (i : Nat) : Value := match rDst ops i with | some d => x d | none => undef
def rNxt (d : Option Nat) (v : Value) (x : Nat → Value) : Nat → Value := match d with | some d => rUpd x d v | none => x
def rVv (d : Option Nat) (v : Value) : Value := match d with | some _ => v | none => undef
/-- The operations whose results operation i waits for. -/
def rDeps (ops : Array Oper) (i : Nat) : List Nat := match ops[i]? with | some o => (o.after.toList.filter fun e => Region.binds .any e).map (·.on) | none => []
def rGuardOk (o : Oper) : Bool := match o.guard with | none => true | some (j, _) => o.after.any fun e => e.on == j && Region.binds .any e
def regOk (ops : Array Oper) : Bool :=
  ((List.range ops.size).all fun i => match ops[i]? with
    | some o => rGuardOk o && (o.after.all fun e => decide (e.on < i))
    | none => false) &&
  (List.range ops.size).all (fun i => (List.range ops.size).all fun j => i == j || (rDst ops i).isNone || rDst ops i != rDst ops j)
theorem rready_iff {md : Region.Mode} {ops : Array Oper} {listed : Array Bool} {j : Nat} (h : j ∈ Region.ready md ops listed) :
    j < ops.size ∧ listed.getD j true = false ∧ ∃ o, ops[j]? = some o ∧ ∀ e ∈ o.after, Region.binds md e = true → listed.getD e.on false = true := by
  obtain ⟨h1, h2⟩ := ready_mem h
  refine ⟨h1, h2, ?_⟩
  simp only [Region.ready, List.mem_filter, List.mem_range, Bool.and_eq_true] at h
  obtain ⟨_, _, h3⟩ := h
  cases ho : ops[j]? with
  | none => rw [ho] at h3; simp at h3
  | some o =>
    rw [ho] at h3
    simp only [Option.map_some, Option.getD_some] at h3
    rw [Array.all_eq_true'] at h3
    refine ⟨o, rfl, fun e he hb => ?_⟩
    have := h3 e he
    simpa [hb] using this
theorem rmem_ready {md : Region.Mode} {ops : Array Oper} {listed : Array Bool} {j : Nat} {o : Oper} (h1 : j < ops.size) (h2 : listed.getD j true = false) (ho : ops[j]? = some o) (h3 : ∀ e ∈ o.after, Region.binds md e = true → listed.getD e.on false = true) :
    j ∈ Region.ready md ops listed := by
  simp only [Region.ready, List.mem_filter, List.mem_range, Bool.and_eq_true, Bool.not_eq_true']
  refine ⟨h1, h2, ?_⟩
  rw [ho]
  simp only [Option.map_some, Option.getD_some]
  rw [Array.all_eq_true']
  intro e he
  cases hb : Region.binds md e with
  | false => simp
  | true => simp [h3 e he hb]
theorem rset_ne {listed : Array Bool} {i j : Nat} (d : Bool) (h : i ≠ j) : (listed.setIfInBounds i true).getD j d = listed.getD j d := by
  by_cases hl : j < listed.size
  · simp [Array.getD, hl, h]
  · simp [Array.getD, hl]
theorem rset_true {listed : Array Bool} {i j : Nat} (h : listed.getD j false = true) : (listed.setIfInBounds i true).getD j false = true := by
  by_cases e : i = j
  · subst e
    have : i < listed.size := by
      by_cases hl : i < listed.size
      · exact hl
      · rw [Array.getD, dif_neg hl] at h; cases h
    simp [Array.getD, this]
  · rw [rset_ne false e]; exact h
section
variable {P : Program} {ops : Array Oper} {Q : Exit → Act → World → Prop} {id : Nat} {w0 : World} {ds : List Deferred}
theorem reg_spec (hok : regOk ops = true) : (∀ (i : Nat) (o : Oper), ops[i]? = some o → rGuardOk o = true ∧ (∀ e ∈ o.after, e.on < i)) ∧
    (∀ i j, i < ops.size → j < ops.size → i ≠ j → rDst ops i = none ∨ rDst ops i ≠ rDst ops j) := by
  unfold regOk at hok
  simp only [Bool.and_eq_true] at hok
  obtain ⟨h1, h2⟩ := hok
  refine ⟨fun i o ho => ?_, fun i j hi hj hne => ?_⟩
  · have hi : i < ops.size := (Array.getElem?_eq_some_iff.1 ho).1
    have := List.all_eq_true.1 h1 i (List.mem_range.2 hi)
    rw [ho] at this
    simp only [Bool.and_eq_true] at this
    obtain ⟨g, a⟩ := this
    rw [Array.all_eq_true'] at a
    exact ⟨g, fun e he => by simpa using a e he⟩
  · have := List.all_eq_true.1 (List.all_eq_true.1 h2 i (List.mem_range.2 hi)) j (List.mem_range.2 hj)
    simpa [hne, Option.isNone_iff_eq_none] using this
theorem rready_nil (hok : regOk ops = true) {listed : Array Bool} (hsz : listed.size = ops.size) (hr : Region.ready .any ops listed = []) : ∀ k, ∀ i, i < k → i < ops.size → listed.getD i false = true := by
  intro k
  induction k with
  | zero => intro i hi; omega
  | succ k ih =>
    intro i hi hs
    by_cases hik : i < k
    · exact ih i hik hs
    · obtain rfl : i = k := by omega
      cases hl : listed.getD i false with
      | true => rfl
      | false =>
        have hl2 : listed.getD i true = false := by
          simpa [Array.getD, show i < listed.size by omega] using hl
        have ho : ops[i]? = some ops[i] := Array.getElem?_eq_getElem hs
        obtain ⟨_, hb⟩ := (reg_spec hok).1 i _ ho
        have : i ∈ Region.ready .any ops listed := rmem_ready hs hl2 ho (fun e he _ => ih e.on (hb e he) (by have := hb e he; omega))
        rw [hr] at this
        cases this
theorem rmem_deps {i k : Nat} {o : Oper} (ho : ops[i]? = some o) : k ∈ rDeps ops i ↔ ∃ e ∈ o.after, Region.binds .any e = true ∧ e.on = k := by
  unfold rDeps
  rw [ho]
  simp [and_assoc]
structure RI (ops : Array Oper) (T : (Nat → Value) → Array Value) (ds : List Deferred) (x0 : Nat → Value) (Wk : World → Prop) (Pr : Nat → Value → World → Prop) (listed : Array Bool) (x : Nat → Value) (a : Act) (w : World) : Prop where
  a_ : a = { tmps := T x, defers := ds }
  w_ : Wk w
  o_ : ∀ k, (∀ i, i < ops.size → rDst ops i ≠ some k) → x k = x0 k
  p_ : ∀ j, j < ops.size → listed.getD j false = true → Pr j (rVal ops x j) w
  n_ : listed.size = ops.size
theorem rval_same {o : Oper} {i : Nat} (ho : ops[i]? = some o) (v : Value) (x : Nat → Value) : rVal ops (rNxt o.dst v x) i = rVv o.dst v := by
  have : rDst ops i = o.dst := by simp [rDst, ho]
  unfold rVal rNxt rVv
  rw [this]
  cases o.dst with
  | none => rfl
  | some d => simp [rUpd]
theorem rval_other {o : Oper} {i j : Nat} (ho : ops[i]? = some o) (v : Value) (x : Nat → Value) (h : rDst ops j = none ∨ rDst ops j ≠ rDst ops i) : rVal ops (rNxt o.dst v x) j = rVal ops x j := by
  have hi : rDst ops i = o.dst := by simp [rDst, ho]
  rw [hi] at h
  unfold rVal rNxt
  cases hj : rDst ops j with
  | none => rfl
  | some k =>
    cases hd : o.dst with
    | none => rfl
    | some d =>
      rw [hj, hd] at h
      rcases h with h | h
      · cases h
      · simp [rUpd, show ¬ k = d from fun e => h (by rw [e])]
theorem rnxt_out {o : Oper} {i k : Nat} (ho : ops[i]? = some o) (hi : i < ops.size) (v : Value) (x : Nat → Value) (hk : ∀ i, i < ops.size → rDst ops i ≠ some k) : rNxt o.dst v x k = x k := by
  have h := hk i hi
  rw [show rDst ops i = o.dst by simp [rDst, ho]] at h
  unfold rNxt
  cases hd : o.dst with
  | none => rfl
  | some d =>
    rw [hd] at h
    simp [rUpd, show ¬ k = d from fun e => h (by rw [e])]
theorem wp_reg (hm : P.follows .mixedOrders = true) (hok : regOk ops = true) (T : (Nat → Value) → Array Value) (x0 : Nat → Value) (Wk : World → Prop) (Mn : Nat → World → World → Prop) (Pr : Nat → Value → World → Prop)
    (hT : ∀ j d, rDst ops j = some d → ∀ x : Nat → Value, (T x)[d]? = some (x d)) (hT2 : ∀ (o : Oper) (x : Nat → Value), ({ tmps := T x, defers := ds } : Act).put o.dst undef = { tmps := T (rNxt o.dst undef x), defers := ds })
    (hmono : ∀ i j v w w', i ≠ j → Mn i w w' → Pr j v w → Pr j v w') (h0 : Wk { w0 with drawn := w0.drawn + 1 })
    (hstep : ∀ i o, ops[i]? = some o → ∀ (x : Nat → Value) (w : World) (K : Act → World → Prop), Wk w → (∀ k, (∀ i, i < ops.size → rDst ops i ≠ some k) → x k = x0 k) → (∀ k ∈ rDeps ops i, Pr k (rVal ops x k) w) → (∀ j b, o.guard = some (j, b) → rVal ops x j = .bool b) →
      (∀ v w', Wk w' → Mn i w w' → Pr i (rVv o.dst v) w' → K { tmps := T (rNxt o.dst v x), defers := ds } w') → o.wp P { tmps := T x, defers := ds } w K Q)
    (hskip : ∀ i o j b, ops[i]? = some o → o.guard = some (j, b) → ∀ (x : Nat → Value) (w : World), Wk w → (∀ k ∈ rDeps ops i, Pr k (rVal ops x k) w) → rVal ops x j ≠ .bool b → Pr i undef w)
    (hend : ∀ (x : Nat → Value) (w : World), (∀ k, (∀ i, i < ops.size → rDst ops i ≠ some k) → x k = x0 k) → Wk w → (∀ j, j < ops.size → Pr j (rVal ops x j) w) → Q .normal { tmps := T x, defers := ds } w) :
    (Code.region id ops true).wp P Q { tmps := T x0, defers := ds } w0 := by
  obtain ⟨s1, s2⟩ := reg_spec hok
  refine wp_region_inv hm (fun listed a w => ∃ x, RI ops T ds x0 Wk Pr listed x a w) ?_ ?_ ?_
  · refine ⟨x0, rfl, h0, fun _ _ => rfl, fun j hj h => ?_, by simp⟩
    simp [Array.getD, hj] at h
  · rintro listed a w i ⟨x, hS⟩ hi
    obtain ⟨hi1, hi2, o, ho, hdep⟩ := rready_iff hi
    obtain ⟨g, hbk⟩ := s1 i o ho
    have hsz := hS.n_
    have hdp : ∀ k ∈ rDeps ops i, Pr k (rVal ops x k) w := fun k hk => by
      obtain ⟨e, he, hb, rfl⟩ := (rmem_deps ho).1 hk
      exact hS.p_ e.on (by have := hbk e he; omega) (hdep e he hb)
    have hnext : ∀ v w', Wk w' → (∀ j, j < ops.size → j ≠ i → listed.getD j false = true → Pr j (rVal ops x j) w') → Pr i (rVv o.dst v) w' → ∃ x', RI ops T ds x0 Wk Pr (listed.setIfInBounds i true) x' { tmps := T (rNxt o.dst v x), defers := ds } w' := fun v w' hw hall hp => by
      refine ⟨rNxt o.dst v x, rfl, hw, fun k hk => (rnxt_out ho hi1 v x hk).trans (hS.o_ k hk), fun j hj hlj => ?_, by simpa using hsz⟩
      by_cases hij : j = i
      · subst hij
        rw [rval_same ho]
        exact hp
      · rw [rval_other ho v x (s2 j i hj hi1 hij)]
        rw [rset_ne false (fun e => hij e.symm)] at hlj
        exact hall j hj hij hlj
    have hun : wpOp P ops Q i = fun K a w => if Region.wanted o (yielded ops a.tmps) then o.wp P a w K Q ∨ (o.asks P a w ∧ LetsOut Q) else K (a.put o.dst undef) w := by
      funext K a w
      simp only [wpOp, ho]
    rw [hun]
    show if Region.wanted o (yielded ops a.tmps) then _ else _
    rw [hS.a_]
    have hyd : ∀ j b, o.guard = some (j, b) → (Region.wanted o (yielded ops (T x)) = true ↔ rVal ops x j = .bool b) := by
      intro j b hg
      unfold Region.wanted
      rw [hg]
      show (yielded ops (T x) j == some b) = true ↔ _
      unfold yielded rVal
      cases hd : rDst ops j with
      | none =>
        have hq : (ops[j]?).bind (·.dst) = none := hd
        rw [hq]
        simp only [Option.bind_none]
        constructor
        · intro h; cases h
        · intro h; cases h
      | some d =>
        have hq : (ops[j]?).bind (·.dst) = some d := hd
        rw [hq]
        simp only [Option.bind_some]
        rw [hT _ _ hd x]
        cases x d with
        | bool c => simp
        | _ => simp
    by_cases hw : Region.wanted o (yielded ops (T x)) = true
    · rw [if_pos hw]
      refine .inl ?_
      refine hstep i o ho x w _ hS.w_ hS.o_ hdp (fun j b hg => (hyd j b hg).1 hw) (fun v w' hw' hmn hp => ?_)
      exact hnext v w' hw' (fun j hj hne hlj => hmono _ _ _ _ _ hne.symm hmn (hS.p_ j hj hlj)) hp
    · rw [if_neg hw, hT2]
      cases hg : o.guard with
      | none => exact absurd (by unfold Region.wanted; rw [hg]) hw
      | some jb =>
        obtain ⟨j, b⟩ := jb
        refine hnext undef w hS.w_ (fun j hj _ hlj => hS.p_ j hj hlj) ?_
        have hp := hskip i o j b ho hg x w hS.w_ hdp (fun e => hw ((hyd j b hg).2 e))
        unfold rVv
        cases o.dst <;> exact hp
  · rintro listed a w ⟨x, hS⟩ hr
    rw [hS.a_]
    exact hend x w hS.o_ hS.w_ (fun j hj => hS.p_ j hj (rready_nil hok hS.n_ hr ops.size j hj hj))
/-- All results lie in the frame. -/
def regIn (n : Nat) (ops : Array Oper) : Bool := (List.range ops.size).all fun j => match rDst ops j with | some d => decide (d < n) | none => true
theorem wp_regT (hm : P.follows .mixedOrders = true) (n : Nat) (hok : (regOk ops && regIn n ops) = true) (T : (Nat → Value) → Array Value) (hTT : ∀ x, T x = ((List.range n).map x).toArray) (x0 : Nat → Value) (Wk : World → Prop) (Mn : Nat → World → World → Prop) (Pr : Nat → Value → World → Prop)
    (hmono : ∀ i j v w w', i ≠ j → Mn i w w' → Pr j v w → Pr j v w') (h0 : Wk { w0 with drawn := w0.drawn + 1 })
    (hstep : ∀ i o, ops[i]? = some o → ∀ (x : Nat → Value) (w : World) (K : Act → World → Prop), Wk w → (∀ k, (∀ i, i < ops.size → rDst ops i ≠ some k) → x k = x0 k) → (∀ k ∈ rDeps ops i, Pr k (rVal ops x k) w) → (∀ j b, o.guard = some (j, b) → rVal ops x j = .bool b) →
      (∀ v w', Wk w' → Mn i w w' → Pr i (rVv o.dst v) w' → K { tmps := T (rNxt o.dst v x), defers := ds } w') → o.wp P { tmps := T x, defers := ds } w K Q)
    (hskip : ∀ i o j b, ops[i]? = some o → o.guard = some (j, b) → ∀ (x : Nat → Value) (w : World), Wk w → (∀ k ∈ rDeps ops i, Pr k (rVal ops x k) w) → rVal ops x j ≠ .bool b → Pr i undef w)
    (hend : ∀ (x : Nat → Value) (w : World), (∀ k, (∀ i, i < ops.size → rDst ops i ≠ some k) → x k = x0 k) → Wk w → (∀ j, j < ops.size → Pr j (rVal ops x j) w) → Q .normal { tmps := T x, defers := ds } w) :
    (Code.region id ops true).wp P Q { tmps := T x0, defers := ds } w0 := by
  rw [Bool.and_eq_true] at hok
  refine wp_reg hm hok.1 T x0 Wk Mn Pr (fun j d hd x => ?_) (fun o x => ?_) hmono h0 hstep hskip hend
  · have hj : j < ops.size := by
      rcases Nat.lt_or_ge j ops.size with h | h
      · exact h
      · unfold rDst at hd
        rw [Array.getElem?_eq_none h] at hd
        cases hd
    have h1 := List.all_eq_true.1 hok.2 j (List.mem_range.2 hj)
    rw [hd] at h1
    have h2 : d < n := by simpa using h1
    rw [hTT]
    simp [h2]
  · cases hd : o.dst with
    | none => rfl
    | some d =>
      show ({ tmps := (T x).setIfInBounds d undef, defers := ds } : Act) = _
      congr 1
      rw [hTT, hTT]
      apply Array.ext
      · simp
      · intro i h1 h2
        by_cases e : d = i
        · subst e; simp [rNxt, rUpd]
        · simp [rNxt, rUpd, e, Ne.symm e]
end
section
variable {P : Program} {ops : Array Oper} {Q : Exit → Act → World → Prop} {id : Nat} {w0 : World} {ds : List Deferred}
/-- The value of the one operation that the property of operation i speaks of besides its own. -/
def rU (ops : Array Oper) (dp : Nat → Nat) (x : Nat → Value) (i : Nat) : Value := if dp i = i then undef else rVal ops x (dp i)
def regDp (dp : Nat → Nat) (ops : Array Oper) : Bool := (List.range ops.size).all fun i => dp i == i || (rDeps ops i).contains (dp i)
structure RJ (ops : Array Oper) (T : (Nat → Value) → Array Value) (ds : List Deferred) (x0 : Nat → Value) (Wk : World → Prop) (dp : Nat → Nat) (Pr : Nat → Value → Value → World → Prop) (listed : Array Bool) (x : Nat → Value) (a : Act) (w : World) : Prop where
  a_ : a = { tmps := T x, defers := ds }
  w_ : Wk w
  o_ : ∀ k, (∀ i, i < ops.size → rDst ops i ≠ some k) → x k = x0 k
  p_ : ∀ j, j < ops.size → listed.getD j false = true → Pr j (rVal ops x j) (rU ops dp x j) w
  l_ : ∀ j, j < ops.size → listed.getD j false = true → ∀ k ∈ rDeps ops j, listed.getD k false = true
  n_ : listed.size = ops.size
theorem wp_regU (hm : P.follows .mixedOrders = true) (n : Nat) (dp : Nat → Nat) (hok : (regOk ops && (regIn n ops && regDp dp ops)) = true) (T : (Nat → Value) → Array Value) (hTT : ∀ x, T x = ((List.range n).map x).toArray) (x0 : Nat → Value) (Wk : World → Prop) (Mn : Nat → World → World → Prop) (Pr : Nat → Value → Value → World → Prop)
    (hmono : ∀ i j v u w w', i ≠ j → Mn i w w' → Pr j v u w → Pr j v u w') (h0 : Wk { w0 with drawn := w0.drawn + 1 })
    (hstep : ∀ i o, ops[i]? = some o → ∀ (x : Nat → Value) (w : World) (K : Act → World → Prop), Wk w → (∀ k, (∀ i, i < ops.size → rDst ops i ≠ some k) → x k = x0 k) → (∀ k ∈ rDeps ops i, Pr k (rVal ops x k) (rU ops dp x k) w) → (∀ j b, o.guard = some (j, b) → rVal ops x j = .bool b) →
      (∀ v w', Wk w' → Mn i w w' → Pr i (rVv o.dst v) (rU ops dp x i) w' → K { tmps := T (rNxt o.dst v x), defers := ds } w') → o.wp P { tmps := T x, defers := ds } w K Q)
    (hskip : ∀ i o j b, ops[i]? = some o → o.guard = some (j, b) → ∀ (x : Nat → Value) (w : World), Wk w → (∀ k ∈ rDeps ops i, Pr k (rVal ops x k) (rU ops dp x k) w) → rVal ops x j ≠ .bool b → Pr i undef (rU ops dp x i) w)
    (hend : ∀ (x : Nat → Value) (w : World), (∀ k, (∀ i, i < ops.size → rDst ops i ≠ some k) → x k = x0 k) → Wk w → (∀ j, j < ops.size → Pr j (rVal ops x j) (rU ops dp x j) w) → Q .normal { tmps := T x, defers := ds } w) :
    (Code.region id ops true).wp P Q { tmps := T x0, defers := ds } w0 := by
  rw [Bool.and_eq_true, Bool.and_eq_true] at hok
  obtain ⟨hok, hin, hdpk⟩ := hok
  obtain ⟨s1, s2⟩ := reg_spec hok
  have hT : ∀ j d, rDst ops j = some d → ∀ x : Nat → Value, (T x)[d]? = some (x d) := by
    intro j d hd x
    have hj : j < ops.size := by
      rcases Nat.lt_or_ge j ops.size with h | h
      · exact h
      · unfold rDst at hd
        rw [Array.getElem?_eq_none h] at hd
        cases hd
    have h1 := List.all_eq_true.1 hin j (List.mem_range.2 hj)
    rw [hd] at h1
    have h2 : d < n := by simpa using h1
    rw [hTT]
    simp [h2]
  have hT2 : ∀ (o : Oper) (x : Nat → Value), ({ tmps := T x, defers := ds } : Act).put o.dst undef = { tmps := T (rNxt o.dst undef x), defers := ds } := by
    intro o x
    cases hd : o.dst with
    | none => rfl
    | some d =>
      show ({ tmps := (T x).setIfInBounds d undef, defers := ds } : Act) = _
      congr 1
      rw [hTT, hTT]
      apply Array.ext
      · simp
      · intro i h1 h2
        by_cases e : d = i
        · subst e; simp [rNxt, rUpd]
        · simp [rNxt, rUpd, e, Ne.symm e]
  have hdp : ∀ i, i < ops.size → dp i ≠ i → dp i ∈ rDeps ops i := fun i hi hne => by
    have := List.all_eq_true.1 hdpk i (List.mem_range.2 hi)
    simpa [hne] using this
  refine wp_region_inv hm (fun listed a w => ∃ x, RJ ops T ds x0 Wk dp Pr listed x a w) ?_ ?_ ?_
  · refine ⟨x0, rfl, h0, fun _ _ => rfl, fun j hj h => ?_, fun j hj h => ?_, by simp⟩
    · simp [Array.getD, hj] at h
    · simp [Array.getD, hj] at h
  · rintro listed a w i ⟨x, hS⟩ hi
    obtain ⟨hi1, hi2, o, ho, hdep⟩ := rready_iff hi
    obtain ⟨g, hbk⟩ := s1 i o ho
    have hsz := hS.n_
    have hil : listed.getD i false = false := by simpa [Array.getD, show i < listed.size by omega] using hi2
    have hdl : ∀ k ∈ rDeps ops i, listed.getD k false = true := fun k hk => by
      obtain ⟨e, he, hb, rfl⟩ := (rmem_deps ho).1 hk
      exact hdep e he hb
    have hdlt : ∀ k ∈ rDeps ops i, k < i := fun k hk => by
      obtain ⟨e, he, _, rfl⟩ := (rmem_deps ho).1 hk
      exact hbk e he
    have hdpr : ∀ k ∈ rDeps ops i, Pr k (rVal ops x k) (rU ops dp x k) w := fun k hk => hS.p_ k (by have := hdlt k hk; omega) (hdl k hk)
    have hnext : ∀ v w', Wk w' → (∀ j, j < ops.size → j ≠ i → listed.getD j false = true → Pr j (rVal ops x j) (rU ops dp x j) w') → Pr i (rVv o.dst v) (rU ops dp x i) w' → ∃ x', RJ ops T ds x0 Wk dp Pr (listed.setIfInBounds i true) x' { tmps := T (rNxt o.dst v x), defers := ds } w' := fun v w' hw hall hp => by
      have hoth : ∀ j, j < ops.size → j ≠ i → rVal ops (rNxt o.dst v x) j = rVal ops x j := fun j hj hij => rval_other ho v x (s2 j i hj hi1 hij)
      have hu : ∀ j, j < ops.size → (j = i ∨ listed.getD j false = true) → rU ops dp (rNxt o.dst v x) j = rU ops dp x j := fun j hj hcase => by
        unfold rU
        by_cases e : dp j = j
        · rw [if_pos e, if_pos e]
        · rw [if_neg e, if_neg e]
          have hm := hdp j hj e
          have hlt : dp j < ops.size := by
            obtain ⟨_, hbj⟩ := s1 j _ (Array.getElem?_eq_getElem hj)
            obtain ⟨e', he', _, hk⟩ := (rmem_deps (Array.getElem?_eq_getElem hj)).1 hm
            have := hbj e' he'
            omega
          refine hoth _ hlt (fun e2 => ?_)
          rcases hcase with rfl | hl
          · exact e e2
          · have := hS.l_ j hj hl _ hm
            rw [e2, hil] at this
            cases this
      refine ⟨rNxt o.dst v x, rfl, hw, fun k hk => (rnxt_out ho hi1 v x hk).trans (hS.o_ k hk), fun j hj hlj => ?_, fun j hj hlj k hk => ?_, by simpa using hsz⟩
      · by_cases hij : j = i
        · subst hij
          rw [rval_same ho, hu j hj (.inl rfl)]
          exact hp
        · rw [rset_ne false (fun e => hij e.symm)] at hlj
          rw [hoth j hj hij, hu j hj (.inr hlj)]
          exact hall j hj hij hlj
      · by_cases hij : j = i
        · subst hij
          exact rset_true (hdl k hk)
        · rw [rset_ne false (fun e => hij e.symm)] at hlj
          exact rset_true (hS.l_ j hj hlj k hk)
    have hun : wpOp P ops Q i = fun K a w => if Region.wanted o (yielded ops a.tmps) then o.wp P a w K Q ∨ (o.asks P a w ∧ LetsOut Q) else K (a.put o.dst undef) w := by
      funext K a w
      simp only [wpOp, ho]
    rw [hun]
    show if Region.wanted o (yielded ops a.tmps) then _ else _
    rw [hS.a_]
    have hyd : ∀ j b, o.guard = some (j, b) → (Region.wanted o (yielded ops (T x)) = true ↔ rVal ops x j = .bool b) := by
      intro j b hg
      unfold Region.wanted
      rw [hg]
      show (yielded ops (T x) j == some b) = true ↔ _
      unfold yielded rVal
      cases hd : rDst ops j with
      | none =>
        have hq : (ops[j]?).bind (·.dst) = none := hd
        rw [hq]
        simp only [Option.bind_none]
        constructor
        · intro h; cases h
        · intro h; cases h
      | some d =>
        have hq : (ops[j]?).bind (·.dst) = some d := hd
        rw [hq]
        simp only [Option.bind_some]
        rw [hT _ _ hd x]
        cases x d with
        | bool c => simp
        | _ => simp
    by_cases hw : Region.wanted o (yielded ops (T x)) = true
    · rw [if_pos hw]
      refine .inl ?_
      refine hstep i o ho x w _ hS.w_ hS.o_ hdpr (fun j b hg => (hyd j b hg).1 hw) (fun v w' hw' hmn hp => ?_)
      exact hnext v w' hw' (fun j hj hne hlj => hmono _ _ _ _ _ _ hne.symm hmn (hS.p_ j hj hlj)) hp
    · rw [if_neg hw, hT2]
      cases hg : o.guard with
      | none => exact absurd (by unfold Region.wanted; rw [hg]) hw
      | some jb =>
        obtain ⟨j, b⟩ := jb
        refine hnext undef w hS.w_ (fun j hj _ hlj => hS.p_ j hj hlj) ?_
        have hp := hskip i o j b ho hg x w hS.w_ hdpr (fun e => hw ((hyd j b hg).2 e))
        unfold rVv
        cases o.dst <;> exact hp
  · rintro listed a w ⟨x, hS⟩ hr
    rw [hS.a_]
    exact hend x w hS.o_ hS.w_ (fun j hj => hS.p_ j hj (rready_nil hok hS.n_ hr ops.size j hj hj))
end
/-- A frame that is written out, as a function of its slots. -/
theorem reg_start {P : Program} {c : Code} {Q : Exit → Act → World → Prop} {ds : List Deferred} {w : World} (n : Nat) (T : (Nat → Value) → Array Value) (hTT : ∀ x, T x = ((List.range n).map x).toArray) (a : Array Value) (h : a.size = n)
    (hh : ∀ x0 : Nat → Value, (∀ k, x0 k = a.getD k undef) → c.wp P Q { tmps := T x0, defers := ds } w) : c.wp P Q { tmps := a, defers := ds } w := by
  have e : a = T fun k => a.getD k undef := by
    rw [hTT]
    apply Array.ext
    · simp [h]
    · intro i h1 h2
      simp [Array.getD, h1]
  rw [e]
  exact hh _ fun _ => rfl
end Go.Proofs.YtigogjlbemkhdaaGreat
