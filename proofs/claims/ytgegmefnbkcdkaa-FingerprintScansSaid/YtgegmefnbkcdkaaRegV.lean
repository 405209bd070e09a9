/- A region that draws its order: the rule of XRegs with properties of the world that hold as long as an operation is to come. No program in sight. -/
import Derived.Test.YtgegmefnbkcdkaaRegs
namespace Go.Proofs.Ytgegmefnbkcdkaa
open Go.RowKit
section
variable {P : Program} {ops : Array Oper} {Q : Exit → Act → World → Prop} {id : Nat} {w0 : World} {ds : List Deferred}
/-- Operation i is m or comes before m. -/
def rBef (ops : Array Oper) : Nat → Nat → Nat → Bool
  | 0, m, i => i == m
  | f + 1, m, i => i == m || (rDeps ops m).any fun d => rBef ops f d i
structure RK (ops : Array Oper) (T : (Nat → Value) → Array Value) (ds : List Deferred) (x0 : Nat → Value) (Wk : World → Prop) (dp : Nat → Nat) (Pr : Nat → Value → Value → World → Prop) (Pe : Nat → World → Prop) (listed : Array Bool) (x : Nat → Value) (a : Act) (w : World) : Prop where
  a_ : a = { tmps := T x, defers := ds }
  w_ : Wk w
  o_ : ∀ k, (∀ i, i < ops.size → rDst ops i ≠ some k) → x k = x0 k
  p_ : ∀ j, j < ops.size → listed.getD j false = true → Pr j (rVal ops x j) (rU ops dp x j) w
  l_ : ∀ j, j < ops.size → listed.getD j false = true → ∀ k ∈ rDeps ops j, listed.getD k false = true
  e_ : ∀ m, m < ops.size → listed.getD m false = false → Pe m w
  n_ : listed.size = ops.size
theorem wp_regV (hm : P.follows .mixedOrders = true) (n : Nat) (dp : Nat → Nat) (hok : (regOk ops && (regIn n ops && regDp dp ops)) = true) (T : (Nat → Value) → Array Value) (hTT : ∀ x, T x = ((List.range n).map x).toArray) (x0 : Nat → Value) (Wk : World → Prop) (Mn : Nat → World → World → Prop) (Pr : Nat → Value → Value → World → Prop) (Pe : Nat → World → Prop)
    (hpe0 : ∀ m, Pe m { w0 with drawn := w0.drawn + 1 }) (hpe : ∀ i m w w', i ≠ m → Mn i w w' → Pe m w → Pe m w')
    (hmono : ∀ i j v u w w', rBef ops ops.size j i = false → Mn i w w' → Pr j v u w → Pr j v u w') (h0 : Wk { w0 with drawn := w0.drawn + 1 })
    (hstep : ∀ i o, ops[i]? = some o → ∀ (x : Nat → Value) (w : World) (K : Act → World → Prop), Wk w → (∀ m, m < ops.size → rBef ops ops.size m i = true → Pe m w) → (∀ k, (∀ i, i < ops.size → rDst ops i ≠ some k) → x k = x0 k) → (∀ k ∈ rDeps ops i, Pr k (rVal ops x k) (rU ops dp x k) w) → (∀ j b, o.guard = some (j, b) → rVal ops x j = .bool b) →
      (∀ v w', Wk w' → Mn i w w' → Pr i (rVv o.dst v) (rU ops dp x i) w' → K { tmps := T (rNxt o.dst v x), defers := ds } w') → o.wp P { tmps := T x, defers := ds } w K Q)
    (hskip : ∀ i o j b, ops[i]? = some o → o.guard = some (j, b) → ∀ (x : Nat → Value) (w : World), Wk w → (∀ k ∈ rDeps ops i, Pr k (rVal ops x k) (rU ops dp x k) w) → rVal ops x j ≠ .bool b → Pr i undef (rU ops dp x i) w)
    (hend : ∀ (x : Nat → Value) (w : World), (∀ k, (∀ i, i < ops.size → rDst ops i ≠ some k) → x k = x0 k) → Wk w → (∀ j, j < ops.size → Pr j (rVal ops x j) (rU ops dp x j) w) → Q .normal { tmps := T x, defers := ds } w) :
    (Code.region id ops true).wp P Q { tmps := T x0, defers := ds } w0 := by
  rw [Bool.and_eq_true, Bool.and_eq_true] at hok
  obtain ⟨hok, hin, hdpk⟩ := hok
  obtain ⟨s1, s2⟩ := reg_spec hok
  have hT : ∀ j d, rDst ops j = some d → ∀ x : Nat → Value, (T x)[d]? = some (x d) := by
    intro j d hd x
    have hj : j < ops.size := by
      rcases Nat.lt_or_ge j ops.size with h | h
      · exact h
      · unfold rDst at hd
        rw [Array.getElem?_eq_none h] at hd
        cases hd
    have h1 := List.all_eq_true.1 hin j (List.mem_range.2 hj)
    rw [hd] at h1
    have h2 : d < n := by simpa using h1
    rw [hTT]
    simp [h2]
  have hT2 : ∀ (o : Oper) (x : Nat → Value), ({ tmps := T x, defers := ds } : Act).put o.dst undef = { tmps := T (rNxt o.dst undef x), defers := ds } := by
    intro o x
    cases hd : o.dst with
    | none => rfl
    | some d =>
      show ({ tmps := (T x).setIfInBounds d undef, defers := ds } : Act) = _
      congr 1
      rw [hTT, hTT]
      apply Array.ext
      · simp
      · intro i h1 h2
        by_cases e : d = i
        · subst e; simp [rNxt, rUpd]
        · simp [rNxt, rUpd, e, Ne.symm e]
  have hdp : ∀ i, i < ops.size → dp i ≠ i → dp i ∈ rDeps ops i := fun i hi hne => by
    have := List.all_eq_true.1 hdpk i (List.mem_range.2 hi)
    simpa [hne] using this
  refine wp_region_inv hm (fun listed a w => ∃ x, RK ops T ds x0 Wk dp Pr Pe listed x a w) ?_ ?_ ?_
  · refine ⟨x0, rfl, h0, fun _ _ => rfl, fun j hj h => ?_, fun j hj h => ?_, fun m _ _ => hpe0 m, by simp⟩
    · simp [Array.getD, hj] at h
    · simp [Array.getD, hj] at h
  · rintro listed a w i ⟨x, hS⟩ hi
    obtain ⟨hi1, hi2, o, ho, hdep⟩ := rready_iff hi
    obtain ⟨g, hbk⟩ := s1 i o ho
    have hsz := hS.n_
    have hil : listed.getD i false = false := by simpa [Array.getD, show i < listed.size by omega] using hi2
    have hdl : ∀ k ∈ rDeps ops i, listed.getD k false = true := fun k hk => by
      obtain ⟨e, he, hb, rfl⟩ := (rmem_deps ho).1 hk
      exact hdep e he hb
    have hdlt : ∀ k ∈ rDeps ops i, k < i := fun k hk => by
      obtain ⟨e, he, _, rfl⟩ := (rmem_deps ho).1 hk
      exact hbk e he
    have hdpr : ∀ k ∈ rDeps ops i, Pr k (rVal ops x k) (rU ops dp x k) w := fun k hk => hS.p_ k (by have := hdlt k hk; omega) (hdl k hk)
    have hlt : ∀ j, j < ops.size → ∀ k ∈ rDeps ops j, k < ops.size := fun j hj k hk => by
      obtain ⟨_, hbj⟩ := s1 j _ (Array.getElem?_eq_getElem hj)
      obtain ⟨e', he', _, hk⟩ := (rmem_deps (Array.getElem?_eq_getElem hj)).1 hk
      have := hbj e' he'
      omega
    have hcl0 : ∀ f m i, m < ops.size → rBef ops f m i = true → listed.getD m false = true → listed.getD i false = true := by
      intro f
      induction f with
      | zero =>
        intro m i hm hb hl
        have : i = m := by simpa [rBef] using hb
        rw [this]; exact hl
      | succ f ih =>
        intro m i hm hb hl
        unfold rBef at hb
        rw [Bool.or_eq_true] at hb
        rcases hb with hb | hb
        · have : i = m := by simpa using hb
          rw [this]; exact hl
        · obtain ⟨d, hd, hbd⟩ := List.any_eq_true.1 hb
          exact ih d i (hlt m hm d hd) hbd (hS.l_ m hm hl d hd)
    have hcl : ∀ m i, m < ops.size → rBef ops ops.size m i = true → listed.getD i false = false → listed.getD m false = false := fun m i hm hb hf => by
      cases hl : listed.getD m false with
      | false => rfl
      | true =>
        have := hcl0 _ m i hm hb hl
        rw [hf] at this
        cases this
    have hnext : ∀ v w', Wk w' → (∀ j, j < ops.size → j ≠ i → listed.getD j false = true → Pr j (rVal ops x j) (rU ops dp x j) w') → Pr i (rVv o.dst v) (rU ops dp x i) w' → (∀ m, m < ops.size → m ≠ i → Pe m w → Pe m w') → ∃ x', RK ops T ds x0 Wk dp Pr Pe (listed.setIfInBounds i true) x' { tmps := T (rNxt o.dst v x), defers := ds } w' := fun v w' hw hall hp hpw => by
      have hoth : ∀ j, j < ops.size → j ≠ i → rVal ops (rNxt o.dst v x) j = rVal ops x j := fun j hj hij => rval_other ho v x (s2 j i hj hi1 hij)
      have hu : ∀ j, j < ops.size → (j = i ∨ listed.getD j false = true) → rU ops dp (rNxt o.dst v x) j = rU ops dp x j := fun j hj hcase => by
        unfold rU
        by_cases e : dp j = j
        · rw [if_pos e, if_pos e]
        · rw [if_neg e, if_neg e]
          have hm := hdp j hj e
          have hlt : dp j < ops.size := by
            obtain ⟨_, hbj⟩ := s1 j _ (Array.getElem?_eq_getElem hj)
            obtain ⟨e', he', _, hk⟩ := (rmem_deps (Array.getElem?_eq_getElem hj)).1 hm
            have := hbj e' he'
            omega
          refine hoth _ hlt (fun e2 => ?_)
          rcases hcase with rfl | hl
          · exact e e2
          · have := hS.l_ j hj hl _ hm
            rw [e2, hil] at this
            cases this
      refine ⟨rNxt o.dst v x, rfl, hw, fun k hk => (rnxt_out ho hi1 v x hk).trans (hS.o_ k hk), fun j hj hlj => ?_, fun j hj hlj k hk => ?_, fun m hm hlm => ?_, by simpa using hsz⟩
      · by_cases hij : j = i
        · subst hij
          rw [rval_same ho, hu j hj (.inl rfl)]
          exact hp
        · rw [rset_ne false (fun e => hij e.symm)] at hlj
          rw [hoth j hj hij, hu j hj (.inr hlj)]
          exact hall j hj hij hlj
      · by_cases hij : j = i
        · subst hij
          exact rset_true (hdl k hk)
        · rw [rset_ne false (fun e => hij e.symm)] at hlj
          exact rset_true (hS.l_ j hj hlj k hk)
      · by_cases hmi : m = i
        · subst hmi
          simp [Array.getD, show m < listed.size by omega] at hlm
        · rw [rset_ne false (fun e => hmi e.symm)] at hlm
          exact hpw m hm hmi (hS.e_ m hm hlm)
    have hun : wpOp P ops Q i = fun K a w => if Region.wanted o (yielded ops a.tmps) then o.wp P a w K Q ∨ (o.asks P a w ∧ LetsOut Q) else K (a.put o.dst undef) w := by
      funext K a w
      simp only [wpOp, ho]
    rw [hun]
    show if Region.wanted o (yielded ops a.tmps) then _ else _
    rw [hS.a_]
    have hyd : ∀ j b, o.guard = some (j, b) → (Region.wanted o (yielded ops (T x)) = true ↔ rVal ops x j = .bool b) := by
      intro j b hg
      unfold Region.wanted
      rw [hg]
      show (yielded ops (T x) j == some b) = true ↔ _
      unfold yielded rVal
      cases hd : rDst ops j with
      | none =>
        have hq : (ops[j]?).bind (·.dst) = none := hd
        rw [hq]
        simp only [Option.bind_none]
        constructor
        · intro h; cases h
        · intro h; cases h
      | some d =>
        have hq : (ops[j]?).bind (·.dst) = some d := hd
        rw [hq]
        simp only [Option.bind_some]
        rw [hT _ _ hd x]
        cases x d with
        | bool c => simp
        | _ => simp
    by_cases hw : Region.wanted o (yielded ops (T x)) = true
    · rw [if_pos hw]
      refine .inl ?_
      refine hstep i o ho x w _ hS.w_ (fun m hm hbf => hS.e_ m hm (hcl m i hm hbf hil)) hS.o_ hdpr (fun j b hg => (hyd j b hg).1 hw) (fun v w' hw' hmn hp => ?_)
      refine hnext v w' hw' (fun j hj hne hlj => hmono _ _ _ _ _ _ ?_ hmn (hS.p_ j hj hlj)) hp (fun m _ hmi => hpe _ _ _ _ hmi.symm hmn)
      cases hbf : rBef ops ops.size j i with
      | false => rfl
      | true =>
        have := hcl j i hj hbf hil
        rw [hlj] at this
        cases this
    · rw [if_neg hw, hT2]
      cases hg : o.guard with
      | none => exact absurd (by unfold Region.wanted; rw [hg]) hw
      | some jb =>
        obtain ⟨j, b⟩ := jb
        refine hnext undef w hS.w_ (fun j hj _ hlj => hS.p_ j hj hlj) ?_ (fun _ _ _ h => h)
        have hp := hskip i o j b ho hg x w hS.w_ hdpr (fun e => hw ((hyd j b hg).2 e))
        unfold rVv
        cases o.dst <;> exact hp
  · rintro listed a w ⟨x, hS⟩ hr
    rw [hS.a_]
    exact hend x w hS.o_ hS.w_ (fun j hj => hS.p_ j hj (rready_nil hok hS.n_ hr ops.size j hj hj))
structure RL (ops : Array Oper) (T : (Nat → Value) → Array Value) (ds : List Deferred) (x0 : Nat → Value) (Wk : World → Prop) (dp : Nat → Nat) (Pr : Nat → Value → Value → World → Prop) (Pe : Nat → World → Prop) (tl : Nat → Nat) (Tp : Nat → Value → World → Prop) (listed : Array Bool) (x : Nat → Value) (a : Act) (w : World) : Prop where
  a_ : a = { tmps := T x, defers := ds }
  w_ : Wk w
  o_ : ∀ k, (∀ i, i < ops.size → rDst ops i ≠ some k) → x k = x0 k
  p_ : ∀ j, j < ops.size → listed.getD j false = true → Pr j (rVal ops x j) (rU ops dp x j) w
  l_ : ∀ j, j < ops.size → listed.getD j false = true → ∀ k ∈ rDeps ops j, listed.getD k false = true
  t_ : ∀ j, j < ops.size → listed.getD j false = true → listed.getD (tl j) false = false → Tp j (rVal ops x j) w
  e_ : ∀ m, m < ops.size → listed.getD m false = false → Pe m w
  n_ : listed.size = ops.size
theorem wp_regX (hm : P.follows .mixedOrders = true) (n : Nat) (dp : Nat → Nat) (hok : (regOk ops && (regIn n ops && regDp dp ops)) = true) (T : (Nat → Value) → Array Value) (hTT : ∀ x, T x = ((List.range n).map x).toArray) (x0 : Nat → Value) (Wk : World → Prop) (Mn : Nat → World → World → Prop) (Pr : Nat → Value → Value → World → Prop) (Pe : Nat → World → Prop) (tl : Nat → Nat) (Tp : Nat → Value → World → Prop)
    (htm : ∀ i j v w w', i ≠ tl j → rBef ops ops.size j i = false → Mn i w w' → Tp j v w → Tp j v w')
    (hpe0 : ∀ m, Pe m { w0 with drawn := w0.drawn + 1 }) (hpe : ∀ i m w w', i ≠ m → Mn i w w' → Pe m w → Pe m w')
    (hmono : ∀ i j v u w w', rBef ops ops.size j i = false → Mn i w w' → Pr j v u w → Pr j v u w') (h0 : Wk { w0 with drawn := w0.drawn + 1 })
    (hstep : ∀ i o, ops[i]? = some o → ∀ (x : Nat → Value) (w : World) (K : Act → World → Prop), Wk w → (∀ m, m < ops.size → rBef ops ops.size m i = true → Pe m w) → (∀ k, (∀ i, i < ops.size → rDst ops i ≠ some k) → x k = x0 k) → (∀ k ∈ rDeps ops i, Pr k (rVal ops x k) (rU ops dp x k) w) → (∀ k ∈ rDeps ops i, tl k = i → Tp k (rVal ops x k) w) → (∀ j b, o.guard = some (j, b) → rVal ops x j = .bool b) →
      (∀ v w', Wk w' → Mn i w w' → Pr i (rVv o.dst v) (rU ops dp x i) w' → Tp i (rVv o.dst v) w' → K { tmps := T (rNxt o.dst v x), defers := ds } w') → o.wp P { tmps := T x, defers := ds } w K Q)
    (hskip : ∀ i o j b, ops[i]? = some o → o.guard = some (j, b) → ∀ (x : Nat → Value) (w : World), Wk w → (∀ k ∈ rDeps ops i, Pr k (rVal ops x k) (rU ops dp x k) w) → rVal ops x j ≠ .bool b → Pr i undef (rU ops dp x i) w ∧ Tp i undef w)
    (hend : ∀ (x : Nat → Value) (w : World), (∀ k, (∀ i, i < ops.size → rDst ops i ≠ some k) → x k = x0 k) → Wk w → (∀ j, j < ops.size → Pr j (rVal ops x j) (rU ops dp x j) w) → Q .normal { tmps := T x, defers := ds } w) :
    (Code.region id ops true).wp P Q { tmps := T x0, defers := ds } w0 := by
  rw [Bool.and_eq_true, Bool.and_eq_true] at hok
  obtain ⟨hok, hin, hdpk⟩ := hok
  obtain ⟨s1, s2⟩ := reg_spec hok
  have hT : ∀ j d, rDst ops j = some d → ∀ x : Nat → Value, (T x)[d]? = some (x d) := by
    intro j d hd x
    have hj : j < ops.size := by
      rcases Nat.lt_or_ge j ops.size with h | h
      · exact h
      · unfold rDst at hd
        rw [Array.getElem?_eq_none h] at hd
        cases hd
    have h1 := List.all_eq_true.1 hin j (List.mem_range.2 hj)
    rw [hd] at h1
    have h2 : d < n := by simpa using h1
    rw [hTT]
    simp [h2]
  have hT2 : ∀ (o : Oper) (x : Nat → Value), ({ tmps := T x, defers := ds } : Act).put o.dst undef = { tmps := T (rNxt o.dst undef x), defers := ds } := by
    intro o x
    cases hd : o.dst with
    | none => rfl
    | some d =>
      show ({ tmps := (T x).setIfInBounds d undef, defers := ds } : Act) = _
      congr 1
      rw [hTT, hTT]
      apply Array.ext
      · simp
      · intro i h1 h2
        by_cases e : d = i
        · subst e; simp [rNxt, rUpd]
        · simp [rNxt, rUpd, e, Ne.symm e]
  have hdp : ∀ i, i < ops.size → dp i ≠ i → dp i ∈ rDeps ops i := fun i hi hne => by
    have := List.all_eq_true.1 hdpk i (List.mem_range.2 hi)
    simpa [hne] using this
  refine wp_region_inv hm (fun listed a w => ∃ x, RL ops T ds x0 Wk dp Pr Pe tl Tp listed x a w) ?_ ?_ ?_
  · refine ⟨x0, rfl, h0, fun _ _ => rfl, fun j hj h => ?_, fun j hj h => ?_, fun j hj h => ?_, fun m _ _ => hpe0 m, by simp⟩
    · simp [Array.getD, hj] at h
    · simp [Array.getD, hj] at h
    · simp [Array.getD, hj] at h
  · rintro listed a w i ⟨x, hS⟩ hi
    obtain ⟨hi1, hi2, o, ho, hdep⟩ := rready_iff hi
    obtain ⟨g, hbk⟩ := s1 i o ho
    have hsz := hS.n_
    have hil : listed.getD i false = false := by simpa [Array.getD, show i < listed.size by omega] using hi2
    have hdl : ∀ k ∈ rDeps ops i, listed.getD k false = true := fun k hk => by
      obtain ⟨e, he, hb, rfl⟩ := (rmem_deps ho).1 hk
      exact hdep e he hb
    have hdlt : ∀ k ∈ rDeps ops i, k < i := fun k hk => by
      obtain ⟨e, he, _, rfl⟩ := (rmem_deps ho).1 hk
      exact hbk e he
    have hdpr : ∀ k ∈ rDeps ops i, Pr k (rVal ops x k) (rU ops dp x k) w := fun k hk => hS.p_ k (by have := hdlt k hk; omega) (hdl k hk)
    have hlt : ∀ j, j < ops.size → ∀ k ∈ rDeps ops j, k < ops.size := fun j hj k hk => by
      obtain ⟨_, hbj⟩ := s1 j _ (Array.getElem?_eq_getElem hj)
      obtain ⟨e', he', _, hk⟩ := (rmem_deps (Array.getElem?_eq_getElem hj)).1 hk
      have := hbj e' he'
      omega
    have hcl0 : ∀ f m i, m < ops.size → rBef ops f m i = true → listed.getD m false = true → listed.getD i false = true := by
      intro f
      induction f with
      | zero =>
        intro m i hm hb hl
        have : i = m := by simpa [rBef] using hb
        rw [this]; exact hl
      | succ f ih =>
        intro m i hm hb hl
        unfold rBef at hb
        rw [Bool.or_eq_true] at hb
        rcases hb with hb | hb
        · have : i = m := by simpa using hb
          rw [this]; exact hl
        · obtain ⟨d, hd, hbd⟩ := List.any_eq_true.1 hb
          exact ih d i (hlt m hm d hd) hbd (hS.l_ m hm hl d hd)
    have hcl : ∀ m i, m < ops.size → rBef ops ops.size m i = true → listed.getD i false = false → listed.getD m false = false := fun m i hm hb hf => by
      cases hl : listed.getD m false with
      | false => rfl
      | true =>
        have := hcl0 _ m i hm hb hl
        rw [hf] at this
        cases this
    have hbff : ∀ j, j < ops.size → listed.getD j false = true → rBef ops ops.size j i = false := fun j hj hlj => by
      cases hbf : rBef ops ops.size j i with
      | false => rfl
      | true =>
        have := hcl j i hj hbf hil
        rw [hlj] at this
        cases this
    have hnext : ∀ v w', Wk w' → (∀ j, j < ops.size → j ≠ i → listed.getD j false = true → Pr j (rVal ops x j) (rU ops dp x j) w') → Pr i (rVv o.dst v) (rU ops dp x i) w' → Tp i (rVv o.dst v) w' → (∀ j, j < ops.size → j ≠ i → i ≠ tl j → listed.getD j false = true → Tp j (rVal ops x j) w → Tp j (rVal ops x j) w') → (∀ m, m < ops.size → m ≠ i → Pe m w → Pe m w') → ∃ x', RL ops T ds x0 Wk dp Pr Pe tl Tp (listed.setIfInBounds i true) x' { tmps := T (rNxt o.dst v x), defers := ds } w' := fun v w' hw hall hp htp htall hpw => by
      have hoth : ∀ j, j < ops.size → j ≠ i → rVal ops (rNxt o.dst v x) j = rVal ops x j := fun j hj hij => rval_other ho v x (s2 j i hj hi1 hij)
      have hu : ∀ j, j < ops.size → (j = i ∨ listed.getD j false = true) → rU ops dp (rNxt o.dst v x) j = rU ops dp x j := fun j hj hcase => by
        unfold rU
        by_cases e : dp j = j
        · rw [if_pos e, if_pos e]
        · rw [if_neg e, if_neg e]
          have hm := hdp j hj e
          have hlt : dp j < ops.size := by
            obtain ⟨_, hbj⟩ := s1 j _ (Array.getElem?_eq_getElem hj)
            obtain ⟨e', he', _, hk⟩ := (rmem_deps (Array.getElem?_eq_getElem hj)).1 hm
            have := hbj e' he'
            omega
          refine hoth _ hlt (fun e2 => ?_)
          rcases hcase with rfl | hl
          · exact e e2
          · have := hS.l_ j hj hl _ hm
            rw [e2, hil] at this
            cases this
      refine ⟨rNxt o.dst v x, rfl, hw, fun k hk => (rnxt_out ho hi1 v x hk).trans (hS.o_ k hk), fun j hj hlj => ?_, fun j hj hlj k hk => ?_, fun j hj hlj hlt' => ?_, fun m hm hlm => ?_, by simpa using hsz⟩
      · by_cases hij : j = i
        · subst hij
          rw [rval_same ho, hu j hj (.inl rfl)]
          exact hp
        · rw [rset_ne false (fun e => hij e.symm)] at hlj
          rw [hoth j hj hij, hu j hj (.inr hlj)]
          exact hall j hj hij hlj
      · by_cases hij : j = i
        · subst hij
          exact rset_true (hdl k hk)
        · rw [rset_ne false (fun e => hij e.symm)] at hlj
          exact rset_true (hS.l_ j hj hlj k hk)
      · by_cases hij : j = i
        · subst hij
          rw [rval_same ho]
          exact htp
        · rw [rset_ne false (fun e => hij e.symm)] at hlj
          rw [hoth j hj hij]
          by_cases hti : i = tl j
          · rw [← hti] at hlt'
            simp [Array.getD, show i < listed.size by omega] at hlt'
          · rw [rset_ne false hti] at hlt'
            exact htall j hj hij hti hlj (hS.t_ j hj hlj hlt')
      · by_cases hmi : m = i
        · subst hmi
          simp [Array.getD, show m < listed.size by omega] at hlm
        · rw [rset_ne false (fun e => hmi e.symm)] at hlm
          exact hpw m hm hmi (hS.e_ m hm hlm)
    have hun : wpOp P ops Q i = fun K a w => if Region.wanted o (yielded ops a.tmps) then o.wp P a w K Q ∨ (o.asks P a w ∧ LetsOut Q) else K (a.put o.dst undef) w := by
      funext K a w
      simp only [wpOp, ho]
    rw [hun]
    show if Region.wanted o (yielded ops a.tmps) then _ else _
    rw [hS.a_]
    have hyd : ∀ j b, o.guard = some (j, b) → (Region.wanted o (yielded ops (T x)) = true ↔ rVal ops x j = .bool b) := by
      intro j b hg
      unfold Region.wanted
      rw [hg]
      show (yielded ops (T x) j == some b) = true ↔ _
      unfold yielded rVal
      cases hd : rDst ops j with
      | none =>
        have hq : (ops[j]?).bind (·.dst) = none := hd
        rw [hq]
        simp only [Option.bind_none]
        constructor
        · intro h; cases h
        · intro h; cases h
      | some d =>
        have hq : (ops[j]?).bind (·.dst) = some d := hd
        rw [hq]
        simp only [Option.bind_some]
        rw [hT _ _ hd x]
        cases x d with
        | bool c => simp
        | _ => simp
    by_cases hw : Region.wanted o (yielded ops (T x)) = true
    · rw [if_pos hw]
      refine .inl ?_
      refine hstep i o ho x w _ hS.w_ (fun m hm hbf => hS.e_ m hm (hcl m i hm hbf hil)) hS.o_ hdpr (fun k hk hti => hS.t_ k (by have := hdlt k hk; omega) (hdl k hk) (by rw [hti]; exact hil)) (fun j b hg => (hyd j b hg).1 hw) (fun v w' hw' hmn hp htp => ?_)
      refine hnext v w' hw' (fun j hj hne hlj => hmono _ _ _ _ _ _ (hbff j hj hlj) hmn (hS.p_ j hj hlj)) hp htp (fun j hj _ hti hlj => htm _ _ _ _ _ hti (hbff j hj hlj) hmn) (fun m _ hmi => hpe _ _ _ _ hmi.symm hmn)
    · rw [if_neg hw, hT2]
      cases hg : o.guard with
      | none => exact absurd (by unfold Region.wanted; rw [hg]) hw
      | some jb =>
        obtain ⟨j, b⟩ := jb
        have hp := hskip i o j b ho hg x w hS.w_ hdpr (fun e => hw ((hyd j b hg).2 e))
        refine hnext undef w hS.w_ (fun j hj _ hlj => hS.p_ j hj hlj) ?_ ?_ (fun _ _ _ _ _ h => h) (fun _ _ _ h => h)
        · unfold rVv
          cases o.dst <;> exact hp.1
        · unfold rVv
          cases o.dst <;> exact hp.2
  · rintro listed a w ⟨x, hS⟩ hr
    rw [hS.a_]
    exact hend x w hS.o_ hS.w_ (fun j hj => hS.p_ j hj (rready_nil hok hS.n_ hr ops.size j hj hj))
end
end Go.Proofs.Ytgegmefnbkcdkaa
