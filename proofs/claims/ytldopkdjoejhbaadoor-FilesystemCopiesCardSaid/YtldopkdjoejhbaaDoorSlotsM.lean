/- A drawn region with one store: some operations may be listed behind it. Each operation is shown once, its result by a property of its own (and of the value of the first operation that it waits for). No program in sight. -/
import Derived.Test.YtldopkdjoejhbaaDoorSlots
namespace Go.Proofs.YtldopkdjoejhbaaDoor
open Go.RowKit

/-- The operations that operation i waits for. -/
def depsOf (ops : Array Oper) (i : Nat) : List Nat := match ops[i]? with
  | some o => (o.after.toList.filter fun e => Region.binds .any e).map (·.on)
  | none => []
/-- The value of the first operation that i waits for. -/
def dv1 (ops : Array Oper) (i : Nat) (x : Nat → Value) : Value := match depsOf ops i with
  | k :: _ => x (dstOf ops k)
  | [] => undef
/-- Operation m is the store; the operations of af may be listed behind it. -/
def slotsOkM (ops : Array Oper) (m : Nat) (af : List Nat) : Bool :=
  decide (m < ops.size) &&
  ((List.range ops.size).all fun i => match ops[i]? with
    | some o => o.guard.isNone && ((depsOf ops i).all fun k => decide (k < i)) && (if i = m then o.dst.isNone else o.dst.isSome)
    | none => false) &&
  ((List.range ops.size).all fun i => (List.range ops.size).all fun j => i == j || i == m || j == m || dstOf ops i != dstOf ops j) &&
  ((List.range ops.size).all fun j => j == m || af.contains j || (depsOf ops m).contains j) &&
  ((List.range ops.size).all fun j => af.contains j || !(af.any fun k => (depsOf ops j).contains k))
theorem mem_deps {ops : Array Oper} {i k : Nat} : k ∈ depsOf ops i ↔ ∃ o, ops[i]? = some o ∧ ∃ e ∈ o.after, Region.binds .any e = true ∧ e.on = k := by
  unfold depsOf
  cases h : ops[i]? with
  | none => simp
  | some o => simp [and_assoc]
structure SlotsM (ops : Array Oper) (m : Nat) (af : List Nat) : Prop where
  m_ : m < ops.size
  i_ : ∀ i o, ops[i]? = some o → o.guard = none ∧ (∀ k ∈ depsOf ops i, k < i) ∧ (i ≠ m → ∃ d, o.dst = some d) ∧ (i = m → o.dst = none)
  d_ : ∀ i j, i < ops.size → j < ops.size → i ≠ j → i ≠ m → j ≠ m → dstOf ops i ≠ dstOf ops j
  s_ : ∀ j, j < ops.size → j ≠ m → j ∉ af → j ∈ depsOf ops m
theorem slotsM_spec {ops : Array Oper} {m : Nat} {af : List Nat} (hok : slotsOkM ops m af = true) : SlotsM ops m af := by
  unfold slotsOkM at hok
  simp only [Bool.and_eq_true, decide_eq_true_eq] at hok
  obtain ⟨⟨⟨⟨h0, h1⟩, h2⟩, h3⟩, _⟩ := hok
  refine ⟨h0, fun i o ho => ?_, fun i j hi hj hne hi2 hj2 he => ?_, fun j hj hj2 hj3 => ?_⟩
  · have hi : i < ops.size := (Array.getElem?_eq_some_iff.1 ho).1
    have := List.all_eq_true.1 h1 i (List.mem_range.2 hi)
    rw [ho] at this
    simp only [Bool.and_eq_true, Option.isNone_iff_eq_none] at this
    obtain ⟨⟨g, a⟩, d⟩ := this
    refine ⟨g, fun k hk => by simpa using List.all_eq_true.1 a k hk, fun hl => ?_, fun hl => ?_⟩
    · rw [if_neg hl] at d
      exact Option.isSome_iff_exists.1 d
    · rw [if_pos hl] at d
      simpa using d
  · have := List.all_eq_true.1 (List.all_eq_true.1 h2 i (List.mem_range.2 hi)) j (List.mem_range.2 hj)
    simp [hne, he, hi2, hj2] at this
  · have := List.all_eq_true.1 h3 j (List.mem_range.2 hj)
    simpa [hj2, hj3] using this
section
variable {P : Program} {ops : Array Oper} {Q : Exit → Act → World → Prop} {id m : Nat} {af : List Nat} {w0 : World} {ds : List Deferred}
theorem readyM_nil (hS : SlotsM ops m af) {listed : Array Bool} (hr : Region.ready .any ops listed = []) : ∀ k, ∀ i, i < k → i < ops.size → listed.getD i true = true := by
  intro k
  induction k with
  | zero => intro i hi; omega
  | succ k ih =>
    intro i hi hs
    by_cases hik : i < k
    · exact ih i hik hs
    · obtain rfl : i = k := by omega
      cases hl : listed.getD i true with
      | true => rfl
      | false =>
        have ho : ops[i]? = some ops[i] := Array.getElem?_eq_getElem hs
        obtain ⟨_, hb, _⟩ := hS.i_ i _ ho
        have : i ∈ Region.ready .any ops listed := mem_ready_of hs hl ho (fun e he hbd => by
          have hk := hb e.on (mem_deps.2 ⟨_, ho, e, he, hbd, rfl⟩)
          have h1 := ih e.on hk (by omega)
          have h2 : e.on < listed.size := by
            rcases Nat.lt_or_ge e.on listed.size with h | h
            · exact h
            · exfalso
              have hi2 : i < listed.size := by
                rcases Nat.lt_or_ge i listed.size with h | h
                · exact h
                · rw [Array.getD, dif_neg (by omega)] at hl; cases hl
              omega
          simpa [Array.getD, h2] using h1)
        rw [hr] at this
        cases this
theorem dv1_upd (hS : SlotsM ops m af) {listed : Array Bool} (hL : ∀ j, j < ops.size → listed.getD j false = true → ∀ k ∈ depsOf ops j, listed.getD k false = true) {i j : Nat} {d : Nat} (x : Nat → Value) (v : Value) (hj : j < ops.size) (hjl : listed.getD j false = true) (hi : i < ops.size) (him : i ≠ m)
    (hil : listed.getD i false = false) (hd : dstOf ops i = d) (hmm : ∀ k ∈ (depsOf ops j).head?, k ≠ m) : dv1 ops j (upd x d v) = dv1 ops j x := by
  unfold dv1
  cases h : depsOf ops j with
  | nil => rfl
  | cons k r =>
    have hk : k ∈ depsOf ops j := by rw [h]; simp
    have hkl := hL j hj hjl k hk
    have hks : k < ops.size := by
      obtain ⟨_, h2, _⟩ := hS.i_ j _ (Array.getElem?_eq_getElem hj)
      have := h2 k hk
      omega
    have hki : k ≠ i := by rintro rfl; rw [hkl] at hil; cases hil
    have hkm : k ≠ m := hmm k (by rw [h]; rfl)
    simp only [← hd]
    exact upd_other x v (hS.d_ k i hks hi hki hkm him)
/-- What holds ahead of the store, and behind it. -/
structure MA (ops : Array Oper) (m : Nat) (T : (Nat → Value) → Array Value) (ds : List Deferred) (x0 : Nat → Value) (Wk : World → Prop) (Pr : Nat → Value → Value → World → Prop) (listed : Array Bool) (x : Nat → Value) (a : Act) (w : World) : Prop where
  a_ : a = { tmps := T x, defers := ds }
  w_ : Wk w
  o_ : ∀ k, (∀ i, i < ops.size → i ≠ m → dstOf ops i ≠ k) → x k = x0 k
  p_ : ∀ j, j < ops.size → j ≠ m → listed.getD j false = true → Pr j (x (dstOf ops j)) (dv1 ops j x) w
structure MB (ops : Array Oper) (m p q : Nat) (T : (Nat → Value) → Array Value) (ds : List Deferred) (x0 : Nat → Value) (Fin : Value → Value → World → Prop) (Pv : Nat → Value → Value → Prop) (listed : Array Bool) (x : Nat → Value) (a : Act) (w : World) : Prop where
  a_ : a = { tmps := T x, defers := ds }
  o_ : ∀ k, (∀ i, i < ops.size → i ≠ m → dstOf ops i ≠ k) → x k = x0 k
  p_ : ∀ j, j < ops.size → j ≠ m → listed.getD j false = true → Pv j (x (dstOf ops j)) (dv1 ops j x)
  f_ : Fin (x (dstOf ops p)) (x (dstOf ops q)) w
theorem getD_listed {listed : Array Bool} {i : Nat} {b : Bool} (hs : i < listed.size) : listed.getD i b = listed.getD i (!b) := by simp [Array.getD, hs]
theorem wp_region_slotsM (hm : P.follows .mixedOrders = true) (m : Nat) (af : List Nat) (p q : Nat) (hok : slotsOkM ops m af = true) (hpq : (decide (p ∈ depsOf ops m) && decide (q ∈ depsOf ops m) && !(af.contains p) && !(af.contains q) && ((List.range ops.size).all fun j => decide (j = m) || (match (depsOf ops j).head? with | some k => k != m | none => true))) = true)
    (T : (Nat → Value) → Array Value) (x0 : Nat → Value) (Wk : World → Prop) (Mn : World → World → Prop) (Pr : Nat → Value → Value → World → Prop) (Pv : Nat → Value → Value → Prop) (Fin : Value → Value → World → Prop)
    (hmono : ∀ j v u w w', Mn w w' → Pr j v u w → Pr j v u w') (hpv : ∀ j v u w, Pr j v u w → Pv j v u) (h0 : Wk { w0 with drawn := w0.drawn + 1 })
    (hstep : ∀ i o d, i < ops.size → i ≠ m → ops[i]? = some o → o.dst = some d → ∀ (x : Nat → Value) (w : World) (K : Act → World → Prop), Wk w → (∀ k, (∀ i, i < ops.size → i ≠ m → dstOf ops i ≠ k) → x k = x0 k) → (∀ k ∈ depsOf ops i, k ≠ m → Pr k (x (dstOf ops k)) (dv1 ops k x) w) →
      (∀ v w', Wk w' → Mn w w' → Pr i v (dv1 ops i x) w' → K { tmps := T (upd x d v), defers := ds } w') → o.wp P { tmps := T x, defers := ds } w K Q)
    (hpure : ∀ i o d, i ∈ af → ops[i]? = some o → o.dst = some d → ∀ (x : Nat → Value) (w : World) (K : Act → World → Prop), (∀ k, (∀ i, i < ops.size → i ≠ m → dstOf ops i ≠ k) → x k = x0 k) → (∀ k ∈ depsOf ops i, k ≠ m → Pv k (x (dstOf ops k)) (dv1 ops k x)) →
      (∀ v, Pv i v (dv1 ops i x) → K { tmps := T (upd x d v), defers := ds } w) → o.wp P { tmps := T x, defers := ds } w K Q)
    (hlast : ∀ o, ops[m]? = some o → ∀ (x : Nat → Value) (w : World) (K : Act → World → Prop), Wk w → (∀ k, (∀ i, i < ops.size → i ≠ m → dstOf ops i ≠ k) → x k = x0 k) → (∀ j ∈ depsOf ops m, Pr j (x (dstOf ops j)) (dv1 ops j x) w) →
      (∀ w', Fin (x (dstOf ops p)) (x (dstOf ops q)) w' → K { tmps := T x, defers := ds } w') → o.wp P { tmps := T x, defers := ds } w K Q)
    (hend : ∀ (x : Nat → Value) (w : World), (∀ k, (∀ i, i < ops.size → i ≠ m → dstOf ops i ≠ k) → x k = x0 k) → (∀ j, j < ops.size → j ≠ m → Pv j (x (dstOf ops j)) (dv1 ops j x)) → Fin (x (dstOf ops p)) (x (dstOf ops q)) w → Q .normal { tmps := T x, defers := ds } w) :
    (Code.region id ops true).wp P Q { tmps := T x0, defers := ds } w0 := by
  have hS := slotsM_spec hok
  simp only [Bool.and_eq_true, decide_eq_true_eq, Bool.not_eq_true'] at hpq
  obtain ⟨⟨⟨⟨hp, hq⟩, hpa⟩, hqa⟩, hhd⟩ := hpq
  have hhead : ∀ j, j < ops.size → j ≠ m → ∀ k ∈ (depsOf ops j).head?, k ≠ m := by
    intro j hj hjm k hk
    have := List.all_eq_true.1 hhd j (List.mem_range.2 hj)
    rw [Option.mem_def] at hk
    rw [hk] at this
    simpa [hjm] using this
  have hlt : ∀ j k, k ∈ depsOf ops j → k < ops.size := by
    intro j k hk
    obtain ⟨o, ho, e, he, hb, hke⟩ := mem_deps.1 hk
    have hj := (Array.getElem?_eq_some_iff.1 ho).1
    have := (hS.i_ j o ho).2.1 k hk
    omega
  have hpm : p ≠ m := by
    intro e
    have := (hS.i_ m _ (Array.getElem?_eq_getElem hS.m_)).2.1 p hp
    omega
  have hqm : q ≠ m := by
    intro e
    have := (hS.i_ m _ (Array.getElem?_eq_getElem hS.m_)).2.1 q hq
    omega
  refine wp_region_inv hm (fun listed a w => listed.size = ops.size ∧ (∀ j, j < ops.size → listed.getD j false = true → ∀ k ∈ depsOf ops j, listed.getD k false = true) ∧
    ((listed.getD m false = false ∧ ∃ x, MA ops m T ds x0 Wk Pr listed x a w) ∨ (listed.getD m false = true ∧ ∃ x, MB ops m p q T ds x0 Fin Pv listed x a w))) ?_ ?_ ?_
  · refine ⟨by simp, fun j hj h => ?_, .inl ⟨by simp [hS.m_], x0, rfl, h0, fun _ _ => rfl, fun j hj _ h => ?_⟩⟩
    · simp [Array.getD, hj] at h
    · simp [Array.getD, hj] at h
  · rintro listed a w i ⟨hsz, hL, hI⟩ hi
    obtain ⟨hi1, hi2, o, ho, hdep⟩ := ready_iff hi
    obtain ⟨g, hbk, hd1, hd2⟩ := hS.i_ i o ho
    have hin : i < listed.size := by omega
    have hil : listed.getD i false = false := by rw [getD_listed hin]; exact hi2
    have hdl : ∀ k ∈ depsOf ops i, listed.getD k false = true := by
      intro k hk
      obtain ⟨o', ho', e, he, hb, hke⟩ := mem_deps.1 hk
      obtain rfl := Option.some.inj (ho.symm.trans ho')
      rw [← hke]
      exact hdep e he hb
    have hL' : ∀ j, j < ops.size → (listed.setIfInBounds i true).getD j false = true → ∀ k ∈ depsOf ops j, (listed.setIfInBounds i true).getD k false = true := by
      intro j hj h k hk
      by_cases hij : j = i
      · subst hij
        exact getD_set_true (i := j) (hdl k hk)
      · rw [getD_set_ne false (fun e => hij e.symm)] at h
        exact getD_set_true (i := i) (hL j hj h k hk)
    have hun : wpOp P ops Q i = fun K a w => if Region.wanted o (yielded ops a.tmps) then o.wp P a w K Q ∨ (o.asks P a w ∧ LetsOut Q) else K (a.put o.dst undef) w := by
      funext K a w
      simp only [wpOp, ho]
    rw [hun]
    show if Region.wanted o (yielded ops a.tmps) then _ else _
    rw [if_pos (by simp [Region.wanted, g])]
    rcases hI with ⟨hnl, x, hM⟩ | ⟨hyl, x, hM⟩
    · rw [hM.a_]
      refine .inl ?_
      by_cases him : i = m
      · subst him
        refine hlast o ho x w _ hM.w_ hM.o_ (fun j hj => ?_) (fun w' hF => ?_)
        · have hjm : j ≠ i := by have := hbk j hj; omega
          exact hM.p_ j (hlt _ _ hj) hjm (hdl j hj)
        · refine ⟨by simpa using hsz, hL', .inr ⟨by simp [Array.getD, hin], x, rfl, hM.o_, fun j hj hjm hjl => ?_, hF⟩⟩
          rw [getD_set_ne false (fun e => hjm e.symm)] at hjl
          exact hpv _ _ _ _ (hM.p_ j hj hjm hjl)
      · obtain ⟨d, hd⟩ := hd1 him
        have hdi : dstOf ops i = d := by simp [dstOf, ho, hd]
        refine hstep i o d hi1 him ho hd x w _ hM.w_ hM.o_ (fun k hk hkm => hM.p_ k (hlt _ _ hk) hkm (hdl k hk)) (fun v w' hw hmn hpr => ?_)
        refine ⟨by simpa using hsz, hL', .inl ⟨?_, upd x d v, rfl, hw, fun k hk => ?_, fun j hj hjm hlj => ?_⟩⟩
        · rw [getD_set_ne false him]; exact hnl
        · rw [upd_other x v (fun e => hk i hi1 him (by rw [hdi, e]))]
          exact hM.o_ k hk
        · by_cases hij : j = i
          · subst hij
            rw [hdi, upd_same]
            have : dv1 ops j (upd x d v) = dv1 ops j x := by
              unfold dv1
              cases h : depsOf ops j with
              | nil => rfl
              | cons k r =>
                have hk : k ∈ depsOf ops j := by rw [h]; simp
                have hkj := hbk k hk
                have hkm : k ≠ m := hhead j hj him k (by rw [h]; rfl)
                simp only [← hdi]
                exact upd_other x v (hS.d_ k j (hlt _ _ hk) hj (by omega) hkm him)
            rw [this]
            exact hpr
          · rw [getD_set_ne false (fun e => hij e.symm)] at hlj
            rw [upd_other x v (by rw [← hdi]; exact hS.d_ j i hj hi1 hij hjm him), dv1_upd hS hL x v hj hlj hi1 him hil hdi (hhead j hj hjm)]
            exact hmono _ _ _ _ _ hmn (hM.p_ j hj hjm hlj)
    · rw [hM.a_]
      refine .inl ?_
      have him : i ≠ m := by rintro rfl; rw [hyl] at hil; cases hil
      have hia : i ∈ af := by
        rcases Decidable.em (i ∈ af) with h | h
        · exact h
        · have := hL m hS.m_ hyl i (hS.s_ i hi1 him h)
          rw [this] at hil
          cases hil
      obtain ⟨d, hd⟩ := hd1 him
      have hdi : dstOf ops i = d := by simp [dstOf, ho, hd]
      refine hpure i o d hia ho hd x w _ hM.o_ (fun k hk hkm => hM.p_ k (hlt _ _ hk) hkm (hdl k hk)) (fun v hpr => ?_)
      refine ⟨by simpa using hsz, hL', .inr ⟨getD_set_true (i := i) hyl, upd x d v, rfl, fun k hk => ?_, fun j hj hjm hlj => ?_, ?_⟩⟩
      · rw [upd_other x v (fun e => hk i hi1 him (by rw [hdi, e]))]
        exact hM.o_ k hk
      · by_cases hij : j = i
        · subst hij
          rw [hdi, upd_same]
          have : dv1 ops j (upd x d v) = dv1 ops j x := by
            unfold dv1
            cases h : depsOf ops j with
            | nil => rfl
            | cons k r =>
              have hk : k ∈ depsOf ops j := by rw [h]; simp
              have hkj := hbk k hk
              have hkm : k ≠ m := hhead j hj him k (by rw [h]; rfl)
              simp only [← hdi]
              exact upd_other x v (hS.d_ k j (hlt _ _ hk) hj (by omega) hkm him)
          rw [this]
          exact hpr
        · rw [getD_set_ne false (fun e => hij e.symm)] at hlj
          rw [upd_other x v (by rw [← hdi]; exact hS.d_ j i hj hi1 hij hjm him), dv1_upd hS hL x v hj hlj hi1 him hil hdi (hhead j hj hjm)]
          exact hM.p_ j hj hjm hlj
      · have hpi : p ≠ i := by rintro rfl; simp [hia] at hpa
        have hqi : q ≠ i := by rintro rfl; simp [hia] at hqa
        rw [upd_other x v (by rw [← hdi]; exact hS.d_ p i (hlt _ _ hp) hi1 hpi hpm him), upd_other x v (by rw [← hdi]; exact hS.d_ q i (hlt _ _ hq) hi1 hqi hqm him)]
        exact hM.f_
  · rintro listed a w ⟨hsz, hL, hI⟩ hr
    have hall : ∀ j, j < ops.size → listed.getD j false = true := by
      intro j hj
      have h1 := readyM_nil hS hr ops.size j hj hj
      have h2 : j < listed.size := by omega
      simpa [Array.getD, h2] using h1
    rcases hI with ⟨hnl, _⟩ | ⟨_, x, hM⟩
    · rw [hall m hS.m_] at hnl
      cases hnl
    · rw [hM.a_]
      exact hend x w hM.o_ (fun j hj hjm => hM.p_ j hj hjm (hall j hj)) hM.f_
end
end Go.Proofs.YtldopkdjoejhbaaDoor
