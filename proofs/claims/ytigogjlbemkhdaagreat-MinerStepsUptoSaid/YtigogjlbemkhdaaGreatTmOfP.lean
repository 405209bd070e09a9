/- template.Of: groups by the number of tokens; maps with ints as keys whose elements are slices; what a range over such a map has visited. No program in sight but the map's laws. -/
import Derived.Test.YtigogjlbemkhdaaGreatTmMine
import Derived.Maps.RangeWalk
import Derived.Maps.Views
import Derived.Maps.OwnOps
import Derived.Maps.OwnSet
namespace Go.Proofs.YtigogjlbemkhdaaGreat
open Go.RowKit Go.Maps
def okT (i : Nat) (t : Tm) : Bool := decide (t.tk.length = i) && decide (1 ≤ t.ct) && decide (1 ≤ i) && decide (i ≤ 60)
/-- The group of the templates with i tokens. -/
def grpT (i : Nat) (L : List Tm) : List Tm := L.filter (okT i)
theorem grpT_in {i : Nat} {L : List Tm} {t : Tm} (h : okT i t = true) : grpT i (L ++ [t]) = grpT i L ++ [t] := by simp [grpT, h]
theorem grpT_out {i : Nat} {L : List Tm} {t : Tm} (h : okT i t = false) : grpT i (L ++ [t]) = grpT i L := by simp [grpT, h]
theorem okT_iff {i : Nat} {t : Tm} : okT i t = true ↔ t.tk.length = i ∧ 1 ≤ t.ct ∧ 1 ≤ i ∧ i ≤ 60 := by
  unfold okT
  simp only [Bool.and_eq_true, decide_eq_true_eq, and_assoc]
theorem grpT_mem {i : Nat} {L : List Tm} {t : Tm} (h : t ∈ grpT i L) : t ∈ L ∧ t.tk.length = i ∧ 1 ≤ t.ct ∧ 1 ≤ i ∧ i ≤ 60 := by
  have h1 := List.mem_filter.1 h
  exact ⟨h1.1, okT_iff.1 h1.2⟩
theorem grpT_bnd {i : Nat} {L : List Tm} (h : grpT i L ≠ []) : 1 ≤ i ∧ i ≤ 60 := by
  obtain ⟨t, ht⟩ := List.exists_mem_of_ne_nil _ h
  exact (grpT_mem ht).2.2.2
theorem tpL_grp {i : Nat} {L : List Tm} (h1 : 1 ≤ i) (h2 : i ≤ 60) : tpL (grpT i L) = grpA i (tpL L) := by
  unfold tpL grpA grpT
  rw [List.filter_map]
  congr 1
  apply List.filter_congr
  intro t _
  simp [okT, strs, h1, h2]
theorem flatMap_filter {α β : Type} {q : α → Bool} {F G : α → List β} : ∀ l : List α, (∀ x ∈ l, q x = true → G x = F x) → (∀ x ∈ l, q x = false → G x = []) → l.flatMap G = (l.filter q).flatMap F
  | [], _, _ => rfl
  | x :: l, h1, h2 => by
    have ih := flatMap_filter l (fun y hy => h1 y (by simp [hy])) (fun y hy => h2 y (by simp [hy]))
    cases hq : q x with
    | true => rw [List.filter_cons_of_pos hq, List.flatMap_cons, List.flatMap_cons, ih, h1 x (by simp) hq]
    | false => rw [List.filter_cons_of_neg (by rw [hq]; simp), List.flatMap_cons, h2 x (by simp) hq, ih, List.nil_append]
theorem keys_ofA {ks : List Nat} {L : List Tm} (hn : ks.Nodup) (hk : ∀ i, i ∈ ks ↔ grpT i L ≠ []) : (ks.flatMap fun n => tplF n FUEL (tpL (grpT n L))).Perm (ofA (tpL L)) := by
  have e : ofA (tpL L) = ((List.range 61).filter fun n => !(grpT n L).isEmpty).flatMap fun n => tplF n FUEL (tpL (grpT n L)) := by
    unfold ofA
    refine flatMap_filter _ (fun n hn hq => ?_) (fun n hn hq => ?_)
    · have hne : grpT n L ≠ [] := by simpa using hq
      obtain ⟨h1, h2⟩ := grpT_bnd hne
      rw [if_neg, tpL_grp h1 h2]
      rintro (h | h)
      · omega
      · rw [← tpL_grp h1 h2] at h
        exact hne (List.map_eq_nil_iff.1 h)
    · have hne : grpT n L = [] := by simpa using hq
      have hl := List.mem_range.1 hn
      rw [if_pos]
      by_cases h0 : n = 0
      · exact .inl h0
      · refine .inr ?_
        rw [← tpL_grp (by omega) (by omega), hne]
        rfl
  rw [e]
  refine perm_flatMap ?_ (fun _ _ => List.Perm.refl _)
  refine (List.perm_ext_iff_of_nodup hn (List.nodup_range.filter _)).2 fun i => ?_
  rw [hk, List.mem_filter, List.mem_range]
  constructor
  · intro h
    have := grpT_bnd h
    exact ⟨by omega, by simpa using h⟩
  · rintro ⟨_, h⟩
    simpa using h
/-- All groups together are no longer than the list. -/
theorem grp_sum {ks : List Nat} (hn : ks.Nodup) : ∀ L : List Tm, (ks.map fun i => (grpT i L).length).sum ≤ L.length
  | [] => by
    have : (ks.map fun i => (grpT i ([] : List Tm)).length) = ks.map fun _ => 0 := rfl
    rw [this]
    have hz : ∀ l : List Nat, (l.map fun _ => 0).sum = 0 := fun l => by
      induction l with
      | nil => rfl
      | cons x l ih => simp only [List.map_cons, List.sum_cons, ih]
    rw [hz]
    exact Nat.zero_le _
  | t :: L => by
    have ih := grp_sum hn L
    have key : ∀ ks : List Nat, ks.Nodup → (ks.map fun i => (grpT i (t :: L)).length).sum ≤ (ks.map fun i => (grpT i L).length).sum + (if t.tk.length ∈ ks then 1 else 0) := by
      intro ks
      induction ks with
      | nil => intro _; simp
      | cons k ks ih =>
        intro hn
        have hk := List.nodup_cons.1 hn
        have h := ih hk.2
        simp only [List.map_cons, List.sum_cons]
        have hg : (grpT k (t :: L)).length ≤ (grpT k L).length + (if t.tk.length = k then 1 else 0) := by
          unfold grpT
          rw [List.filter_cons]
          split
          · rename_i ho
            rw [if_pos (okT_iff.1 ho).1]
            simp
          · omega
        by_cases e : t.tk.length = k
        · rw [if_pos e] at hg
          rw [if_pos (by rw [e]; simp)]
          rw [if_neg (by rw [e]; exact hk.1)] at h
          omega
        · rw [if_neg e] at hg
          have e2 : (t.tk.length ∈ k :: ks) ↔ t.tk.length ∈ ks := by simp [e]
          simp only [e2]
          omega
    have h1 := key ks hn
    have h2 : (if t.tk.length ∈ ks then 1 else 0) ≤ 1 := by split <;> omega
    simp only [List.length_cons]
    omega
theorem lawN : Keyed Tryz.prog 3 := int_keyed Tryz.underlying3
theorem keyN {i : Nat} (h : i ≤ 1048576) : keyOf Tryz.prog 3 (.int .i64 (i : Int)) = some (.int .i64 (i : Int)) := keyOf_int_mk Tryz.underlying3 (by
  simp [Lit.wf, IntKind.min, IntKind.max, IntKind.signed, IntKind.bits]
  omega)
/-- A slice in a map stands for itself. -/
def rdV (v : Value) : Option (DataW Value × List MemPlace) := some (.held v, [])
theorem sameKeyN (a b : Nat) : (Lit.int .i64 (a : Int)).sameKey (.int .i64 (b : Int)) = decide (a = b) := by
  simp only [Lit.sameKey]
  by_cases h : a = b
  · subst h; simp
  · have : ¬ (a : Int) = (b : Int) := by omega
    simp [h, this]
/-- What a range has visited. -/
def VisN (D : DataW Value) (left : Lit → Bool) (ks : List Nat) : Prop := ks.Nodup ∧ ∀ z, left z = (has D z && !ks.any fun x => z.sameKey (.int .i64 (x : Int)))
theorem VisN.start (D : DataW Value) : VisN D (has D) [] := ⟨List.nodup_nil, fun z => by simp⟩
theorem VisN.new {D : DataW Value} {left : Lit → Bool} {ks : List Nat} (h : VisN D left ks) {x : Nat} (hl : left (.int .i64 (x : Int)) = true) : has D (.int .i64 (x : Int)) = true ∧ x ∉ ks := by
  have hx := h.2 (.int .i64 (x : Int))
  rw [hl] at hx
  have hx' := hx.symm
  rw [Bool.and_eq_true] at hx'
  refine ⟨hx'.1, fun hm => ?_⟩
  have : (ks.any fun y => (Lit.int .i64 (x : Int)).sameKey (.int .i64 (y : Int))) = true := List.any_eq_true.2 ⟨x, hm, by rw [sameKeyN]; simp⟩
  rw [this] at hx'
  cases hx'.2
theorem VisN.step {D : DataW Value} {left : Lit → Bool} {ks : List Nat} (h : VisN D left ks) {x : Nat} (hl : left (.int .i64 (x : Int)) = true) : VisN D (fun z => left z && !z.sameKey (.int .i64 (x : Int))) (ks ++ [x]) := by
  have hn := (h.new hl).2
  refine ⟨?_, fun z => ?_⟩
  · rw [List.nodup_append]
    refine ⟨h.1, by simp, fun a ha b hb => ?_⟩
    rw [List.mem_singleton] at hb
    subst hb
    intro e
    exact hn (e ▸ ha)
  · show (left z && !z.sameKey (Lit.int IntKind.i64 (x : Int))) = _
    rw [h.2 z, List.any_append]
    simp [Bool.and_assoc]
theorem VisN.done {D : DataW Value} {left : Lit → Bool} {ks : List Nat} (h : VisN D left ks) (hd : ∀ z, left z = false) {i : Nat} (hi : has D (.int .i64 (i : Int)) = true) : i ∈ ks := by
  have h4 := h.2 (.int .i64 (i : Int))
  rw [hd, hi, Bool.true_and] at h4
  have h5 : (ks.any fun x => (Lit.int .i64 (i : Int)).sameKey (.int .i64 (x : Int))) = true := by
    cases hq : ks.any fun x => (Lit.int .i64 (i : Int)).sameKey (.int .i64 (x : Int))
    · rw [hq] at h4; cases h4
    · rfl
  obtain ⟨y, hy, e⟩ := List.any_eq_true.1 h5
  rw [sameKeyN] at e
  simp at e
  exact e ▸ hy
/-- How the map D reads: at the key i the slice gs i; a key is there if its group is not empty. -/
structure MapG (D : DataW Value) (gs : Nat → Value) (L : List Tm) : Prop where
  get : ∀ i : Nat, D.atKey (.int .i64 (i : Int)) (.held (.slice none 0 0)) = .held (gs i)
  key : ∀ z, has D z = true → ∃ i : Nat, z = .int .i64 (i : Int) ∧ grpT i L ≠ []
  has : ∀ i : Nat, grpT i L ≠ [] → has D (.int .i64 (i : Int)) = true
/-- The groups' rows: of our own, no two in one block. -/
structure RowG (w : World) (B : Nat) (gs : Nat → Value) (L : List Tm) : Prop where
  own : ∀ i, w.ownsRow B 32 2 (gs i) (grpT i L).length (tms (grpT i L))
  ne : ∀ i j, i ≠ j → ∀ g, (gs i).ownBlock = some g → (gs j).ownBlock ≠ some g
theorem MapG.start : MapG (.map []) (fun _ => .slice none 0 0) [] := ⟨fun _ => rfl, (fun z h => by cases h), fun i h => absurd rfl h⟩
theorem RowG.start (w : World) (B : Nat) : RowG w B (fun _ => .slice none 0 0) [] := ⟨fun _ => World.ownsRow_nil _ _ _ _, fun i j _ g h => by cases h⟩
/-- The slices behind an append at the key n. -/
def putG (gs : Nat → Value) (n : Nat) (v : Value) : Nat → Value := fun i => if i = n then v else gs i
theorem MapG.skip {D : DataW Value} {gs : Nat → Value} {L : List Tm} {t : Tm} (h : MapG D gs L) (ht : ∀ i, okT i t = false) : MapG D gs (L ++ [t]) :=
  ⟨h.get, fun z hz => by
    obtain ⟨i, e, hi⟩ := h.key z hz
    exact ⟨i, e, by rw [grpT_out (ht i)]; exact hi⟩, fun i hi => h.has i (by rw [grpT_out (ht i)] at hi; exact hi)⟩
theorem RowG.skip {w : World} {B : Nat} {gs : Nat → Value} {L : List Tm} {t : Tm} (h : RowG w B gs L) (ht : ∀ i, okT i t = false) : RowG w B gs (L ++ [t]) :=
  ⟨fun i => by rw [grpT_out (ht i)]; exact h.own i, h.ne⟩
theorem okT_ne {n i : Nat} {t : Tm} (h : okT n t = true) (hne : i ≠ n) : okT i t = false := by
  cases h2 : okT i t with
  | false => rfl
  | true => exact absurd ((okT_iff.1 h2).1.symm.trans (okT_iff.1 h).1) hne
theorem MapG.put {D : DataW Value} {gs : Nat → Value} {L : List Tm} {t : Tm} {n : Nat} (h : MapG D gs L) (hD : IsMap D) (ht : okT n t = true) (v : Value) : MapG (D.put (.int .i64 (n : Int)) (.held v)) (putG gs n v) (L ++ [t]) := by
  have hne : ∀ {i : Nat}, i ≠ n → (Lit.int .i64 (i : Int)) ≠ .int .i64 (n : Int) := fun hi e => by
    injection e with _ e
    omega
  refine ⟨fun i => ?_, fun z hz => ?_, fun i hi => ?_⟩
  · by_cases e : i = n
    · subst e
      rw [atKey_put_same hD (show WideAt.IsKeyLit (.int .i64 (i : Int)) from trivial)]
      unfold putG
      rw [if_pos rfl]
    · rw [atKey_put_other (hne e), h.get]
      unfold putG
      rw [if_neg e]
  · by_cases e : z = .int .i64 (n : Int)
    · exact ⟨n, e, by rw [grpT_in ht]; simp⟩
    · rw [has_put_other e] at hz
      obtain ⟨i, e2, hi⟩ := h.key z hz
      refine ⟨i, e2, ?_⟩
      by_cases e3 : i = n
      · rw [e3, grpT_in ht]; simp
      · rw [grpT_out (okT_ne ht e3)]; exact hi
  · by_cases e : i = n
    · subst e
      exact has_put_same hD (show WideAt.IsKeyLit (.int .i64 (i : Int)) from trivial) _
    · rw [has_put_other (hne e)]
      exact h.has i (by rw [grpT_out (okT_ne ht e)] at hi; exact hi)
theorem RowG.put {w w' : World} {B n : Nat} {gs : Nat → Value} {L : List Tm} {t : Tm} {v : Value} (h : RowG w B gs L) (ht : okT n t = true) (hg : w.grownBy w' (gs n).ownBlock) (hv : w'.ownsRow B 32 2 v ((grpT n L).length + 1) (tms (grpT n L) ++ tmV t)) (hn : ∀ g, v.ownBlock = some g → (gs n).ownBlock = some g ∨ w.heap.size ≤ g) : RowG w' B (putG gs n v) (L ++ [t]) := by
  refine ⟨fun i => ?_, fun i j hij g hi => ?_⟩
  · unfold putG
    by_cases e : i = n
    · subst e
      rw [if_pos rfl, grpT_in ht, List.length_append, tms_append]
      simpa [tms] using hv
    · rw [if_neg e, grpT_out (okT_ne ht e)]
      refine (h.own i).kept hg ?_
      cases hb : (gs i).ownBlock with
      | none => exact .inl rfl
      | some g => exact .inr fun e2 => h.ne i n e g hb e2.symm
  · unfold putG at hi ⊢
    by_cases e : i = n
    · subst e
      rw [if_pos rfl] at hi
      rw [if_neg (Ne.symm hij)]
      intro hj
      rcases hn g hi with h1 | h1
      · exact h.ne i j hij g h1 hj
      · have := ((h.own j).lt g hj).2
        omega
    · rw [if_neg e] at hi
      by_cases e2 : j = n
      · rw [if_pos e2]
        intro hj
        rcases hn g hj with h1 | h1
        · exact h.ne i n e g hi h1
        · have := ((h.own i).lt g hi).2
          omega
      · rw [if_neg e2]
        exact h.ne i j hij g hi
theorem RowG.kept {w w' : World} {B : Nat} {gs : Nat → Value} {L : List Tm} {row : Option Nat} (h : RowG w B gs L) (hg : w.grownBy w' row) (hr : ∀ i g, (gs i).ownBlock = some g → row ≠ some g) : RowG w' B gs L :=
  ⟨fun i => (h.own i).kept hg (by
    cases hb : (gs i).ownBlock with
    | none => exact .inl rfl
    | some g => exact .inr fun e => hr i g hb e.symm), h.ne⟩
end Go.Proofs.YtigogjlbemkhdaaGreat
