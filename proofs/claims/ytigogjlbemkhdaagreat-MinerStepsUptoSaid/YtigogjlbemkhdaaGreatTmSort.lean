/- slices.SortFunc of templates by the program's comparison: the order, and what the row owns behind it. -/
import Derived.Test.YtigogjlbemkhdaaGreatSortK
import Derived.Test.YtigogjlbemkhdaaGreatTmOfP
import Derived.Test.YtigogjlbemkhdaaGreatSort
namespace Go.Proofs.YtigogjlbemkhdaaGreat
open Go.RowKit Go.Sort Go.Shelf
theorem orL_3 (a b c : Int) : orL [a, b, c] = if a = 0 then (if b = 0 then c else b) else a := by
  unfold orL
  by_cases ha : a = 0
  · subst ha
    by_cases hb : b = 0
    · subst hb
      by_cases hc : c = 0
      · subst hc; rfl
      · simp [hc]
    · simp [hb]
  · simp [ha]
theorem cmpO_cmpT (t u : Tm) : cmpO t u = if cmpT (strs t.tk) (strs u.tk) = 0 then cmpI t.ct u.ct else cmpT (strs t.tk) (strs u.tk) := by
  unfold cmpO cmpT
  rw [orL_3]
  have h1 : (strs t.tk).length = t.tk.length := by simp [strs]
  have h2 : (strs u.tk).length = u.tk.length := by simp [strs]
  rw [h1, h2]
  by_cases e : cmpI (t.tk.length : Int) (u.tk.length : Int) = 0
  · simp only [e, if_true]
  · simp only [e, if_false]
theorem cmpO_lt {t u : Tm} (h : strs t.tk = strs u.tk → t = u) : cmpO t u < 0 ↔ cmpT (strs t.tk) (strs u.tk) < 0 := by
  rw [cmpO_cmpT]
  by_cases e : cmpT (strs t.tk) (strs u.tk) = 0
  · rw [if_pos e]
    have := h (cmpT_eq.1 e)
    subst this
    have h1 : cmpI t.ct t.ct = 0 := cmpI_eq.2 rfl
    rw [h1, e]
  · rw [if_neg e]
def t0 : Tm := ⟨.slice none 0 0, [], 0⟩
/-- The elements of a row, and one that has no tokens. -/
abbrev El (R : List Tm) : Type := {t : Tm // t ∈ t0 :: R}
instance (R : List Tm) : Inhabited (El R) := ⟨⟨t0, by simp⟩⟩
def elc {R : List Tm} (x y : El R) : Int := cmpO x.1 y.1
def elv {R : List Tm} (x : El R) : List Value := tmV x.1
/-- No two have the same tokens, and each has some. -/
def Apart (R : List Tm) : Prop := (R.map fun t => strs t.tk).Nodup ∧ ∀ t ∈ R, t.tk ≠ []
theorem Apart.inj {R : List Tm} (h : Apart R) (x y : El R) (e : strs x.1.tk = strs y.1.tk) : x = y := by
  have hn : ((t0 :: R).map fun t => strs t.tk).Nodup := by
    rw [List.map_cons, List.nodup_cons]
    refine ⟨fun hm => ?_, h.1⟩
    obtain ⟨t, ht, e⟩ := List.mem_map.1 hm
    have e2 : strs t.tk = [] := e
    exact h.2 t ht (List.map_eq_nil_iff.1 e2)
  obtain ⟨i, hi, ei⟩ := List.getElem_of_mem x.2
  obtain ⟨j, hj, ej⟩ := List.getElem_of_mem y.2
  have hij : i = j := by
    rcases Nat.lt_trichotomy i j with hl | hl | hl
    · exfalso
      have := List.pairwise_iff_getElem.1 hn i j (by simpa using hi) (by simpa using hj) hl
      rw [List.getElem_map, List.getElem_map, ei, ej] at this
      exact this e
    · exact hl
    · exfalso
      have := List.pairwise_iff_getElem.1 hn j i (by simpa using hj) (by simpa using hi) hl
      rw [List.getElem_map, List.getElem_map, ei, ej] at this
      exact this e.symm
  subst hij
  exact Subtype.ext (ei.symm.trans ej)
section
variable {R : List Tm}
theorem el_lt (h : Apart R) (x y : El R) : Go.Proofs.ltOf elc x y = decide (cmpT (strs x.1.tk) (strs y.1.tk) < 0) := by
  unfold Go.Proofs.ltOf elc
  rw [Bool.eq_iff_iff]
  simp only [decide_eq_true_eq]
  exact cmpO_lt fun e => congrArg Subtype.val (h.inj x y e)
theorem el_swo (h : Apart R) : SWO (Go.Proofs.ltOf (elc (R := R))) where
  irrefl x := by rw [el_lt h, cmpT_self]; rfl
  trans x y z h1 h2 := by
    rw [el_lt h] at *
    simp only [decide_eq_true_eq] at *
    exact cmpT_trans h1 h2
  ntrans x y z h1 h2 := by
    rw [el_lt h] at *
    simp only [decide_eq_false_iff_not] at *
    intro h3
    by_cases e : cmpT (strs x.1.tk) (strs y.1.tk) = 0
    · rw [cmpT_eq.1 e] at h3
      exact h2 h3
    · have h4 : cmpT (strs y.1.tk) (strs x.1.tk) < 0 := cmpT_flip.2 (by omega)
      exact h2 (cmpT_trans h4 h3)
theorem el_tot (h : Apart R) (x y : El R) (h1 : Go.Proofs.ltOf elc x y = false) (h2 : Go.Proofs.ltOf elc y x = false) : x = y := by
  rw [el_lt h] at *
  simp only [decide_eq_false_iff_not] at *
  by_cases e : cmpT (strs x.1.tk) (strs y.1.tk) = 0
  · exact h.inj x y (cmpT_eq.1 e)
  · exact absurd (cmpT_flip.2 (show 0 < cmpT (strs x.1.tk) (strs y.1.tk) by omega)) h2
end
section
variable {α : Type} [Inhabited α]
theorem sortFunc_own2 {P : Program} {ρ : Ren} (L : SlLaysF0.n6 P ρ) (k : Nat) (hp : 0 < k) (aE : ∀ w, (isAgg (ρ.t 24)).run P w = .ok true w) (zE : ∀ w, (Go.sizeOf (ρ.t 24)).run P w = .ok k w) (enc : α → List Value) (hk : ∀ x, (enc x).length = k)
    (h1 : ∀ x, ∀ v ∈ enc x, v.oneCell' = true) (cf : α → α → Int) (hO : SWO (ltOf cf)) (hT : ∀ x y, (ltOf cf) x y = false → (ltOf cf) y x = false → x = y) (g : Nat) (cb : Array Value) (eg : ∀ args w, (callFunc g args).run P w = .ok (.enter g args) w)
    (v : Value) (l : List α) (base e : Nat) (w : World) (hcmp : ∀ b, v.ownBlock = some b → ∀ size, CmpLays P g cb enc k cf b 0 size w) (hown : w.ownsRow base e k v l.length (l.flatMap enc)) (hm : l.length < 4611686018427387904) :
    Calls P (ρ.f 6) #[v, .func (.func g) #[] cb] w fun x w' => x = .returned (.tuple #[]) ∧ w'.ownsRow base e k v l.length ((l.mergeSort fun x y => !(ltOf cf) y x).flatMap enc) ∧ w.grownBy w' v.ownBlock := by
  rcases hown.2 with ⟨rfl, hn⟩ | ⟨b, cap, cur, rfl, _, hb, _⟩
  · have hl : l = [] := List.eq_nil_of_length_eq_zero hn
    subst hl
    refine (AnyF.slices_SortFunc_none L none 0 (.func (.func g) #[] cb) w).mono ?_
    rintro x w' ⟨rfl, rfl⟩
    exact ⟨rfl, by simpa using hown, World.grownBy.refl _ _⟩
  · have hlen : (l.mergeSort fun x y => !(ltOf cf) y x).length = l.length := List.length_mergeSort _
    have hc := AnyQ.slices_SortFunc_total L k aE zE enc hk h1 cf hO g cb b 0 cap l.toArray w eg (hcmp b rfl _) (holdsK_own hk hp hown rfl) ((hown.lt b rfl).2) (by simpa using hm) hT
    refine hc.mono ?_
    rintro x w' ⟨rfl, n, os, rfl⟩
    exact ⟨rfl, own_sortedK hk hp hlen hown, grownBy_sortedK _⟩
end
theorem TkM.r {oB : Nat} {w : World} {B : Nat} {t : Tm} (h : TkM w B t) : TkR oB w t := ⟨own_str h.1, by have := h.2; omega⟩
theorem t0_r (w : World) : TkR 0 w t0 := ⟨own_str (World.ownsRow_nil w 0 9 1), by simp [t0]⟩
theorem el_lays {R : List Tm} {w : World} {base n : Nat} {v : Value} {xs : List Value} (hown : w.ownsRow base 32 2 v n xs) (hR : ∀ t ∈ R, TkR 0 w t) (b : Nat) (hb : v.ownBlock = some b) (size : Nat) :
    Go.Proofs.CmpLays Tryz.prog 58 #[] (elv (R := R)) 2 elc b 0 size w := by
  intro m os dk _ x y
  have hg : w.grownBy (Go.Proofs.sortWorldK (elv (R := R)) 2 w b 0 m dk os) (some b) := grownBy_sortedK _
  have key : ∀ z : El R, TkR 0 (Go.Proofs.sortWorldK (elv (R := R)) 2 w b 0 m dk os) z.1 := fun z => by
    rcases List.mem_cons.1 z.2 with h | h
    · rw [h]; exact t0_r _
    · exact (hR _ h).grown hg fun c hc => by rw [← hb]; exact own_noStr hown (Nat.zero_le _) c hc
  exact compare_any x.1 y.1 _ (key x) (key y)
theorem map_flatMap_val {R : List Tm} (l : List (El R)) : l.flatMap elv = tms (l.map (·.1)) := by
  induction l with
  | nil => rfl
  | cons x l ih =>
    rw [List.flatMap_cons, ih]
    simp [tms, elv]
theorem form_one {t : Tm} (h : ∃ A n c, t.tv = .slice A n c) : ∀ u ∈ tmV t, u.oneCell' = true := by
  obtain ⟨A, n, c, hv⟩ := h
  intro u hu
  simp [tmV] at hu
  rcases hu with rfl | rfl
  · rw [hv]; rfl
  · rfl
theorem el_list (R : List Tm) : ∀ S : List Tm, (∀ t ∈ S, t ∈ t0 :: R) → ∃ l : List (El R), l.map (·.1) = S
  | [], _ => ⟨[], rfl⟩
  | t :: S, h => by
    obtain ⟨l, hl⟩ := el_list R S fun x hx => h x (by simp [hx])
    exact ⟨⟨t, h t (by simp)⟩ :: l, by rw [List.map_cons, hl]⟩
/-- What SortFunc leaves: the same elements, in ascending order of their tokens. -/
theorem sort_tm (v : Value) (R : List Tm) (base : Nat) (w : World) (hown : w.ownsRow base 32 2 v R.length (tms R)) (hR : ∀ t ∈ R, TkR 0 w t) (hA : Apart R) (hm : R.length ≤ 1048576) :
    Calls Tryz.prog 57 #[v, .func (.func 58) #[] #[]] w fun x w' => x = .returned (.tuple #[]) ∧ ∃ R', R'.Perm R ∧ Srt (tpL R') ∧ w'.ownsRow base 32 2 v R'.length (tms R') ∧ w.grownBy w' v.ownBlock := by
  have eg : ∀ args w, (callFunc 58 args).run Tryz.prog w = .ok (.enter 58 args) w := enters_of Tryz.func58 (by kernel_rfl) rfl
  obtain ⟨l, hl⟩ := el_list R R fun t ht => by simp [ht]
  have hlen : l.length = R.length := by
    have := congrArg List.length hl
    simpa using this
  have hown2 : w.ownsRow base 32 2 v l.length (l.flatMap elv) := by
    rw [map_flatMap_val, hl, hlen]
    exact hown
  have h := sortFunc_own2 Tryz.sortRow 2 (by decide) Tryz.isAgg32 Tryz.sizeOf32 (elv (R := R)) (fun _ => rfl) (fun x => form_one (by
    rcases List.mem_cons.1 x.2 with h | h
    · rw [h]; exact ⟨none, 0, 0, rfl⟩
    · exact (hR _ h).form)) elc (el_swo hA) (el_tot hA) 58 #[] eg v l base 32 w (el_lays hown hR) hown2 (by omega)
  refine h.mono ?_
  rintro x w' ⟨rfl, ho, hg⟩
  have hp : (l.mergeSort fun x y => !(Go.Proofs.ltOf elc) y x).Perm l := List.mergeSort_perm _ _
  have hs := List.pairwise_mergeSort (le := fun x y : El R => !(Go.Proofs.ltOf elc) y x) (fun a b c h1 h2 => by
    simp only [Bool.not_eq_true'] at *
    exact (el_swo hA).ntrans _ _ _ h2 h1) (fun a b => by
    rw [el_lt hA, el_lt hA]
    by_cases e : cmpT (strs b.1.tk) (strs a.1.tk) < 0
    · have := cmpT_flip.1 e
      simp [e, show ¬ cmpT (strs a.1.tk) (strs b.1.tk) < 0 by omega]
    · simp [e]) l
  refine ⟨rfl, (l.mergeSort fun x y => !(Go.Proofs.ltOf elc) y x).map (·.1), ?_, ?_, ?_, hg⟩
  · exact (hp.map (fun x : El R => x.1)).trans (List.Perm.of_eq hl)
  · have hnd : ((l.mergeSort fun x y => !(Go.Proofs.ltOf elc) y x).map fun x => strs x.1.tk).Nodup := by
      refine (hp.map _).nodup_iff.2 ?_
      have := hA.1
      rw [← hl, List.map_map] at this
      exact this
    unfold Srt tpL
    rw [List.map_map, List.pairwise_map]
    rw [List.Nodup, List.pairwise_map] at hnd
    refine (hs.and hnd).imp fun {a b} hab => ?_
    have h1 := hab.1
    simp only [Bool.not_eq_true'] at h1
    rw [el_lt hA] at h1
    simp only [decide_eq_false_iff_not] at h1
    have h2 : cmpT (strs b.1.tk) (strs a.1.tk) ≠ 0 := fun e => hab.2 (cmpT_eq.1 e).symm
    show cmpT (strs a.1.tk) (strs b.1.tk) < 0
    exact cmpT_flip.2 (by omega)
  · rw [← map_flatMap_val, List.length_map, hp.length_eq]
    exact ho
end Go.Proofs.YtigogjlbemkhdaaGreat
