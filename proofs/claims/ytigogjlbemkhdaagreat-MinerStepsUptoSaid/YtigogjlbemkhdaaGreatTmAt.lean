/- template.at: the tokens at a place with their counts. -/
import Derived.Test.YtigogjlbemkhdaaGreatTmAtP
import Derived.Test.YtigogjlbemkhdaaGreatTmAdd
import Derived.Test.YtigogjlbemkhdaaGreatShelf
import Derived.StillTailTactics
namespace Go.Proofs.YtigogjlbemkhdaaGreat
open Go.RowKit
variable {oB : Nat}
/-- An element of one token, its tokens a row of our own. -/
def TkO (w : World) (B : Nat) (t : Tm) : Prop := ∃ b, t.tk = [b] ∧ w.ownsRow B 9 1 t.tv 1 [.string b]
theorem TkO.tkR {w : World} {B : Nat} {t : Tm} (h : TkO w B t) : TkR oB w t := by
  obtain ⟨b, hb, ho⟩ := h
  refine ⟨?_, by rw [hb]; simp⟩
  rw [hb]
  exact own_str ho
theorem own_part {w : World} {B B' e e' size size' k k' : Nat} {v v' : Value} {xs xs' : List Value} (h : w.ownsRow B e size v k xs) (h' : w.ownsRow B' e' size' v' k' xs') (hne : e ≠ e') : v.ownBlock = none ∨ v.ownBlock ≠ v'.ownBlock := by
  rcases h.2 with ⟨rfl, _⟩ | ⟨g, cap, cur, rfl, _, hg, _⟩
  · exact .inl rfl
  · refine .inr fun e1 => ?_
    rcases h'.2 with ⟨rfl, _⟩ | ⟨g', cap', cur', rfl, _, hg', _⟩
    · cases e1
    · have e2 : g = g' := by simpa [Value.ownBlock] using e1
      subst e2
      rw [hg] at hg'
      injection hg' with hg'
      injection hg' with _ he _
      exact hne he
theorem TkO.row {w w' : World} {B B' n : Nat} {t : Tm} {v : Value} {xs : List Value} (h : TkO w B t) (ho : w.ownsRow B' 32 2 v n xs) (hg : w.grownBy w' v.ownBlock) : TkO w' B t := by
  obtain ⟨b, hb, h1⟩ := h
  exact ⟨b, hb, h1.kept hg (own_part h1 ho (by decide))⟩
theorem TkO.up {w w' : World} {B : Nat} {t : Tm} (h : TkO w B t) (hb : Below w.heap.size w w') : TkO w' B t := by
  obtain ⟨b, e, h1⟩ := h
  exact ⟨b, e, own_bel h1 hb⟩
theorem cmpBytes (a b : List UInt8) : Lib.compareBytes a b = cmpB a b := by
  unfold cmpB
  induction a generalizing b with
  | nil => cases b <;> simp [Lib.compareBytes]
  | cons x a ih =>
    cases b with
    | nil => simp [Lib.compareBytes]
    | cons y b =>
      have h := ih b
      unfold Lib.compareBytes
      rw [h]
      simp only [List.cons_lt_cons_iff, List.cons.injEq]
      by_cases h1 : x < y
      · simp [h1]
      · by_cases h2 : y < x
        · have h3 : x ≠ y := by intro e; subst e; exact h1 h2
          simp [h1, h2, h3]
        · have h3 : x = y := UInt8.le_antisymm (UInt8.not_lt.1 h2) (UInt8.not_lt.1 h1)
          subst h3
          simp
def hd1 (t : Tm) : List UInt8 := lb (t.tk.headD ⟨#[]⟩)
def cfh (s : ByteArray) (t : Tm) : Int := cmpB (hd1 t) (lb s)
theorem cmp_at (t : Tm) (s : ByteArray) (w : World) (h : TkR oB w t) (hl : 0 < t.tk.length) :
    Calls Tryz.prog 84 #[.agg (tmV t).toArray, .string s] w fun e w' => e = .returned (.int .i64 (cfh s t)) ∧ Below w.heap.size w w' := by
  obtain ⟨A, n, c, hv⟩ := h.form
  obtain ⟨tv, tk, ct⟩ := t
  simp only at hv hl
  subst hv
  obtain ⟨h1, _⟩ := h
  simp only at h1
  replace h1 := h1.str
  have hn : n = tk.length := by obtain ⟨_, _, _, hv, _⟩ := h1; injection hv
  subst hn
  obtain ⟨b, o, rfl, hb, c0⟩ := str_at h1 hl
  have hh : hd1 ⟨.slice (some ⟨b, o, none⟩) tk.length c, tk, ct⟩ = lb tk[0] := by
    unfold hd1
    cases tk with
    | nil => simp at hl
    | cons x r => rfl
  have hr : cfh s ⟨.slice (some ⟨b, o, none⟩) tk.length c, tk, ct⟩ = Lib.compareBytes (lb tk[0]) (lb s) := by unfold cfh; rw [hh, cmpBytes]
  rw [hr]
  generalize tk[0] = z at c0
  have HQ := keep (fun w => Tryz.strings_Compare z s w)
  obtain ⟨x, hx⟩ : ∃ x, Lib.compareBytes (lb z) (lb s) = x := ⟨_, rfl⟩
  rw [hx]
  have HX := keep hx
  clear hr hh hx
  have hb1 : Below w.heap.size w (w.alloc (.cells #[.slice (some ⟨b, o, none⟩) tk.length c, .int .i64 ct] 32)) := (Below.refl _ w).alloc (Nat.le_refl _) _
  have c1 : (w.alloc (.cells #[.slice (some ⟨b, o, none⟩) tk.length c, .int .i64 ct] 32)).cell? ⟨b, o, none⟩ = some (.string z) := (hb1.cell (p := ⟨b, o, none⟩) hb).trans c0
  have HB := keep hb1
  have hl0 : (0 : Int) < (tk.length : Int) := by omega
  simp only [tmV]
  clear hb1
  go_enter Tryz.func84, Tryz.ntmps84
  go_wp2_with fail
  refine (HQ.out _).mono ?_
  rintro e w' ⟨rfl, rfl⟩
  rw [HX.out]
  go_wp2_with fail
  go_ret
  exact ⟨rfl, HB.out⟩
/-- What at gives. -/
def AtOut (p : Nat) (l : List TP) (w : World) (x : Ending) (w' : World) : Prop := ∃ v A ws, x = .returned v ∧ w'.ownsRow w.heap.size 32 2 v A.length (tms A) ∧ (∀ t ∈ A, TkO w' w.heap.size t) ∧ AtW p l ws ∧ tpL A = aOf p l ws ∧ Below w.heap.size w w'
theorem tpL_hd {A : List Tm} {p : Nat} {l : List TP} {ws : List (List UInt8)} (h : tpL A = aOf p l ws) {w : World} {B : Nat} (hO : ∀ t ∈ A, TkO w B t) : A.length = ws.length ∧ ∀ j, (hj : j < A.length) → (hj' : j < ws.length) → hd1 A[j] = ws[j] ∧ A[j].ct = sat (sumC (partA p ws[j] l)) := by
  have hl : A.length = ws.length := by have := congrArg List.length h; simpa [tpL, aOf] using this
  refine ⟨hl, fun j hj hj' => ?_⟩
  have h1 : (tpL A)[j]? = (aOf p l ws)[j]? := by rw [h]
  simp only [tpL, aOf, List.getElem?_map, List.getElem?_eq_getElem hj, List.getElem?_eq_getElem hj', Option.map_some, Option.some.injEq, Prod.mk.injEq] at h1
  obtain ⟨b, hb, _⟩ := hO _ (List.getElem_mem hj)
  rw [hb] at h1
  refine ⟨?_, h1.2⟩
  unfold hd1
  rw [hb]
  have := h1.1
  simp only [strs, List.map_cons, List.map_nil, List.cons.injEq, and_true] at this
  exact this
end Go.Proofs.YtigogjlbemkhdaaGreat
