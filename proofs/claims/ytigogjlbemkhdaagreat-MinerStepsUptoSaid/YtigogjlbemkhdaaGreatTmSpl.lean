/- template.splits: is a group split at a place? -/
import Derived.Test.YtigogjlbemkhdaaGreatIxTm
namespace Go.Proofs.YtigogjlbemkhdaaGreat
open Go.RowKit
variable {oB : Nat}
/-- An element that bars a split. -/
def bar (t : Tm) : Bool := decide (hd1 t = []) || decide (t.ct < 2)
theorem lb_emp (s : ByteArray) : s.toList.isEmpty = decide (lb s = []) := by
  have h : s.toList = lb s := ByteArray.toList_eq s
  rw [h]
  cases lb s <;> rfl
set_option maxHeartbeats 4000000 in
theorem splits1_any (t : Tm) (w : World) (h : TkR oB w t) (hl : 0 < t.tk.length) :
    Calls Tryz.prog 87 #[.agg (tmV t).toArray] w fun e w' => e = .returned (.bool (bar t)) ∧ Below w.heap.size w w' := by
  obtain ⟨A, n, c, hv⟩ := h.form
  obtain ⟨tv, tk, ct⟩ := t
  simp only at hv hl
  subst hv
  obtain ⟨h1, _⟩ := h
  simp only at h1
  replace h1 := h1.str
  have hn : n = tk.length := by obtain ⟨_, _, _, hv, _⟩ := h1; injection hv
  subst hn
  obtain ⟨b, o, rfl, hb, c0⟩ := str_at h1 hl
  have hh : hd1 ⟨.slice (some ⟨b, o, none⟩) tk.length c, tk, ct⟩ = lb tk[0] := by
    unfold hd1
    cases tk with
    | nil => simp at hl
    | cons x r => rfl
  have hr : bar ⟨.slice (some ⟨b, o, none⟩) tk.length c, tk, ct⟩ = (decide (lb tk[0] = []) || decide (ct < 2)) := by unfold bar; rw [hh]
  rw [hr]
  generalize tk[0] = z at c0
  rw [← lb_emp]
  obtain ⟨r, hr2⟩ : ∃ r, r = (z.toList.isEmpty || decide (ct < 2)) := ⟨_, rfl⟩
  rw [← hr2]
  have HR := keep hr2
  have hb1 : Below w.heap.size w (w.alloc (.cells #[.slice (some ⟨b, o, none⟩) tk.length c, .int .i64 ct] 32)) := (Below.refl _ w).alloc (Nat.le_refl _) _
  have c1 : (w.alloc (.cells #[.slice (some ⟨b, o, none⟩) tk.length c, .int .i64 ct] 32)).cell? ⟨b, o, none⟩ = some (.string z) := (hb1.cell (p := ⟨b, o, none⟩) hb).trans c0
  have HB := keep hb1
  have hl0 : (0 : Int) < (tk.length : Int) := by omega
  simp only [tmV]
  clear hb1 hr hh hr2
  go_enter Tryz.func87, Tryz.ntmps87
  go_wp2_with fail
  · go_ret
    rename_i h
    exact ⟨by rw [HR.out, h]; rfl, HB.out⟩
  · go_ret
    exact ⟨by rw [HR.out]; rfl, HB.out⟩
theorem sat_two {x : Int} : sat x < 2 ↔ x < 2 := by unfold sat MAXI; omega
theorem spl_law {A : List Tm} {p : Nat} {l : List TP} {ws : List (List UInt8)} {w : World} {B : Nat} (hT : ∀ t ∈ A, TkO w B t) (hW : AtW p l ws) (hE : tpL A = aOf p l ws) :
    splA p l = (decide (2 ≤ A.length) && decide (A.length ≤ 4) && !A.any bar) := by
  obtain ⟨hl, hh⟩ := tpL_hd hE hT
  have hp := hW.perm
  unfold splA
  rw [hl, hp.length_eq]
  congr 1
  rw [Bool.eq_iff_iff, List.all_eq_true, Bool.not_eq_true', List.any_eq_false]
  constructor
  · intro h t ht
    obtain ⟨j, hj, rfl⟩ := List.getElem_of_mem ht
    obtain ⟨h1, h2⟩ := hh j hj (by omega)
    have h3 := h ws[j] (hp.mem_iff.1 (List.getElem_mem _))
    simp only [Bool.and_eq_true, decide_eq_true_eq] at h3
    unfold bar
    simp only [Bool.or_eq_true, decide_eq_true_eq, not_or]
    rw [h1, h2, sat_two]
    exact ⟨h3.1, by omega⟩
  · intro h x hx
    obtain ⟨j, hj, rfl⟩ := List.getElem_of_mem (hp.mem_iff.2 hx)
    have hj' : j < A.length := by omega
    obtain ⟨h1, h2⟩ := hh j hj' hj
    have h3 := h A[j] (List.getElem_mem hj')
    unfold bar at h3
    simp only [Bool.or_eq_true, decide_eq_true_eq, not_or] at h3
    rw [h1, h2, sat_two] at h3
    simp only [Bool.and_eq_true, decide_eq_true_eq]
    exact ⟨h3.1, by omega⟩
set_option maxHeartbeats 4000000 in
theorem splits_any (v : Value) (A : List Tm) (p : Nat) (l : List TP) (ws : List (List UInt8)) (w : World) (B : Nat) (ho : w.ownsRow B 32 2 v A.length (tms A)) (hT : ∀ t ∈ A, TkO w B t) (hW : AtW p l ws) (hE : tpL A = aOf p l ws) (hm : A.length ≤ 100000) :
    Calls Tryz.prog 75 #[v] w fun e w' => e = .returned (.bool (splA p l)) ∧ Below w.heap.size w w' := by
  have eg : ∀ args w, (callFunc 87 args).run Tryz.prog w = .ok (.enter 87 args) w := enters_of Tryz.func87 (by kernel_rfl) rfl
  have HCN := keep (contains_tm 87 v #[] bar A w eg (Sl.of_own ho) (fun t ht W hb => splits1_any t W (TkO.tkR (oB := 0) ((hT t ht).up hb)) (by obtain ⟨b, e, _⟩ := hT t ht; rw [e]; simp)) (by omega))
  have hlaw := spl_law hT hW hE
  rw [hlaw]
  obtain ⟨VA, VC, rfl, _⟩ := own_sl ho
  generalize A.any bar = b at *
  clear eg hT hW hE hlaw ho
  by_cases h1 : A.length < 2
  · rw [decide_eq_false (by omega : ¬ 2 ≤ A.length), Bool.false_and, Bool.false_and]
    have h2 : (A.length : Int) < 2 := by omega
    go_enter Tryz.func75, Tryz.ntmps75
    go_wp2_with fail
    go_ret
    exact ⟨rfl, Below.refl _ _⟩
  · rw [decide_eq_true (by omega : 2 ≤ A.length), Bool.true_and]
    have h2 : ¬ (A.length : Int) < 2 := by omega
    by_cases h3 : 4 < A.length
    · rw [decide_eq_false (by omega : ¬ A.length ≤ 4), Bool.false_and]
      have h4 : (4 : Int) < (A.length : Int) := by omega
      go_enter Tryz.func75, Tryz.ntmps75
      go_wp2_with fail
      go_ret
      exact ⟨rfl, Below.refl _ _⟩
    · rw [decide_eq_true (by omega : A.length ≤ 4), Bool.true_and]
      have h4 : ¬ (4 : Int) < (A.length : Int) := by omega
      go_enter Tryz.func75, Tryz.ntmps75
      go_wp2_with fail
      refine HCN.out.mono ?_
      rintro e w1 ⟨rfl, hb⟩
      go_wp2_with fail
      go_ret
      exact ⟨rfl, hb⟩
end Go.Proofs.YtigogjlbemkhdaaGreat
