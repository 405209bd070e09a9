/- Arguments opened: a slice of templates that came in, its tokens bounded by the reading's bulk. -/
import Derived.Test.YtigogjlbemkhdaaGreatBulkA
import Derived.Test.YtigogjlbemkhdaaGreatTmSearch
import Derived.Deep.SlicePairs
namespace Go.Proofs.YtigogjlbemkhdaaGreat
open Go.ChangeShapes Go.WideShapes Go.ChangeAt Go.RowKit
theorem list_ex {α : Type} (p : Nat → α → Prop) : ∀ n : Nat, (∀ i, i < n → ∃ s, p i s) → ∃ l : List α, l.length = n ∧ ∀ i (h : i < l.length), p i l[i]
  | 0, _ => ⟨[], rfl, fun i h => absurd h (by simp)⟩
  | n + 1, h => by
    obtain ⟨l, hl, hp⟩ := list_ex p n (fun i hi => h i (by omega))
    obtain ⟨s, hs⟩ := h n (by omega)
    refine ⟨l ++ [s], by simp [hl], fun i hi => ?_⟩
    by_cases hin : i < l.length
    · rw [List.getElem_append_left hin]; exact hp i hin
    · have : i = l.length := by simp at hi; omega
      subst this
      rw [List.getElem_append_right (Nat.le_refl _)]
      simp only [Nat.sub_self, List.getElem_cons_zero]
      rw [hl]; exact hs
section
variable {H : Type} {enc : TypeId × Value → H} {w : World}
/-- A template that came in. -/
def TmIn (w : World) (m : Nat) (t : Tm) : Prop := Sl w (lt w.heap.size) 1 t.tv t.tk.length (t.tk.map .string) ∧ (∀ s ∈ t.tk, s.size ≤ m) ∧ -9223372036854775808 ≤ t.ct ∧ t.ct ≤ 9223372036854775807 ∧ t.tk.length ≤ m
set_option maxRecDepth 100000 in
theorem sl_tmsB {fuel : Nat} {v : Value} {x : DataW H × List MemPlace}
    (h : DataW.trod enc Tryz.prog w 0 (fun _ => true) true fuel 23 [v] = some x) :
    ∃ L : List Tm, Sl w (lt w.heap.size) 2 v L.length (tms L) ∧ L.length ≤ maxLen ∧ ∀ t ∈ L, TmIn w (Rows.uptoBulk x.1) t := by
  rcases Go.Deep.open_slice_pairs Tryz.underlying23 Tryz.underlying32 (by kernel_rfl) rfl rfl (by kernel_rfl) (by kernel_rfl) h with ⟨hcs, _⟩ | ⟨a, len, cap, m, n, V0, V1, D0, D1, P0, P1, hcs, _, hl, hm, hmm, hx, hi⟩
  · simp at hcs
    subst hcs
    exact ⟨[], Sl.nil _ _ _ _ _, by simp, by simp⟩
  · simp at hcs
    subst hcs
    have hmc : m = cap := by simpa using hmm
    obtain ⟨L, hLl, hp⟩ := list_ex (fun i (t : Tm) => w.cell? (a.add (i * 2)) = some t.tv ∧ w.cell? (a.add (i * 2 + 1)) = some (.int .i64 t.ct) ∧ TmIn w (Rows.uptoBulk x.1) t) len (fun i hil => by
      obtain ⟨h0, h1, h2, h3⟩ := hi i (by omega)
      obtain ⟨l, hs, hbl, hb⟩ := sl_strsB Tryz.underlying27 Tryz.underlying9 (by kernel_rfl) h2
      obtain ⟨z, hz, _, hw⟩ := DataW.trod_int Tryz.underlying3 h3
      simp at hz
      rw [hz] at h1
      have hzz : -9223372036854775808 ≤ z ∧ z ≤ 9223372036854775807 := by simpa [Lit.wf, IntKind.min, IntKind.max, IntKind.signed, IntKind.bits] using hw
      have h5 : DataW.agg [D0 i, D1 i] ∈ (List.range len).map fun i => DataW.agg [D0 i, D1 i] := List.mem_map.2 ⟨i, List.mem_range.2 hil, rfl⟩
      have h6 := bulk_part h5
      refine ⟨⟨V0 i, l, z⟩, h0, h1, hs, fun s hs' => ?_, hzz.1, hzz.2, ?_⟩
      · have h4 := hb s hs'
        rw [hx]
        simp only [Rows.uptoBulk, Rows.uptoBulkAll] at h6 ⊢
        simp only at h4
        omega
      · rw [hx]
        simp only [Rows.uptoBulk, Rows.uptoBulkAll] at h6 ⊢
        simp only at hbl ⊢
        omega)
    refine ⟨L, ?_, by omega, fun t ht => ?_⟩
    · refine ⟨tms_len L, some a, cap, by rw [hLl], by omega, fun hp0 => ?_⟩
      obtain ⟨b, o, spot⟩ := a
      have hc0 := (hp 0 hp0).1
      have hspot : spot = none := by simpa [Addr.add] using World.cell?_spot hc0
      subst hspot
      have hb : b < w.heap.size := by
        have := World.block_lt_of_cell? w _ hc0
        simpa [Addr.add] using this
      refine ⟨b, o, rfl, hb, fun k u hu => ?_⟩
      have hk : k < L.length * 2 := by
        have := (List.getElem?_eq_some_iff.1 hu).1
        rwa [tms_len] at this
      have hdiv : k / 2 < L.length := by omega
      obtain ⟨q0, q1, _⟩ := hp (k / 2) hdiv
      rw [Addr.add_lit] at q0 q1
      have e : k = k / 2 * 2 ∨ k = k / 2 * 2 + 1 := by omega
      rcases e with e | e
      · have h2 := tms_at L (k / 2) hdiv 0 (by omega)
        rw [Nat.add_zero, ← e, hu] at h2
        rw [← e] at q0
        rw [q0]
        simpa [tmV] using h2.symm
      · have h2 := tms_at L (k / 2) hdiv 1 (by omega)
        rw [← e, hu] at h2
        rw [← e] at q1
        rw [q1]
        simpa [tmV] using h2.symm
    · obtain ⟨i, hi', rfl⟩ := List.getElem_of_mem ht
      exact (hp i hi').2.2
end
end Go.Proofs.YtigogjlbemkhdaaGreat
