/- A manifest that came in, with the sizes of its strings bounded by the reading's bulk. -/
import Derived.Test.YtkjhnipjhefndaaOpenMan
namespace Go.Proofs.Ytkjhnipjhefndaa
open Go.ChangeShapes Go.WideShapes Go.ChangeAt Go.RowKit

theorem bulk_part {H : Type} {d : DataW H} {l : List (DataW H)} (h : d ∈ l) : Rows.uptoBulk d ≤ Rows.uptoBulkAll l := by
  induction l with
  | nil => cases h
  | cons x r ih =>
    simp only [Rows.uptoBulkAll]
    cases List.mem_cons.1 h with
    | inl e => subst e; omega
    | inr e => have := ih e; omega
section
variable {H : Type} {enc : TypeId × Value → H} {P : Program} {w : World}
theorem sl_elemsB {α : Type} {ev : α → List Value} {ok : α → Nat → Prop} {size t e fuel : Nat} {v : Value} {x : DataW H × List MemPlace} (hmono : ∀ s a b, a ≤ b → ok s a → ok s b) (ht : P.underlying t = some (.slice e)) (hC : P.cellsOf e = size) (hpos : 0 < size) (hm : ∀ s, (ev s).length = size)
    (hel : ∀ n cs y, DataW.trod enc P w 0 (fun _ => true) true n e cs = some y → ∃ s, cs = ev s ∧ ok s (Rows.uptoBulk y.1))
    (h : DataW.trod enc P w 0 (fun _ => true) true fuel t [v] = some x) :
    ∃ l : List α, Sl w (lt w.heap.size) size v l.length (l.flatMap ev) ∧ l.length ≤ maxLen ∧ ∀ s ∈ l, ok s (Rows.uptoBulk x.1) := by
  rcases Go.Deep.open_slice ht h with ⟨hcs, _⟩ | ⟨a, len, cap, m, n, D, Pl, hcs, _, hl, hcm, hmm, hx, hi⟩
  · simp at hcs
    subst hcs
    exact ⟨[], Sl.nil _ _ _ _ _, by simp, by simp⟩
  · simp at hcs
    subst hcs
    rw [hC] at hi
    have hmm' : m = cap := by simpa using hmm
    obtain ⟨l, hll, hp⟩ := exists_list (fun i s => w.cells? 0 (a.add (i * size)) size = some (ev s) ∧ ok s (Rows.uptoBulk x.1)) len (fun i hil => by
      obtain ⟨cs', hc, ht'⟩ := hi i (by omega)
      obtain ⟨s, rfl, hk⟩ := hel _ _ _ ht'
      refine ⟨s, hc, hmono _ _ _ ?_ hk⟩
      rw [hx]
      simp only [Rows.uptoBulk]
      have := bulk_part (d := D i) (l := (List.range len).map D) (List.mem_map.2 ⟨i, List.mem_range.2 hil, rfl⟩)
      omega)
    have hcell : ∀ i j (hj : i < l.length), j < size → w.cell? (a.add (i * size + j)) = (ev l[i])[j]? := fun i j hj hjs => by
      obtain ⟨_, _, hat⟩ := World.cells?_some (hp i hj).1
      rw [← Go.Deep.add_add]
      exact hat j hjs
    refine ⟨l, ?_, by omega, fun s hs => ?_⟩
    · refine ⟨flat_len ev size hm l, some a, cap, by rw [hll], by omega, fun hp0 => ?_⟩
      obtain ⟨b, o, spot⟩ := a
      obtain ⟨u0, hu0⟩ : ∃ u, (ev l[0])[0]? = some u := ⟨(ev l[0])[0]'(by rw [hm]; exact hpos), List.getElem?_eq_getElem _⟩
      have hc0 := (hcell 0 0 hp0 hpos).trans hu0
      have hspot : spot = none := by simpa [Addr.add] using World.cell?_spot hc0
      subst hspot
      have hb : b < w.heap.size := by
        have := World.block_lt_of_cell? w _ hc0
        simpa [Addr.add] using this
      refine ⟨b, o, rfl, hb, fun k u hu => ?_⟩
      have hk : k < l.length * size := by
        have := (List.getElem?_eq_some_iff.1 hu).1
        rwa [flat_len ev size hm l] at this
      have hdiv : k / size < l.length := (Nat.div_lt_iff_lt_mul hpos).2 hk
      have hmod : k % size < size := Nat.mod_lt _ hpos
      have hkk : k / size * size + k % size = k := Nat.div_add_mod' k size
      have h1 := hcell (k / size) (k % size) hdiv hmod
      have h2 := flat_get ev size hm l (k / size) (k % size) hdiv hmod
      rw [hkk] at h1 h2
      rw [Addr.add_lit] at h1
      rw [h1, ← h2]; exact hu
    · obtain ⟨i, hi', rfl⟩ := List.getElem_of_mem hs
      exact (hp i hi').2
end
section
variable {H : Type} {enc : TypeId × Value → H} {w : World}
def TlB (s : Tl) (n : Nat) : Prop := TlW s ∧ s.rule.size ≤ n
set_option maxRecDepth 100000 in
theorem tl_ofB (n : Nat) (cs : List Value) (y : DataW H × List MemPlace) (h : DataW.trod enc Try.prog w 0 (fun _ => true) true n 116 cs = some y) : ∃ s : Tl, cs = s.vals ∧ TlB s (Rows.uptoBulk y.1) := by
  obtain ⟨xs, n', _, hx, hlen, hxs, hf⟩ := DataW.trod_struct Try.underlying116 h
  rw [c116] at hlen
  have hxl : xs.length = 3 := hxs
  match cs, hlen with
  | [c0, c1, c2], _ =>
    obtain ⟨z0, rfl, w0⟩ := intOf_trod (c := c0) (o := xs[0]?) (by simp [hxl]) (by simpa [c3] using hf 0 _ rfl)
    obtain ⟨z2, rfl, w2⟩ := intOf_trod (c := c2) (o := xs[2]?) (by simp [hxl]) (by simpa [c3] using hf 2 _ rfl)
    obtain ⟨y1, hy1⟩ : ∃ y, xs[1]? = some y := ⟨xs[1]'(by omega), List.getElem?_eq_getElem _⟩
    have h1 : DataW.trod enc Try.prog w 0 (fun _ => true) true n' 9 [c1] = some y1 := by rw [← hy1]; simpa [c9] using hf 1 _ rfl
    obtain ⟨z, hz, hd, hw⟩ := DataW.trod_string Try.underlying9 h1
    simp at hz
    subst hz
    refine ⟨⟨z0, z, z2⟩, rfl, ⟨w0, hw, w2⟩, ?_⟩
    rw [hx]
    simp only [Rows.uptoBulk]
    have := bulk_part (d := y1.1) (l := xs.map (·.1)) (List.mem_map.2 ⟨y1, List.mem_of_getElem? hy1, rfl⟩)
    rw [hd] at this
    simp only [Rows.uptoBulk, Array.length_toList] at this
    have e : z.data.size = z.size := rfl
    omega
/-- What is known of a manifest that came in, its strings bounded. -/
structure ManB (m : Man) (n : Nat) : Prop where
  t : ∀ x ∈ m.tals, x.rule.size ≤ n
  e : ∀ x ∈ m.exps, x.rule.size ≤ n
set_option maxRecDepth 100000 in
theorem open_manB {b0 : Nat} {r : Reach} {v : Value} {d : DataW H} {p : List MemPlace} (hv : Value.okWide Try.prog w r b0 28 v) (h : DataW.Trod enc Try.prog w 0 (fun _ => true) true 28 v d p) :
    ∃ (m : Man) (vS vM vT vE : Value), v = .agg (manCells m vS vM vT vE) ∧ Lies w (lt w.heap.size) m vS vM vT vE ∧ ManW m ∧ ManB m (Rows.uptoBulk d) := by
  obtain ⟨cs, rfl, hsz⟩ := okWide_struct Try.underlying28 hv
  rw [c28] at hsz
  obtain ⟨l⟩ := cs
  obtain ⟨fuel, hf0⟩ := h
  match l, hsz with
  | [k0, k1, k2, k3, k4, k5, k6], _ =>
    have hf1 : DataW.trod enc Try.prog w 0 (fun _ => true) true fuel 28 [k0, k1, k2, k3, k4, k5, k6] = some (d, p) := hf0
    obtain ⟨xs, n', _, hx, _, hxs, hf⟩ := DataW.trod_struct Try.underlying28 hf1
    have hxl : xs.length = 6 := hxs
    obtain ⟨z0, rfl, w0⟩ := intOf_trod (c := k0) (o := xs[0]?) (by simp [hxl]) (by simpa [c3] using hf 0 _ rfl)
    obtain ⟨z1, rfl, w1⟩ := intOf_trod (c := k1) (o := xs[1]?) (by simp [hxl]) (by simpa [c3] using hf 1 _ rfl)
    obtain ⟨z2, rfl, w2⟩ := intOf_trod (c := k2) (o := xs[2]?) (by simp [hxl]) (by simpa [c3] using hf 2 _ rfl)
    obtain ⟨y3, hy3⟩ : ∃ y, xs[3]? = some y := ⟨xs[3]'(by omega), List.getElem?_eq_getElem _⟩
    obtain ⟨y4, hy4⟩ : ∃ y, xs[4]? = some y := ⟨xs[4]'(by omega), List.getElem?_eq_getElem _⟩
    obtain ⟨y5, hy5⟩ : ∃ y, xs[5]? = some y := ⟨xs[5]'(by omega), List.getElem?_eq_getElem _⟩
    have h3 : DataW.trod enc Try.prog w 0 (fun _ => true) true n' 22 [k3] = some y3 := by rw [← hy3]; simpa [c22] using hf 3 _ rfl
    have h4 : DataW.trod enc Try.prog w 0 (fun _ => true) true n' 26 [k4, k5] = some y4 := by rw [← hy4]; simpa [c26] using hf 4 _ rfl
    have h5 : DataW.trod enc Try.prog w 0 (fun _ => true) true n' 24 [k6] = some y5 := by rw [← hy5]; simpa [c24] using hf 5 _ rfl
    obtain ⟨us, n2, _, hu, _, hus, hg⟩ := DataW.trod_struct Try.underlying26 h4
    have hul : us.length = 2 := hus
    obtain ⟨u0, hu0⟩ : ∃ y, us[0]? = some y := ⟨us[0]'(by omega), List.getElem?_eq_getElem _⟩
    obtain ⟨u1, hu1⟩ : ∃ y, us[1]? = some y := ⟨us[1]'(by omega), List.getElem?_eq_getElem _⟩
    have g0 : DataW.trod enc Try.prog w 0 (fun _ => true) true n2 23 [k4] = some u0 := by rw [← hu0]; simpa [c23] using hg 0 _ rfl
    have g1 : DataW.trod enc Try.prog w 0 (fun _ => true) true n2 24 [k5] = some u1 := by rw [← hu1]; simpa [c24] using hg 1 _ rfl
    have hd : d = .agg (xs.map (·.1)) := congrArg Prod.fst hx
    have b5 : Rows.uptoBulk y5.1 ≤ Rows.uptoBulk d := by
      rw [hd]; simp only [Rows.uptoBulk]
      have := bulk_part (d := y5.1) (l := xs.map (·.1)) (List.mem_map.2 ⟨y5, List.mem_of_getElem? hy5, rfl⟩)
      omega
    have b1 : Rows.uptoBulk u1.1 ≤ Rows.uptoBulk d := by
      have e1 := bulk_part (d := y4.1) (l := xs.map (·.1)) (List.mem_map.2 ⟨y4, List.mem_of_getElem? hy4, rfl⟩)
      have e2 := bulk_part (d := u1.1) (l := us.map (·.1)) (List.mem_map.2 ⟨u1, List.mem_of_getElem? hu1, rfl⟩)
      rw [hu] at e1
      rw [hd]; simp only [Rows.uptoBulk] at e1 ⊢
      omega
    have hmono : ∀ (s : Tl) (a b : Nat), a ≤ b → TlB s a → TlB s b := fun s a b hab h => ⟨h.1, Nat.le_trans h.2 hab⟩
    obtain ⟨ls, hS, _, os⟩ := sl_elems (ev := Seg.vals) Try.underlying22 c46 (by omega) (fun _ => rfl) seg_of h3
    obtain ⟨lm, hM, _, om⟩ := sl_elems (ev := Mk.vals) Try.underlying23 c72 (by omega) (fun _ => rfl) mk_of g0
    obtain ⟨lt', hT, _, ot⟩ := sl_elemsB (ev := Tl.vals) hmono Try.underlying24 c116 (by omega) (fun _ => rfl) tl_ofB g1
    obtain ⟨le, hE, _, oe⟩ := sl_elemsB (ev := Tl.vals) hmono Try.underlying24 c116 (by omega) (fun _ => rfl) tl_ofB h5
    exact ⟨⟨z0, z1, z2, ls, lm, lt', le⟩, k3, k4, k5, k6, rfl, ⟨hS, hM, hT, hE⟩, ⟨w0, w1, w2, os, om, fun x hx => (ot x hx).1, fun x hx => (oe x hx).1⟩, ⟨fun x hx => Nat.le_trans (ot x hx).2 b1, fun x hx => Nat.le_trans (oe x hx).2 b5⟩⟩
end
end Go.Proofs.Ytkjhnipjhefndaa
