/- Arguments opened: a manifest that came in reads as a list of segments, of marks, of tallies, of expired tallies. -/
import Derived.Test.YtkjhnipjhefndaaOpenStr
import Derived.Test.YtkjhnipjhefndaaChecks
namespace Go.Proofs.Ytkjhnipjhefndaa
open Go.ChangeShapes Go.WideShapes Go.ChangeAt Go.RowKit

theorem exists_list {α : Type} (p : Nat → α → Prop) : ∀ n : Nat, (∀ i, i < n → ∃ s, p i s) → ∃ l : List α, l.length = n ∧ ∀ i (h : i < l.length), p i l[i]
  | 0, _ => ⟨[], rfl, fun i h => absurd h (by simp)⟩
  | n + 1, h => by
    obtain ⟨l, hl, hp⟩ := exists_list p n (fun i hi => h i (by omega))
    obtain ⟨s, hs⟩ := h n (by omega)
    refine ⟨l ++ [s], by simp [hl], fun i hi => ?_⟩
    by_cases hin : i < l.length
    · rw [List.getElem_append_left hin]; exact hp i hin
    · have : i = l.length := by simp at hi; omega
      subst this
      rw [List.getElem_append_right (Nat.le_refl _)]
      simp only [Nat.sub_self, List.getElem_cons_zero]
      rw [hl]; exact hs
section
variable {H : Type} {enc : TypeId × Value → H} {P : Program} {w : World}
theorem sl_elems {α : Type} {ev : α → List Value} {ok : α → Prop} {size t e fuel : Nat} {v : Value} {x : DataW H × List MemPlace} (ht : P.underlying t = some (.slice e)) (hC : P.cellsOf e = size) (hpos : 0 < size) (hm : ∀ s, (ev s).length = size)
    (hel : ∀ n cs y, DataW.trod enc P w 0 (fun _ => true) true n e cs = some y → ∃ s, cs = ev s ∧ ok s)
    (h : DataW.trod enc P w 0 (fun _ => true) true fuel t [v] = some x) :
    ∃ l : List α, Sl w (lt w.heap.size) size v l.length (l.flatMap ev) ∧ l.length ≤ maxLen ∧ ∀ s ∈ l, ok s := by
  rcases Go.Deep.open_slice ht h with ⟨hcs, _⟩ | ⟨a, len, cap, m, n, D, Pl, hcs, _, hl, hcm, hmm, _, hi⟩
  · simp at hcs
    subst hcs
    exact ⟨[], Sl.nil _ _ _ _ _, by simp, by simp⟩
  · simp at hcs
    subst hcs
    rw [hC] at hi
    have hmm' : m = cap := by simpa using hmm
    obtain ⟨l, hll, hp⟩ := exists_list (fun i s => w.cells? 0 (a.add (i * size)) size = some (ev s) ∧ ok s) len (fun i hil => by
      obtain ⟨cs', hc, ht'⟩ := hi i (by omega)
      obtain ⟨s, rfl, hk⟩ := hel _ _ _ ht'
      exact ⟨s, hc, hk⟩)
    have hcell : ∀ i j (hj : i < l.length), j < size → w.cell? (a.add (i * size + j)) = (ev l[i])[j]? := fun i j hj hjs => by
      obtain ⟨_, _, hat⟩ := World.cells?_some (hp i hj).1
      rw [← Go.Deep.add_add]
      exact hat j hjs
    refine ⟨l, ?_, by omega, fun s hs => ?_⟩
    · refine ⟨flat_len ev size hm l, some a, cap, by rw [hll], by omega, fun hp0 => ?_⟩
      obtain ⟨b, o, spot⟩ := a
      obtain ⟨u0, hu0⟩ : ∃ u, (ev l[0])[0]? = some u := ⟨(ev l[0])[0]'(by rw [hm]; exact hpos), List.getElem?_eq_getElem _⟩
      have hc0 := (hcell 0 0 hp0 hpos).trans hu0
      have hspot : spot = none := by simpa [Addr.add] using World.cell?_spot hc0
      subst hspot
      have hb : b < w.heap.size := by
        have := World.block_lt_of_cell? w _ hc0
        simpa [Addr.add] using this
      refine ⟨b, o, rfl, hb, fun k u hu => ?_⟩
      have hk : k < l.length * size := by
        have := (List.getElem?_eq_some_iff.1 hu).1
        rwa [flat_len ev size hm l] at this
      have hdiv : k / size < l.length := (Nat.div_lt_iff_lt_mul hpos).2 hk
      have hmod : k % size < size := Nat.mod_lt _ hpos
      have hkk : k / size * size + k % size = k := Nat.div_add_mod' k size
      have h1 := hcell (k / size) (k % size) hdiv hmod
      have h2 := flat_get ev size hm l (k / size) (k % size) hdiv hmod
      rw [hkk] at h1 h2
      rw [Addr.add_lit] at h1
      rw [h1, ← h2]; exact hu
    · obtain ⟨i, hi', rfl⟩ := List.getElem_of_mem hs
      exact (hp i hi').2
end
def I64 (x : Int) : Prop := (Lit.int .i64 x).wf = true
structure SegW (s : Seg) : Prop where
  a : I64 s.id
  b : I64 s.level
  c : I64 s.tier
  d : I64 s.count
  e : I64 s.lo
  f : I64 s.hi
  g : I64 s.size
structure MkW (s : Mk) : Prop where
  a : I64 s.host
  b : I64 s.file
  c : I64 s.off
structure TlW (s : Tl) : Prop where
  a : I64 s.host
  b : s.rule.size ≤ maxLen
  c : I64 s.lines
section
variable {H : Type} {enc : TypeId × Value → H} {w : World}
theorem c3 : Try.prog.cellsOf 3 = 1 := by kernel_rfl
theorem c9 : Try.prog.cellsOf 9 = 1 := by kernel_rfl
theorem c22 : Try.prog.cellsOf 22 = 1 := by kernel_rfl
theorem c23 : Try.prog.cellsOf 23 = 1 := by kernel_rfl
theorem c24 : Try.prog.cellsOf 24 = 1 := by kernel_rfl
theorem c26 : Try.prog.cellsOf 26 = 2 := by kernel_rfl
theorem c28 : Try.prog.cellsOf 28 = 7 := by kernel_rfl
theorem c46 : Try.prog.cellsOf 46 = 7 := by kernel_rfl
theorem c72 : Try.prog.cellsOf 72 = 3 := by kernel_rfl
theorem c116 : Try.prog.cellsOf 116 = 3 := by kernel_rfl
set_option maxRecDepth 100000 in
theorem intOf_trod {n : Nat} {c : Value} {o : Option (DataW H × List MemPlace)} (ho : o.isSome = true) (h : DataW.trod enc Try.prog w 0 (fun _ => true) true n 3 [c] = o) : ∃ z, c = .int .i64 z ∧ I64 z := by
  obtain ⟨y, rfl⟩ := Option.isSome_iff_exists.1 ho
  obtain ⟨z, hz, _, hw⟩ := DataW.trod_int Try.underlying3 h
  simp at hz
  exact ⟨z, hz, hw⟩
set_option maxRecDepth 100000 in
theorem strOf_trod {n : Nat} {c : Value} {o : Option (DataW H × List MemPlace)} (ho : o.isSome = true) (h : DataW.trod enc Try.prog w 0 (fun _ => true) true n 9 [c] = o) : ∃ z, c = .string z ∧ z.size ≤ maxLen := by
  obtain ⟨y, rfl⟩ := Option.isSome_iff_exists.1 ho
  obtain ⟨z, hz, _, hw⟩ := DataW.trod_string Try.underlying9 h
  simp at hz
  exact ⟨z, hz, hw⟩
set_option maxRecDepth 100000 in
theorem seg_of (n : Nat) (cs : List Value) (y : DataW H × List MemPlace) (h : DataW.trod enc Try.prog w 0 (fun _ => true) true n 46 cs = some y) : ∃ s : Seg, cs = s.vals ∧ SegW s := by
  obtain ⟨xs, n', _, _, hlen, hxs, hf⟩ := DataW.trod_struct Try.underlying46 h
  rw [c46] at hlen
  have hxl : xs.length = 7 := hxs
  match cs, hlen with
  | [c0, c1, c2, c3', c4, c5, c6], _ =>
    obtain ⟨z0, rfl, w0⟩ := intOf_trod (c := c0) (o := xs[0]?) (by simp [hxl]) (by simpa [c3] using hf 0 _ rfl)
    obtain ⟨z1, rfl, w1⟩ := intOf_trod (c := c1) (o := xs[1]?) (by simp [hxl]) (by simpa [c3] using hf 1 _ rfl)
    obtain ⟨z2, rfl, w2⟩ := intOf_trod (c := c2) (o := xs[2]?) (by simp [hxl]) (by simpa [c3] using hf 2 _ rfl)
    obtain ⟨z3, rfl, w3⟩ := intOf_trod (c := c3') (o := xs[3]?) (by simp [hxl]) (by simpa [c3] using hf 3 _ rfl)
    obtain ⟨z4, rfl, w4⟩ := intOf_trod (c := c4) (o := xs[4]?) (by simp [hxl]) (by simpa [c3] using hf 4 _ rfl)
    obtain ⟨z5, rfl, w5⟩ := intOf_trod (c := c5) (o := xs[5]?) (by simp [hxl]) (by simpa [c3] using hf 5 _ rfl)
    obtain ⟨z6, rfl, w6⟩ := intOf_trod (c := c6) (o := xs[6]?) (by simp [hxl]) (by simpa [c3] using hf 6 _ rfl)
    exact ⟨⟨z0, z1, z2, z3, z4, z5, z6⟩, rfl, w0, w1, w2, w3, w4, w5, w6⟩
set_option maxRecDepth 100000 in
theorem mk_of (n : Nat) (cs : List Value) (y : DataW H × List MemPlace) (h : DataW.trod enc Try.prog w 0 (fun _ => true) true n 72 cs = some y) : ∃ s : Mk, cs = s.vals ∧ MkW s := by
  obtain ⟨xs, n', _, _, hlen, hxs, hf⟩ := DataW.trod_struct Try.underlying72 h
  rw [c72] at hlen
  have hxl : xs.length = 3 := hxs
  match cs, hlen with
  | [c0, c1, c2], _ =>
    obtain ⟨z0, rfl, w0⟩ := intOf_trod (c := c0) (o := xs[0]?) (by simp [hxl]) (by simpa [c3] using hf 0 _ rfl)
    obtain ⟨z1, rfl, w1⟩ := intOf_trod (c := c1) (o := xs[1]?) (by simp [hxl]) (by simpa [c3] using hf 1 _ rfl)
    obtain ⟨z2, rfl, w2⟩ := intOf_trod (c := c2) (o := xs[2]?) (by simp [hxl]) (by simpa [c3] using hf 2 _ rfl)
    exact ⟨⟨z0, z1, z2⟩, rfl, w0, w1, w2⟩
set_option maxRecDepth 100000 in
theorem tl_of (n : Nat) (cs : List Value) (y : DataW H × List MemPlace) (h : DataW.trod enc Try.prog w 0 (fun _ => true) true n 116 cs = some y) : ∃ s : Tl, cs = s.vals ∧ TlW s := by
  obtain ⟨xs, n', _, _, hlen, hxs, hf⟩ := DataW.trod_struct Try.underlying116 h
  rw [c116] at hlen
  have hxl : xs.length = 3 := hxs
  match cs, hlen with
  | [c0, c1, c2], _ =>
    obtain ⟨z0, rfl, w0⟩ := intOf_trod (c := c0) (o := xs[0]?) (by simp [hxl]) (by simpa [c3] using hf 0 _ rfl)
    obtain ⟨z1, rfl, w1⟩ := strOf_trod (c := c1) (o := xs[1]?) (by simp [hxl]) (by simpa [c9] using hf 1 _ rfl)
    obtain ⟨z2, rfl, w2⟩ := intOf_trod (c := c2) (o := xs[2]?) (by simp [hxl]) (by simpa [c3] using hf 2 _ rfl)
    exact ⟨⟨z0, z1, z2⟩, rfl, w0, w1, w2⟩
/-- What is known of the numbers of a manifest that came in. -/
structure ManW (m : Man) : Prop where
  a : I64 m.nu
  b : I64 m.nx
  c : I64 m.jo
  s : ∀ x ∈ m.segs, SegW x
  m_ : ∀ x ∈ m.marks, MkW x
  t : ∀ x ∈ m.tals, TlW x
  e : ∀ x ∈ m.exps, TlW x
set_option maxRecDepth 100000 in
theorem open_man {b0 : Nat} {r : Reach} {v : Value} {d : DataW H} {p : List MemPlace} (hv : Value.okWide Try.prog w r b0 28 v) (h : DataW.Trod enc Try.prog w 0 (fun _ => true) true 28 v d p) :
    ∃ (m : Man) (vS vM vT vE : Value), v = .agg (manCells m vS vM vT vE) ∧ Lies w (lt w.heap.size) m vS vM vT vE ∧ ManW m := by
  obtain ⟨cs, rfl, hsz⟩ := okWide_struct Try.underlying28 hv
  rw [c28] at hsz
  obtain ⟨l⟩ := cs
  obtain ⟨fuel, hf0⟩ := h
  match l, hsz with
  | [k0, k1, k2, k3, k4, k5, k6], _ =>
    have hf1 : DataW.trod enc Try.prog w 0 (fun _ => true) true fuel 28 [k0, k1, k2, k3, k4, k5, k6] = some (d, p) := hf0
    obtain ⟨xs, n', _, _, _, hxs, hf⟩ := DataW.trod_struct Try.underlying28 hf1
    have hxl : xs.length = 6 := hxs
    obtain ⟨z0, rfl, w0⟩ := intOf_trod (c := k0) (o := xs[0]?) (by simp [hxl]) (by simpa [c3] using hf 0 _ rfl)
    obtain ⟨z1, rfl, w1⟩ := intOf_trod (c := k1) (o := xs[1]?) (by simp [hxl]) (by simpa [c3] using hf 1 _ rfl)
    obtain ⟨z2, rfl, w2⟩ := intOf_trod (c := k2) (o := xs[2]?) (by simp [hxl]) (by simpa [c3] using hf 2 _ rfl)
    obtain ⟨y3, hy3⟩ : ∃ y, xs[3]? = some y := ⟨xs[3]'(by omega), List.getElem?_eq_getElem _⟩
    obtain ⟨y4, hy4⟩ : ∃ y, xs[4]? = some y := ⟨xs[4]'(by omega), List.getElem?_eq_getElem _⟩
    obtain ⟨y5, hy5⟩ : ∃ y, xs[5]? = some y := ⟨xs[5]'(by omega), List.getElem?_eq_getElem _⟩
    have h3 : DataW.trod enc Try.prog w 0 (fun _ => true) true n' 22 [k3] = some y3 := by rw [← hy3]; simpa [c22] using hf 3 _ rfl
    have h4 : DataW.trod enc Try.prog w 0 (fun _ => true) true n' 26 [k4, k5] = some y4 := by rw [← hy4]; simpa [c26] using hf 4 _ rfl
    have h5 : DataW.trod enc Try.prog w 0 (fun _ => true) true n' 24 [k6] = some y5 := by rw [← hy5]; simpa [c24] using hf 5 _ rfl
    obtain ⟨us, n2, _, _, _, hus, hg⟩ := DataW.trod_struct Try.underlying26 h4
    have hul : us.length = 2 := hus
    obtain ⟨u0, hu0⟩ : ∃ y, us[0]? = some y := ⟨us[0]'(by omega), List.getElem?_eq_getElem _⟩
    obtain ⟨u1, hu1⟩ : ∃ y, us[1]? = some y := ⟨us[1]'(by omega), List.getElem?_eq_getElem _⟩
    have g0 : DataW.trod enc Try.prog w 0 (fun _ => true) true n2 23 [k4] = some u0 := by rw [← hu0]; simpa [c23] using hg 0 _ rfl
    have g1 : DataW.trod enc Try.prog w 0 (fun _ => true) true n2 24 [k5] = some u1 := by rw [← hu1]; simpa [c24] using hg 1 _ rfl
    obtain ⟨ls, hS, _, os⟩ := sl_elems (ev := Seg.vals) Try.underlying22 c46 (by omega) (fun _ => rfl) seg_of h3
    obtain ⟨lm, hM, _, om⟩ := sl_elems (ev := Mk.vals) Try.underlying23 c72 (by omega) (fun _ => rfl) mk_of g0
    obtain ⟨lt', hT, _, ot⟩ := sl_elems (ev := Tl.vals) Try.underlying24 c116 (by omega) (fun _ => rfl) tl_of g1
    obtain ⟨le, hE, _, oe⟩ := sl_elems (ev := Tl.vals) Try.underlying24 c116 (by omega) (fun _ => rfl) tl_of h5
    exact ⟨⟨z0, z1, z2, ls, lm, lt', le⟩, k3, k4, k5, k6, rfl, ⟨hS, hM, hT, hE⟩, ⟨w0, w1, w2, os, om, ot, oe⟩⟩
end
end Go.Proofs.Ytkjhnipjhefndaa
