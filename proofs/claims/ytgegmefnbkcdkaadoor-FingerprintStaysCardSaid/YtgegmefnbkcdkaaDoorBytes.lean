/- Rows of bytes that the call owns; the block may bear a mark behind its cells, as '[]byte(s)' leaves it. Conversions and appends. No program in sight but the numbers of []uint8, uint8 and string. -/
import Derived.Test.YtgegmefnbkcdkaaDoorLib
import Derived.Lib.AppendStr
namespace Go.Proofs.YtgegmefnbkcdkaaDoor
open Go.RowKit
def ub (b : UInt8) : Value := .int .u8 (b.toNat : Int)
theorem ub_one (l : List UInt8) : ∀ u ∈ l.map ub, u.oneCell' = true := oneCells ub (fun _ => rfl) l
/-- No cell of the block is frozen. -/
def Free (n : Nat) (fz : Nat × Nat) : Prop := fz.2 = 0 ∨ n ≤ fz.1
theorem Free.at_ {w : World} {g t j : Nat} {cur : Array Value} {fz : Nat × Nat} (hg : w.heap[g]? = some (.cells cur t fz)) (h : Free cur.size fz) (hj : j < cur.size) : w.frozen? ⟨g, j, none⟩ = false := by
  obtain ⟨lo, hi⟩ := fz
  simp only [World.frozen?, hg, Bool.and_eq_false_iff, decide_eq_false_iff_not]
  rcases h with h | h <;> simp only at h <;> omega
theorem run_storeCells_free (P : Program) (g o : Nat) (t : TypeId) (fz : Nat × Nat) : ∀ (vs : List Value) (i : Nat) (cur : Array Value) (w : World), w.heap[g]? = some (.cells cur t fz) → Free cur.size fz → o + i + vs.length ≤ cur.size →
    (∀ v ∈ vs, v.oneCell' = true) → (storeCells ⟨g, o, none⟩ vs i).run P w = .ok () (w.setRow g (cur.toList.take (o + i) ++ vs ++ cur.toList.drop (o + i + vs.length)).toArray)
  | [], i, cur, w, hg, _, _, _ => by
    simp only [storeCells, List.append_nil, List.length_nil, Nat.add_zero, List.take_append_drop, Array.toArray_toList]
    rw [setRow_self w g cur t fz hg]
    rfl
  | v :: rest, i, cur, w, hg, hfz, hl, h1 => by
    have hi : o + i < cur.size := by simp at hl; omega
    have hadd : (⟨g, o, none⟩ : Addr).add i = ⟨g, o + i, none⟩ := by unfold Addr.add; split <;> simp_all
    have hcell : w.cell? ⟨g, o + i, none⟩ = some cur[o + i] := by simp [World.cell?, hg, hi]
    have hfro : w.frozen? ⟨g, o + i, none⟩ = false := hfz.at_ hg hi
    have hst : (store ((⟨g, o, none⟩ : Addr).add i) v).run P w = .ok () (w.setRow g (cur.setIfInBounds (o + i) v)) := by
      rw [hadd, run_store P w _ v _ (h1 v (by simp)), hcell]
      simp [hfro, setCell_eq_setRow w g (o + i) cur t fz v hg]
    have ih := run_storeCells_free P g o t fz rest (i + 1) (cur.setIfInBounds (o + i) v) (w.setRow g (cur.setIfInBounds (o + i) v)) (setRow_heap w g cur _ t _ hg) (by simpa using hfz) (by simp at hl ⊢; omega) (fun x hx => h1 x (by simp [hx]))
    simp only [storeCells, Sem.run_bind, hst, Result.andThen_ok, ih, setRow_setRow]
    congr 3
    have e := list_seg_step cur.toList (o + i) v rest (by simp at hl ⊢; omega)
    simpa [Array.toList_setIfInBounds, Nat.add_assoc] using e
/-- v owns the bytes l. -/
def OwnB (w : World) (base : Nat) (v : Value) (l : List UInt8) : Prop :=
  (v = .slice none 0 0 ∧ l = []) ∨ ∃ g cap cur fz, v = .slice (some ⟨g, 0, none⟩) l.length cap ∧ base ≤ g ∧ w.heap[g]? = some (.cells cur 5 fz) ∧ Free cur.size fz ∧ l.length ≤ cap ∧ cap ≤ maxLen ∧ cur.size = cap ∧ cur.toList.take l.length = l.map ub
/-- v reads as the bytes l. -/
def BSl (w : World) (S : Nat → Prop) (v : Value) (l : List UInt8) : Prop := Sl w S 1 v l.length (l.map ub)
section
variable {w w' : World} {base base' : Nat} {v : Value} {l : List UInt8}
theorem OwnB.nil (w : World) (base : Nat) : OwnB w base (.slice none 0 0) [] := .inl ⟨rfl, rfl⟩
theorem OwnB.of_own (h : w.ownsRow base 5 1 v l.length (l.map ub)) : OwnB w base v l := by
  rcases h.2 with ⟨hv, hn⟩ | ⟨g, cap, cur, hv, hb, hg, hnc, hcm, hcs, ht⟩
  · exact .inl ⟨hv, List.eq_nil_of_length_eq_zero hn⟩
  · exact .inr ⟨g, cap, cur, (0, 0), hv, hb, hg, .inl rfl, hnc, hcm, by simpa using hcs, by simpa using ht⟩
theorem OwnB.base_ (h : OwnB w base v l) (hb : base' ≤ base) : OwnB w base' v l := by
  rcases h with h | ⟨g, cap, cur, fz, hv, hg, r⟩
  · exact .inl h
  · exact .inr ⟨g, cap, cur, fz, hv, by omega, r⟩
theorem OwnB.in_ (h : OwnB w base v l) : ∀ k, v.ownBlock = some k → base ≤ k ∧ k < w.heap.size := by
  intro k hk
  rcases h with ⟨rfl, _⟩ | ⟨g, cap, cur, fz, rfl, hb, hg, _⟩
  · simp [Value.ownBlock] at hk
  · simp [Value.ownBlock] at hk
    subst hk
    exact ⟨hb, (Array.getElem?_eq_some_iff.1 hg).1⟩
theorem OwnB.kept {row : Option Nat} (h : OwnB w base v l) (hg : w.grownBy w' row) (hne : v.ownBlock = none ∨ v.ownBlock ≠ row) : OwnB w' base v l := by
  rcases h with hn | ⟨g, cap, cur, fz, rfl, hb, hgg, rest⟩
  · exact .inl hn
  · refine .inr ⟨g, cap, cur, fz, rfl, hb, ?_, rest⟩
    rw [hg.block g (Array.getElem?_eq_some_iff.1 hgg).1 (by simpa [Value.ownBlock] using hne)]
    exact hgg
theorem OwnB.grown {g : Nat} (h : OwnB w base v l) (hg : w.grownBy w' (some g)) (hgb : g < base) : OwnB w' base v l :=
  h.kept hg (Or.inr (fun e => by have := (h.in_ g e).1; omega))
theorem OwnB.below (h : OwnB w base v l) (hb : Below w.heap.size w w') : OwnB w' base v l :=
  h.kept (grownBy_of_below hb none) (by cases hv : v.ownBlock <;> simp)
theorem OwnB.alloc (h : OwnB w base v l) (o : Obj) : OwnB (w.alloc o) base v l := h.below ((Below.refl _ w).alloc (Nat.le_refl _) o)
theorem OwnB.drewN (h : OwnB w base v l) (k : Nat) : OwnB (w.drewN k) base v l := h.below (below_drewN (Below.refl _ w) k)
theorem OwnB.drew (h : OwnB w base v l) : OwnB w.drew base v l := h.below (Below.refl _ w).drew
theorem OwnB.setCell (h : OwnB w base v l) {p : Addr} (hp : p.block < base) (u : Value) : OwnB (w.setCell p u) base v l := by
  rcases h with hn | ⟨g, cap, cur, fz, rfl, hb, hgg, rest⟩
  · exact .inl hn
  · exact .inr ⟨g, cap, cur, fz, rfl, hb, (Below.heap_setCell w p u g (by omega)).trans hgg, rest⟩
theorem OwnB.sl (h : OwnB w base v l) : BSl w (btw base w.heap.size) v l := by
  refine ⟨by simp, ?_⟩
  rcases h with ⟨hv, rfl⟩ | ⟨g, cap, cur, fz, hv, hb, hg, hfz, hnc, hcm, hcs, ht⟩
  · exact ⟨none, 0, hv, Nat.le_refl _, fun h => absurd h (by simp)⟩
  · refine ⟨_, cap, hv, hnc, fun _ => ⟨g, 0, rfl, ⟨hb, (Array.getElem?_eq_some_iff.1 hg).1⟩, fun j u hu => ?_⟩⟩
    rw [← ht, List.getElem?_take] at hu
    split at hu
    · rw [Nat.zero_add, cell_of_row w g j cur _ fz hg]; simpa using hu
    · cases hu
theorem OwnB.slt (h : OwnB w base v l) : BSl w (lt w.heap.size) v l := h.sl.mono fun _ hb => hb.2
theorem OwnB.len (h : OwnB w base v l) : l.length ≤ maxLen := by
  rcases h with ⟨_, rfl⟩ | ⟨g, cap, cur, fz, hv, hb, hg, hfz, hnc, hcm, _⟩
  · simp
  · omega
/-- The value's form. -/
theorem OwnB.form (h : OwnB w base v l) : ∃ A c, v = .slice A l.length c ∧ l.length ≤ c ∧ OwnB w base (.slice A l.length c) l := by
  have h' := h
  rcases h' with ⟨hv, hl⟩ | ⟨g, cap, cur, fz, hv, hb, hg, hfz, hnc, _⟩
  · subst hl; exact ⟨none, 0, hv, Nat.le_refl _, hv ▸ h⟩
  · exact ⟨_, cap, hv, hnc, hv ▸ h⟩
end
theorem own_growB (w : World) (base : Nat) (l m : List UInt8) (cap : Nat) (hb : base ≤ w.heap.size) (h1 : l.length + m.length ≤ cap) (h2 : cap ≤ maxLen) (row : Option Nat) (Z : Array Value) (hZ : Z.size = cap - (l.length + m.length)) :
    OwnB (w.drew.alloc (.cells ((l.map ub).toArray ++ (m.map ub).toArray ++ Z) 5)) base (.slice (some ⟨w.heap.size, 0, none⟩) (l.length + m.length) cap) (l ++ m) ∧
    w.grownBy (w.drew.alloc (.cells ((l.map ub).toArray ++ (m.map ub).toArray ++ Z) 5)) row := by
  refine ⟨.inr ⟨w.heap.size, cap, _, (0, 0), by rw [List.length_append], hb, heap_alloc_new w.drew _, .inl rfl, by rw [List.length_append]; exact h1, h2, ?_, ?_⟩, ⟨rfl, rfl, rfl, by simp, fun k hk _ => Below.heap_alloc w.drew _ k hk⟩⟩
  · simp [hZ]; omega
  · simp only [Array.toList_append, List.append_assoc]
    rw [← List.append_assoc, List.take_append_of_le_length (by simp), List.take_of_length_le (by simp)]
    simp
theorem own_roomB {w : World} {base g cap : Nat} {cur : Array Value} {fz : Nat × Nat} {l m : List UInt8} (hbg : base ≤ g) (hg : w.heap[g]? = some (.cells cur 5 fz)) (hfz : Free cur.size fz) (hcm : cap ≤ maxLen) (hcs : cur.size = cap)
    (ht : cur.toList.take l.length = l.map ub) (hroom : l.length + m.length ≤ cap) :
    OwnB (w.setRow g (cur.toList.take l.length ++ m.map ub ++ cur.toList.drop (l.length + m.length)).toArray) base (.slice (some ⟨g, 0, none⟩) (l.length + m.length) cap) (l ++ m) ∧
    w.grownBy (w.setRow g (cur.toList.take l.length ++ m.map ub ++ cur.toList.drop (l.length + m.length)).toArray) (some g) := by
  refine ⟨.inr ⟨g, cap, _, fz, by rw [List.length_append], hbg, setRow_heap w g cur _ _ _ hg, ?_, by rw [List.length_append]; exact hroom, hcm, ?_, ?_⟩, ⟨rfl, rfl, rfl, by simp, fun k _ hk => setRow_other w g k _ (fun e => hk (by rw [e]))⟩⟩
  · have e : (cur.toList.take l.length ++ m.map ub ++ cur.toList.drop (l.length + m.length)).toArray.size = cur.size := by simp; omega
    rw [e]; exact hfz
  · simp; omega
  · rw [ht]
    show List.take _ (l.map ub ++ m.map ub ++ _) = _
    rw [List.take_append_of_le_length (by simp), List.take_of_length_le (by simp)]
    simp
section
variable {P : Program} {w : World}
/-- 'append(b, s...)', s a string. -/
theorem run_appendBs (E : Elem P 22 5 1 1 (.int .u8 0)) (hu : P.underlying 9 = some .string) (ty : TypeId) (base : Nat) (v : Value) (l : List UInt8) (hown : OwnB w base v l) (s : ByteArray)
    (h63 : l.length + s.size ≤ 140737488355328) (hbase : base ≤ w.heap.size) :
    ∃ v' w', (Builtin.append_ #[22, 9] ty #[v, .string s]).run P w = .ok v' w' ∧ OwnB w' base v' (l ++ s.data.toList) ∧ w.grownBy w' v.ownBlock ∧ (v'.ownBlock = v.ownBlock ∨ v'.ownBlock = some w.heap.size) := by
  obtain ⟨i, hi, hz0, hz1, hz2⟩ := info_parts E.hi
  have hsz : s.data.toList.length = s.size := by simp
  have hcs : Lib.strCells s = s.data.toList.map ub := rfl
  rcases hown with ⟨rfl, rfl⟩ | ⟨g, cap, cur, fz, rfl, hbg, hg, hfz, hnc, hcm, hcur, htake⟩
  · by_cases hm : s.size = 0
    · have hn : s.data.toList = [] := List.eq_nil_of_length_eq_zero (by omega)
      refine ⟨.slice none 0 0, w, ?_, by rw [hn]; exact OwnB.nil w base, World.grownBy.refl _ _, .inl rfl⟩
      have hf := Lib.run_firstCells_string (P := P) w 1 s
      rw [hm] at hf
      simp [Builtin.append_, run_underlying E.ht, run_underlying hu, sizeOf, typeInfo, hi, hz1, Builtin.lenOf, hm, hf]
    · have hr := run_append_nil_string (P := P) w 22 9 ty 5 i (.int .u8 0) E.ht hu hi hz0 s (by omega) (by simp at h63; omega) (by rw [hz2]; simp at h63; omega)
      have hge := grownCap_ge w s.size 0 5
      have hle := grownCap_le_maxLen w s.size 0 5 (by simp at h63; unfold maxLen; omega)
      have h := own_growB w base [] s.data.toList (grownCap w s.size 0 5) hbase (by simp [hsz]; omega) hle none (Builtin.zeroCells (Value.int .u8 0).cells (grownCap w s.size 0 5 - s.size)) (by rw [size_zeroCells]; first | exact Nat.mul_one _ | (rw [hsz]; exact Nat.mul_one _) | (simp only [List.length_nil, Nat.zero_add, hsz]; exact Nat.mul_one _))
      have e1 : (s.data.map fun b => Value.int .u8 b.toNat) = (s.data.toList.map ub).toArray := by
        apply Array.ext'
        simp [ub]
      rw [e1] at hr
      simp only [List.map_nil, List.length_nil, Nat.zero_add, hsz, List.nil_append] at h
      rw [show (#[] : Array Value) = ([] : List Value).toArray from rfl] at *
      simp only [Array.empty_append, List.nil_append] at h ⊢
      exact ⟨_, _, hr, h.1, h.2, .inr rfl⟩
  · by_cases hroom : l.length + s.size ≤ cap
    · have hf := Lib.run_firstCells_string (P := P) w 1 s
      have hst := run_storeCells_free P g l.length 5 fz (Lib.strCells s) 0 cur w hg hfz (by rw [Lib.strCells_length]; omega) (Lib.strCells_oneCell s)
      simp only [Nat.add_zero, Lib.strCells_length] at hst
      have hr : (Builtin.append_ #[22, 9] ty #[.slice (some ⟨g, 0, none⟩) l.length cap, .string s]).run P w =
          .ok (.slice (some ⟨g, 0, none⟩) (l.length + s.size) cap) (w.setRow g (cur.toList.take l.length ++ Lib.strCells s ++ cur.toList.drop (l.length + s.size)).toArray) := by
        simp [Builtin.append_, run_underlying E.ht, run_underlying hu, sizeOf, typeInfo, hi, hz1, Builtin.lenOf, hroom, hf, Addr.add_lit, hst]
      rw [hcs] at hr
      have h := own_roomB (m := s.data.toList) hbg hg hfz hcm hcur htake (by omega)
      rw [hsz] at h
      exact ⟨_, _, hr, h.1, h.2, .inl rfl⟩
    · have holds : ∀ j u, (l.map ub)[j]? = some u → w.cell? ((⟨g, 0, none⟩ : Addr).add j) = some u := by
        intro j u hju
        rw [Addr.add_lit, Nat.zero_add, cell_of_row w g j cur _ fz hg]
        rw [← htake, List.getElem?_take] at hju
        split at hju
        · simpa using hju
        · cases hju
      have hr := Lib.run_append_grow_string (P := P) w 22 9 ty 5 i (.int .u8 0) E.ht hu hi hz0 ⟨g, 0, none⟩ l.length cap (l.map ub) (by rw [hz1]; simp) holds s (by omega) (by omega) (by rw [hz2]; exact growslice_fits (by omega) (by omega))
      have hge := grownCap_ge w (l.length + s.size) cap 5
      have hle := grownCap_le_maxLen w (l.length + s.size) cap 5 (by unfold maxLen; omega)
      rw [hcs] at hr
      have h := own_growB w base l s.data.toList (grownCap w (l.length + s.size) cap 5) hbase (by omega) hle (Value.ownBlock (.slice (some ⟨g, 0, none⟩) l.length cap)) (Builtin.zeroCells (Value.int .u8 0).cells (grownCap w (l.length + s.size) cap 5 - (l.length + s.size))) (by rw [size_zeroCells]; first | exact Nat.mul_one _ | (rw [hsz]; exact Nat.mul_one _) | (simp only [List.length_nil, Nat.zero_add, hsz]; exact Nat.mul_one _))
      rw [hsz] at h
      exact ⟨_, _, hr, h.1, h.2, .inr rfl⟩
/-- 'append(b, c...)', c a slice of bytes. -/
theorem run_appendBb (E : Elem P 22 5 1 1 (.int .u8 0)) (ty : TypeId) (base : Nat) (v : Value) (l : List UInt8) (hown : OwnB w base v l) (S : Nat → Prop) (vx : Value) (m : List UInt8) (hsrc : BSl w S vx m)
    (h63 : l.length + m.length ≤ 140737488355328) (hbase : base ≤ w.heap.size) :
    ∃ v' w', (Builtin.append_ #[22, 22] ty #[v, vx]).run P w = .ok v' w' ∧ OwnB w' base v' (l ++ m) ∧ w.grownBy w' v.ownBlock ∧ (v'.ownBlock = v.ownBlock ∨ v'.ownBlock = some w.heap.size) := by
  obtain ⟨i, hi, hz0, hz1, hz2⟩ := info_parts E.hi
  have hsrc' : Sl w S 1 vx m.length (m.map ub) := hsrc
  obtain ⟨A, c, rfl, hc, hsrc⟩ := hsrc'.form
  rcases A with _ | ad
  · have hm : m = [] := by
      rcases Nat.eq_zero_or_pos m.length with h0 | h0
      · exact List.eq_nil_of_length_eq_zero h0
      · obtain ⟨b, o, h, _⟩ := hsrc.row h0
        cases h
    subst hm
    refine ⟨v, w, ?_, by simpa using hown, World.grownBy.refl _ _, .inl rfl⟩
    rcases hown with ⟨rfl, rfl⟩ | ⟨g, cap, cur, fz, rfl, hbg, hg, hfz, hnc, _⟩
    · simp [Builtin.append_, run_underlying E.ht, sizeOf, typeInfo, hi, Builtin.lenOf, Builtin.firstCells]
    · simp [Builtin.append_, run_underlying E.ht, sizeOf, typeInfo, hi, Builtin.lenOf, Builtin.firstCells, hnc, storeCells]
  · have hnews : ∀ j u, (m.map ub)[j]? = some u → w.cell? (ad.add j) = some u := by
      intro j u hju
      have h0 : 0 < m.length := by
        have := (List.getElem?_eq_some_iff.1 hju).1
        simp at this; omega
      obtain ⟨b, o, h, _, hrow⟩ := hsrc.row h0
      injection h with h
      subst h
      rw [Addr.add_lit]
      exact hrow j u hju
    have hlm : (m.map ub).length = m.length * i.size := by rw [hz1]; simp
    rcases hown with ⟨rfl, rfl⟩ | ⟨g, cap, cur, fz, rfl, hbg, hg, hfz, hnc, hcm, hcur, htake⟩
    · by_cases hm : m.length = 0
      · have hn : m = [] := List.eq_nil_of_length_eq_zero hm
        subst hn
        refine ⟨.slice none 0 0, w, ?_, OwnB.nil w base, World.grownBy.refl _ _, .inl rfl⟩
        simp [Builtin.append_, run_underlying E.ht, sizeOf, typeInfo, hi, Builtin.lenOf, Builtin.firstCells, loadCells, loadCellsFrom]
      · have hr := run_append_nil (P := P) w 22 ty 5 i (.int .u8 0) E.ht hi hz0 ad m.length c (m.map ub) hlm hnews (by omega) (by simp at h63; omega) (by rw [hz2]; simp at h63; omega)
        have hge := grownCap_ge w m.length 0 5
        have hle := grownCap_le_maxLen w m.length 0 5 (by simp at h63; unfold maxLen; omega)
        have h := own_growB w base [] m (grownCap w m.length 0 5) hbase (by simp; omega) hle none (Builtin.zeroCells (Value.int .u8 0).cells (grownCap w m.length 0 5 - m.length)) (by rw [size_zeroCells]; first | exact Nat.mul_one _ | (simp only [List.length_nil, Nat.zero_add]; exact Nat.mul_one _))
        simp only [List.map_nil, List.length_nil, Nat.zero_add, List.nil_append] at h
        rw [show (#[] : Array Value) = ([] : List Value).toArray from rfl] at *
        simp only [Array.empty_append, List.nil_append] at h ⊢
        exact ⟨_, _, hr, h.1, h.2, .inr rfl⟩
    · by_cases hroom : l.length + m.length ≤ cap
      · have hf := run_firstCells_some (P := P) w i.size m.length ad m.length c (m.map ub) hlm hnews
        have hst := run_storeCells_free P g l.length 5 fz (m.map ub) 0 cur w hg hfz (by simp; omega) (ub_one m)
        simp only [Nat.add_zero, List.length_map] at hst
        rw [hz1] at hf
        have hr : (Builtin.append_ #[22, 22] ty #[.slice (some ⟨g, 0, none⟩) l.length cap, .slice (some ad) m.length c]).run P w =
            .ok (.slice (some ⟨g, 0, none⟩) (l.length + m.length) cap) (w.setRow g (cur.toList.take l.length ++ m.map ub ++ cur.toList.drop (l.length + m.length)).toArray) := by
          simp [Builtin.append_, run_underlying E.ht, sizeOf, typeInfo, hi, hz1, Builtin.lenOf, hroom, hf, Addr.add_lit, hst]
        have h := own_roomB (m := m) hbg hg hfz hcm hcur htake (by omega)
        exact ⟨_, _, hr, h.1, h.2, .inl rfl⟩
      · have holds : ∀ j u, (l.map ub)[j]? = some u → w.cell? ((⟨g, 0, none⟩ : Addr).add j) = some u := by
          intro j u hju
          rw [Addr.add_lit, Nat.zero_add, cell_of_row w g j cur _ fz hg]
          rw [← htake, List.getElem?_take] at hju
          split at hju
          · simpa using hju
          · cases hju
        have hr := run_append_grow (P := P) w 22 ty 5 i (.int .u8 0) E.ht hi hz0 ⟨g, 0, none⟩ l.length cap (l.map ub) (by rw [hz1]; simp) holds ad m.length c (m.map ub) hlm hnews (by omega) (by omega) (by rw [hz2]; exact growslice_fits (by omega) (by omega))
        have hge := grownCap_ge w (l.length + m.length) cap 5
        have hle := grownCap_le_maxLen w (l.length + m.length) cap 5 (by unfold maxLen; omega)
        have h := own_growB w base l m (grownCap w (l.length + m.length) cap 5) hbase (by omega) hle (Value.ownBlock (.slice (some ⟨g, 0, none⟩) l.length cap)) (Builtin.zeroCells (Value.int .u8 0).cells (grownCap w (l.length + m.length) cap 5 - (l.length + m.length))) (by rw [size_zeroCells]; first | exact Nat.mul_one _ | (simp only [List.length_nil, Nat.zero_add]; exact Nat.mul_one _))
        exact ⟨_, _, hr, h.1, h.2, .inr rfl⟩
theorem below_ownB {w' : World} {base : Nat} {v : Value} {l : List UInt8} (hown : OwnB w base v l) (hg : w.grownBy w' v.ownBlock) (hbase : base ≤ w.heap.size) : Below base w w' :=
  ⟨hg.os, hg.tape, hg.output, hg.size, fun k hk => hg.block k (by omega) (fun e => by have := (hown.in_ k e.symm).1; omega)⟩
/-- The operation 'append(b, s...)', s a string. -/
theorem wpList_appendBs (E : Elem P 22 5 1 1 (.int .u8 0)) (hu : P.underlying 9 = some .string) {ops : Array Oper} {rest : List Oper} {o : Oper} {a : Act} {Q : Exit → Act → World → Prop} (hgd : o.guard = none) (sl x : Operand)
    (ho : o.op = .call { callee := .builtin .append, args := #[sl, x], argTypes := #[22, 9] })
    (base : Nat) (v : Value) (l : List UInt8) (hs : a.eval sl = v) (hown : OwnB w base v l) (s : ByteArray) (hx : a.eval x = .string s)
    (h63 : l.length + s.size ≤ 140737488355328) (hbase : base ≤ w.heap.size)
    (h : ∀ v' w', OwnB w' base v' (l ++ s.data.toList) → Below base w w' → w.grownBy w' v.ownBlock → wpList P ops Q rest (a.put o.dst v') w') : wpList P ops Q (o :: rest) a w := by
  refine wpList_plain hgd fun K hK => ?_
  obtain ⟨v', w', hr, h2, h3, _⟩ := run_appendBs (P := P) (w := w) E hu o.type base v l hown s h63 hbase
  unfold Oper.wp execOp
  simp only [ho, resolve, invoke, builtin, Sem.run_bind, Sem.run_pure, Result.andThen_ok, List.map_toArray, List.map_cons, List.map_nil, hs, hx, hr]
  exact hK _ _ (h v' w' h2 (below_ownB hown h3 hbase) h3)
/-- The operation 'append(b, c...)', c a slice. -/
theorem wpList_appendBb (E : Elem P 22 5 1 1 (.int .u8 0)) {ops : Array Oper} {rest : List Oper} {o : Oper} {a : Act} {Q : Exit → Act → World → Prop} (hgd : o.guard = none) (sl x : Operand)
    (ho : o.op = .call { callee := .builtin .append, args := #[sl, x], argTypes := #[22, 22] })
    (base : Nat) (v : Value) (l : List UInt8) (hs : a.eval sl = v) (hown : OwnB w base v l) (S : Nat → Prop) (vx : Value) (m : List UInt8) (hx : a.eval x = vx) (hsrc : BSl w S vx m)
    (h63 : l.length + m.length ≤ 140737488355328) (hbase : base ≤ w.heap.size)
    (h : ∀ v' w', OwnB w' base v' (l ++ m) → Below base w w' → w.grownBy w' v.ownBlock → wpList P ops Q rest (a.put o.dst v') w') : wpList P ops Q (o :: rest) a w := by
  refine wpList_plain hgd fun K hK => ?_
  obtain ⟨v', w', hr, h2, h3, _⟩ := run_appendBb (P := P) (w := w) E o.type base v l hown S vx m hsrc h63 hbase
  unfold Oper.wp execOp
  simp only [ho, resolve, invoke, builtin, Sem.run_bind, Sem.run_pure, Result.andThen_ok, List.map_toArray, List.map_cons, List.map_nil, hs, hx, hr]
  exact hK _ _ (h v' w' h2 (below_ownB hown h3 hbase) h3)
/-- 'b = append(b, x)': the two operations in one law. -/
theorem wpList_pushB (E : Elem P 22 5 1 1 (.int .u8 0)) {ops : Array Oper} {rest : List Oper} {o1 o2 : Oper} {a : Act} {Q : Exit → Act → World → Prop}
    (hg1 : o1.guard = none) (hg2 : o2.guard = none) (x s : Operand) (d : Tmp) (hd : o1.dst = some d) (ho1 : o1.op = .buildSlice 22 1 #[(0, x)])
    (ho2 : o2.op = .call { callee := .builtin .append, args := #[s, .tmp d], argTypes := #[22, 22] })
    (base : Nat) (v : Value) (b : UInt8) (l : List UInt8) (hx : a.eval x = ub b) (hs : ∀ q, (a.put (some d) q).eval s = v) (hdv : ∀ q, (a.put (some d) q).eval (.tmp d) = q)
    (hown : OwnB w base v l) (h63 : l.length + 1 ≤ 140737488355328) (hbase : base ≤ w.heap.size)
    (h : ∀ q v' w', OwnB w' base v' (l ++ [b]) → Below base w w' → w.grownBy w' v.ownBlock → wpList P ops Q rest ((a.put (some d) q).put o2.dst v') w') :
    wpList P ops Q (o1 :: o2 :: rest) a w := by
  refine wpList_plain hg1 fun K hK => ?_
  unfold Oper.wp execOp
  simp only [ho1, hx, Sem.run_bind, Sem.run_pure, List.map_toArray, List.map_cons, List.map_nil, run_buildSlice_one E (ub b) rfl (by omega), Result.andThen_ok]
  rw [Oper.upon_value, hd]
  refine hK _ _ ?_
  have hsl : BSl (w.alloc (.cells (ub b).cells 5)) (fun _ => True) (.slice (some ⟨w.heap.size, 0, none⟩) 1 1) [b] := by
    refine ⟨rfl, _, 1, rfl, Nat.le_refl _, fun _ => ⟨w.heap.size, 0, rfl, trivial, fun j u hu => ?_⟩⟩
    have hj : j = 0 := by have := (List.getElem?_eq_some_iff.1 hu).1; simp at this; omega
    subst hj
    simp at hu
    subst hu
    simp [ub, Value.cells]
  refine wpList_appendBb E hg2 s (.tmp d) ho2 base v l (hs _) (hown.alloc _) _ _ [b] (hdv _) hsl (by simpa using h63) (by simp; omega) ?_
  intro v' w' h2 h3 h4
  have hg : w.grownBy w' v.ownBlock := ⟨h4.os, h4.tape, h4.output, by have := h4.size; simp at this; omega, fun k hk hne => (h4.block k (by simp; omega) hne).trans (Below.heap_alloc w _ k hk)⟩
  exact h _ v' w' h2 (below_ownB hown hg hbase) hg
/-- '[]byte(s)'. -/
theorem wpList_bytesB {ops : Array Oper} {rest : List Oper} {o : Oper} {a : Act} {Q : Exit → Act → World → Prop} (hgd : o.guard = none) (x : Operand)
    (ho : o.op = .convert 9 22 x) (s : ByteArray) (hx : a.eval x = .string s) (hs : P.underlying 9 = some .string) (hd : P.underlying 22 = some (.slice 5)) (he : P.underlying 5 = some (.int .u8)) (hm : s.size ≤ maxLen)
    (h : ∀ v w1, OwnB w1 w.heap.size v s.data.toList → Below w.heap.size w w1 → w1.heap.size = w.heap.size + 1 → wpList P ops Q rest (a.put o.dst v) w1) :
    wpList P ops Q (o :: rest) a w := by
  refine wpList_plain hgd fun K hK => ?_
  unfold Oper.wp execOp
  simp only [ho, hx, Sem.run_bind, Sem.run_pure, run_bytes_of_string w _ _ _ s hs hd he, Result.andThen_ok]
  refine hK _ _ (h _ _ ?_ (((Below.refl _ w).drew).alloc (by simp) _) (by simp))
  have hsz : s.data.toList.length = s.size := by simp
  have hge := grownCap_ge w s.size 0 5
  have hbr : (bytesRow s (grownCap w s.size 0 5)).size = grownCap w s.size 0 5 := by
    simp [bytesRow] at hge ⊢; omega
  refine .inr ⟨w.heap.size, _, _, _, by rw [hsz], Nat.le_refl _, heap_alloc_new w.drew _, .inr (Nat.le_refl _), by rw [hsz]; exact hge, grownCap_le_maxLen w s.size 0 _ hm, hbr, ?_⟩
  simp only [bytesRow, Array.toList_append]
  rw [List.take_append_of_le_length (by simp), List.take_of_length_le (by simp)]
  simp only [Array.toList_map]
  rfl
/-- 'string(b)'. -/
theorem run_stringB {S : Nat → Prop} {v : Value} {l : List UInt8} (h : BSl w S v l) (hs : P.underlying 22 = some (.slice 5)) (he : P.underlying 5 = some (.int .u8)) (hd : P.underlying 9 = some .string) :
    (convert 22 9 v).run P w = .ok (.string ⟨l.toArray⟩) w := by
  have h' : Sl w S 1 v l.length (l.map ub) := h
  obtain ⟨A, c, rfl, hc, h'⟩ := h'.form
  rcases Nat.eq_zero_or_pos l.length with h0 | h0
  · have hl : l = [] := List.eq_nil_of_length_eq_zero h0
    subst hl
    rcases A with _ | ad
    · rw [run_convert_bytes_string w _ _ _ none _ c hs he hd]
      rfl
    · exact run_convert_bytes_back w _ _ _ ad c [] hs he hd (fun j hj => absurd hj (by simp))
  · obtain ⟨b, o, rfl, _, hrow⟩ := h'.row h0
    refine run_convert_bytes_back w _ _ _ _ c l hs he hd (fun j hj => ?_)
    rw [Addr.add_lit]
    exact hrow j _ (by simp [List.getElem?_eq_getElem hj, ub])
theorem wpList_stringB {ops : Array Oper} {rest : List Oper} {o : Oper} {a : Act} {Q : Exit → Act → World → Prop} (hgd : o.guard = none) (x : Operand) (ho : o.op = .convert 22 9 x) {S : Nat → Prop} {v : Value} {l : List UInt8} (hx : a.eval x = v) (hsl : BSl w S v l)
    (hs : P.underlying 22 = some (.slice 5)) (he : P.underlying 5 = some (.int .u8)) (hd : P.underlying 9 = some .string)
    (h : wpList P ops Q rest (a.put o.dst (.string ⟨l.toArray⟩)) w) : wpList P ops Q (o :: rest) a w := by
  refine wpList_plain hgd fun K hK => ?_
  unfold Oper.wp execOp
  simp only [ho, hx, Sem.run_bind, Sem.run_pure, run_stringB hsl hs he hd, Result.andThen_ok]
  exact hK _ _ h
end
theorem ub_ofNat (x : Int) (h0 : 0 ≤ x) (h1 : x ≤ 255) : ub (UInt8.ofNat x.toNat) = .int .u8 x := by
  simp only [ub, UInt8.toNat_ofNat']
  congr 1
  omega
theorem lit2B (w : World) (x y : Int) (x0 : 0 ≤ x) (x1 : x ≤ 255) (y0 : 0 ≤ y) (y1 : y ≤ 255) :
    BSl (w.alloc (.cells #[.int .u8 x, .int .u8 y] 5)) (fun _ => True) (.slice (some ⟨w.heap.size, 0, none⟩) 2 2) [UInt8.ofNat x.toNat, UInt8.ofNat y.toNat] := by
  refine ⟨rfl, _, 2, rfl, Nat.le_refl _, fun _ => ⟨w.heap.size, 0, rfl, trivial, fun j u hu => ?_⟩⟩
  simp only [List.map_cons, List.map_nil, ub_ofNat x x0 x1, ub_ofNat y y0 y1] at hu
  match j, hu with
  | 0, hu => simp at hu; subst hu; simp
  | 1, hu => simp at hu; subst hu; simp
end Go.Proofs.YtgegmefnbkcdkaaDoor
