/- Appending one byte to a slice that has no room; a byte stored into a row of the call's own; four or five slices in a list. -/
import Derived.Test.YtfainbgbeojcpaaOff
import Derived.Test.YtfainbgbeojcpaaSameB
import Derived.Laws.BitsAllLaws
namespace Go.Proofs.Ytfainbgbeojcpaa
open Go.RowKit

section
variable {P : Program} {w : World}
theorem run_appendFull (E : Elem P 36 5 1 1 (.int .u8 0)) (ty : TypeId) (g o : Nat) (l : List UInt8) (S S' : Nat → Prop) (h : BSl w S (.slice (some ⟨g, o, none⟩) l.length l.length) l) (hpos : 0 < l.length) (vx : Value) (m : List UInt8) (hsrc : BSl w S' vx m) (hm1 : 0 < m.length)
    (h63 : l.length + m.length ≤ 140737488355328) :
    ∃ v' w', (Builtin.append_ #[36, 36] ty #[.slice (some ⟨g, o, none⟩) l.length l.length, vx]).run P w = .ok v' w' ∧ OwnB w' w.heap.size v' (l ++ m) ∧ Below w.heap.size w w' := by
  obtain ⟨i, hi, hz0, hz1, hz2⟩ := info_parts E.hi
  have hsrc' : Sl w S' 1 vx m.length (m.map ub) := hsrc
  have h' : Sl w S 1 (.slice (some ⟨g, o, none⟩) l.length l.length) l.length (l.map ub) := h
  obtain ⟨A, c, rfl, hc, hsrc⟩ := hsrc'.form
  obtain ⟨b2, o2, hA, _, hrow⟩ := hsrc.row hm1
  subst hA
  obtain ⟨b1, o1, hB, _, hrow1⟩ := h'.row hpos
  injection hB with hB
  injection hB with e1 e2
  subst e1 e2
  have hnews : ∀ j u, (m.map ub)[j]? = some u → w.cell? ((⟨b2, o2, none⟩ : Addr).add j) = some u := fun j u hju => by rw [Addr.add_lit]; exact hrow j u hju
  have holds : ∀ j u, (l.map ub)[j]? = some u → w.cell? ((⟨g, o, none⟩ : Addr).add j) = some u := fun j u hju => by rw [Addr.add_lit]; exact hrow1 j u hju
  have hlm : (m.map ub).length = m.length * i.size := by rw [hz1]; simp
  have hr := run_append_grow (P := P) w 36 ty 5 i (.int .u8 0) E.ht hi hz0 ⟨g, o, none⟩ l.length l.length (l.map ub) (by rw [hz1]; simp) holds ⟨b2, o2, none⟩ m.length c (m.map ub) hlm hnews (by omega) (by omega) (by rw [hz2]; exact growslice_fits (by omega) (by omega))
  have hge := grownCap_ge w (l.length + m.length) l.length 5
  have hle := grownCap_le_maxLen w (l.length + m.length) l.length 5 (by unfold maxLen; omega)
  have h := own_growB w w.heap.size l m (grownCap w (l.length + m.length) l.length 5) (Nat.le_refl _) (by omega) hle none (Builtin.zeroCells (Value.int .u8 0).cells (grownCap w (l.length + m.length) l.length 5 - (l.length + m.length))) (by rw [size_zeroCells]; first | exact Nat.mul_one _ | (simp only [List.length_nil, Nat.zero_add]; exact Nat.mul_one _))
  exact ⟨_, _, hr, h.1, below_of_none h.2⟩
theorem wpList_pushFull (E : Elem P 36 5 1 1 (.int .u8 0)) {ops : Array Oper} {rest : List Oper} {o1 o2 : Oper} {a : Act} {Q : Exit → Act → World → Prop}
    (hg1 : o1.guard = none) (hg2 : o2.guard = none) (x s : Operand) (d : Tmp) (hd : o1.dst = some d) (ho1 : o1.op = .buildSlice 36 1 #[(0, x)])
    (ho2 : o2.op = .call { callee := .builtin .append, args := #[s, .tmp d], argTypes := #[36, 36] })
    (g o : Nat) (b : UInt8) (l : List UInt8) (S : Nat → Prop) (hx : a.eval x = ub b) (hs : ∀ q, (a.put (some d) q).eval s = .slice (some ⟨g, o, none⟩) l.length l.length) (hdv : ∀ q, (a.put (some d) q).eval (.tmp d) = q)
    (hsl : BSl w S (.slice (some ⟨g, o, none⟩) l.length l.length) l) (hS : ∀ k, S k → k < w.heap.size) (hpos : 0 < l.length) (h63 : l.length + 1 ≤ 140737488355328)
    (h : ∀ q v' w', OwnB w' w.heap.size v' (l ++ [b]) → Below w.heap.size w w' → wpList P ops Q rest ((a.put (some d) q).put o2.dst v') w') :
    wpList P ops Q (o1 :: o2 :: rest) a w := by
  refine wpList_plain hg1 fun K hK => ?_
  unfold Oper.wp execOp
  simp only [ho1, hx, Sem.run_bind, Sem.run_pure, List.map_toArray, List.map_cons, List.map_nil, run_buildSlice_one E (ub b) rfl (by omega), Result.andThen_ok]
  rw [Oper.upon_value, hd]
  refine hK _ _ ?_
  have hsl1 : BSl (w.alloc (.cells (ub b).cells 5)) (fun _ => True) (.slice (some ⟨w.heap.size, 0, none⟩) 1 1) [b] := by
    refine ⟨rfl, _, 1, rfl, Nat.le_refl _, fun _ => ⟨w.heap.size, 0, rfl, trivial, fun j u hu => ?_⟩⟩
    have hj : j = 0 := by have := (List.getElem?_eq_some_iff.1 hu).1; simp at this; omega
    subst hj
    simp at hu
    subst hu
    simp [ub, Value.cells]
  have hsl2 : BSl (w.alloc (.cells (ub b).cells 5)) S (.slice (some ⟨g, o, none⟩) l.length l.length) l := Sl.under (B := w.heap.size) hsl ((Below.refl _ w).alloc (Nat.le_refl _) _) hS
  refine wpList_plain hg2 fun K hK => ?_
  obtain ⟨v', w', hr, h2, h3⟩ := run_appendFull (P := P) (w := w.alloc (.cells (ub b).cells 5)) E o2.type g o l S (fun _ => True) hsl2 hpos _ [b] hsl1 (by simp) (by simpa using h63)
  unfold Oper.wp execOp
  simp only [ho2, resolve, invoke, builtin, Sem.run_bind, Sem.run_pure, Result.andThen_ok, List.map_toArray, List.map_cons, List.map_nil, hs, hdv, hr]
  have hba : Below w.heap.size w (w.alloc (.cells (ub b).cells 5)) := (Below.refl _ w).alloc (Nat.le_refl _) _
  exact hK _ _ (h _ v' w' (h2.base_ (by simp)) (hba.trans (h3.mono (by simp))))
end
/-- A byte stored into a row of the call's own. -/
theorem OwnB.setAt {w : World} {base : Nat} {A : Option Addr} {c n i : Nat} {l : List UInt8} (h : OwnB w base (.slice A n c) l) (hi : i < l.length) (y : UInt8) :
    ∃ g, A = some ⟨g, 0, none⟩ ∧ base ≤ g ∧ g < w.heap.size ∧ n = l.length ∧ w.cell? ⟨g, i, none⟩ = some (ub l[i]) ∧ w.frozen? ⟨g, i, none⟩ = false ∧ OwnB (w.setCell ⟨g, i, none⟩ (ub y)) base (.slice A n c) (l.set i y) := by
  rcases h with ⟨_, rfl⟩ | ⟨g, cap, cur, fz, hv, hb, hg, hf, hlc, hcm, hcs, ht⟩
  · simp at hi
  · injection hv with h1 h2 h3
    subst h1 h2 h3
    have hicur : i < cur.size := by omega
    have hgl : g < w.heap.size := (Array.getElem?_eq_some_iff.1 hg).1
    have hcell : w.cell? ⟨g, i, none⟩ = some (ub l[i]) := by
      have e1 : w.cell? ⟨g, i, none⟩ = some cur[i] := by simp [World.cell?, hg, hicur]
      have e2 : (cur.toList.take l.length)[i]? = some (ub l[i]) := by rw [ht]; simp [hi]
      rw [List.getElem?_take, if_pos hi] at e2
      have e3 : cur.toList[i]? = some cur[i] := by simp [hicur]
      rw [e3] at e2
      injection e2 with e2
      rw [e1, e2]
    refine ⟨g, rfl, hb, hgl, rfl, hcell, hf.at_ hg hicur, .inr ⟨g, c, cur.setIfInBounds i (ub y), fz, by rw [List.length_set], hb, ?_, by simpa using hf, by rw [List.length_set]; exact hlc, hcm, by simpa using hcs, ?_⟩⟩
    · rw [setCell_eq_setRow w g i cur 5 fz (ub y) hg]
      exact setRow_heap w g cur _ 5 fz hg
    · rw [List.length_set, Array.toList_setIfInBounds, List.take_set, ht, List.map_set]
theorem xor_u8 (x y : UInt8) : bits .xor .u8 (x.toNat : Int) (y.toNat : Int) = (((x ^^^ y).toNat : Nat) : Int) := by
  rw [u8_xor_nat _ _ x.toNat_lt y.toNat_lt]
  simp
/-- Four slices of bytes in a list. -/
def Four (w : World) (B : Nat) (v : Value) : Prop := ∃ l, BSl w (lt B) v l ∧ l.length ≤ 1000000
theorem four_at {w : World} {g k : Nat} {t : TypeId} {v0 v1 v2 v3 : Value} (h : Blk w g t #[v0, v1, v2, v3]) {Q : Value → Prop} (h0 : Q v0) (h1 : Q v1) (h2 : Q v2) (h3 : Q v3) (hk : k < 4) :
    ∃ v, w.cell? ⟨g, k, none⟩ = some v ∧ Q v := by
  match k, hk with
  | 0, _ => exact ⟨v0, by rw [h.cell]; rfl, h0⟩
  | 1, _ => exact ⟨v1, by rw [h.cell]; rfl, h1⟩
  | 2, _ => exact ⟨v2, by rw [h.cell]; rfl, h2⟩
  | 3, _ => exact ⟨v3, by rw [h.cell]; rfl, h3⟩
/-- Bytes given as numbers. -/
theorem bsl_ints {w : World} {S : Nat → Prop} {v : Value} {bs : List Int} (hs : Sl w S 1 v bs.length (bs.map (.int .u8))) (hr : ∀ x ∈ bs, 0 ≤ x ∧ x ≤ 255) : BSl w S v (bs.map fun x => UInt8.ofNat x.toNat) := by
  have e : (bs.map fun x => UInt8.ofNat x.toNat).map ub = bs.map (.int .u8) := by
    rw [List.map_map]
    refine List.map_congr_left fun x hx => ?_
    obtain ⟨h0, h1⟩ := hr x hx
    exact ub_ofNat x h0 h1
  unfold BSl
  rw [e, List.length_map]
  exact hs
theorem step_appendFull {P : Program} {w : World} (El : Elem P 36 5 1 1 (.int .u8 0)) {ops : Array Oper} {o : Oper} {a : Act} {K : Act → World → Prop} {Q : Exit → Act → World → Prop} {E' : Prop} (hgd : o.guard = none) (sl x : Operand)
    (ho : o.op = .call { callee := .builtin .append, args := #[sl, x], argTypes := #[36, 36] })
    (g oo : Nat) (l : List UInt8) (S S' : Nat → Prop) (hs : a.eval sl = .slice (some ⟨g, oo, none⟩) l.length l.length) (hsl : BSl w S (.slice (some ⟨g, oo, none⟩) l.length l.length) l) (hpos : 0 < l.length)
    (vx : Value) (m : List UInt8) (hx : a.eval x = vx) (hsrc : BSl w S' vx m) (hm1 : 0 < m.length) (h63 : l.length + m.length ≤ 140737488355328)
    (h : ∀ v' w', OwnB w' w.heap.size v' (l ++ m) → Below w.heap.size w w' → K (a.put o.dst v') w') :
    if Region.wanted o (yielded ops a.tmps) = true then Oper.wp P o a w K Q else E' := by
  rw [if_pos (by simp [Region.wanted, hgd])]
  obtain ⟨v', w', hr, h2, h3⟩ := run_appendFull (P := P) (w := w) El o.type g oo l S S' hsl hpos vx m hsrc hm1 h63
  unfold Oper.wp execOp
  simp only [ho, resolve, invoke, builtin, Sem.run_bind, Sem.run_pure, Result.andThen_ok, List.map_toArray, List.map_cons, List.map_nil, hs, hx, hr]
  exact h v' w' h2 h3
theorem one_bsl (w : World) : BSl (w.alloc (.cells #[.int .u8 0] 5)) (fun _ => True) (.slice (some ⟨w.heap.size, 0, none⟩) 1 1) [0] := by
  refine ⟨rfl, _, 1, rfl, Nat.le_refl _, fun _ => ⟨w.heap.size, 0, rfl, trivial, fun j u hu => ?_⟩⟩
  have hj : j = 0 := by have := (List.getElem?_eq_some_iff.1 hu).1; simp at this; omega
  subst hj
  simp at hu
  subst hu
  simp [ub]
/-- One of five slices. -/
theorem five_at {w : World} {g k : Nat} {t : TypeId} {v0 v1 v2 v3 v4 : Value} (h : Blk w g t #[v0, v1, v2, v3, v4]) {Q : Nat → Value → Prop} (h0 : Q 0 v0) (h1 : Q 1 v1) (h2 : Q 2 v2) (h3 : Q 3 v3) (h4 : Q 4 v4) (hk : k < 5) :
    ∃ v, w.cell? ⟨g, k, none⟩ = some v ∧ Q k v := by
  match k, hk with
  | 0, _ => exact ⟨v0, by rw [h.cell]; rfl, h0⟩
  | 1, _ => exact ⟨v1, by rw [h.cell]; rfl, h1⟩
  | 2, _ => exact ⟨v2, by rw [h.cell]; rfl, h2⟩
  | 3, _ => exact ⟨v3, by rw [h.cell]; rfl, h3⟩
  | 4, _ => exact ⟨v4, by rw [h.cell]; rfl, h4⟩
/-- A slice of bytes; the second one is e. -/
def Fiv (w : World) (B : Nat) (e : List UInt8) (k : Nat) (v : Value) : Prop := ∃ l, BSl w (lt B) v l ∧ l.length ≤ 1000000 ∧ (k = 1 → l = e)
end Go.Proofs.Ytfainbgbeojcpaa
