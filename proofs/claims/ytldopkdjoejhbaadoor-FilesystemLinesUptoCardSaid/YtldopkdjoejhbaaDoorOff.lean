/- Frames: only some blocks may have changed. No program in sight. -/
import Derived.Test.YtldopkdjoejhbaaDoorBytes
namespace Go.Proofs.YtldopkdjoejhbaaDoor
open Go.RowKit

/-- Of the blocks that were there, only those of S may have changed. -/
structure Off (S : Nat → Prop) (w w' : World) : Prop where
  os : w'.os = w.os
  tape : w'.tape = w.tape
  output : w'.output = w.output
  size : w.heap.size ≤ w'.heap.size
  block : ∀ k, k < w.heap.size → ¬ S k → w'.heap[k]? = w.heap[k]?
section
variable {S T : Nat → Prop} {w w' a b : World}
theorem Off.refl (S : Nat → Prop) (w : World) : Off S w w := ⟨rfl, rfl, rfl, Nat.le_refl _, fun _ _ _ => rfl⟩
theorem Off.trans (h : Off S w a) (k : Off T a b) (hT : ∀ i, i < w.heap.size → T i → S i) : Off S w b :=
  ⟨k.os.trans h.os, k.tape.trans h.tape, k.output.trans h.output, Nat.le_trans h.size k.size,
    fun i hi hs => (k.block i (Nat.lt_of_lt_of_le hi h.size) (fun t => hs (hT i hi t))).trans (h.block i hi hs)⟩
theorem Off.mono (h : Off S w a) (hT : ∀ i, i < w.heap.size → S i → T i) : Off T w a := ⟨h.os, h.tape, h.output, h.size, fun i hi hs => h.block i hi (fun t => hs (hT i hi t))⟩
theorem Off.of_below (S : Nat → Prop) (h : Below w.heap.size w w') : Off S w w' := ⟨h.os, h.tape, h.output, h.size, fun i hi _ => h.block i hi⟩
theorem Off.of_grown {row : Option Nat} (h : w.grownBy w' row) (hS : ∀ k, row = some k → S k) : Off S w w' :=
  ⟨h.os, h.tape, h.output, h.size, fun i hi hs => h.block i hi (fun e => hs (hS i e.symm))⟩
theorem Off.alloc (h : Off S w a) (o : Obj) : Off S w (a.alloc o) :=
  h.trans (Off.of_below S ((Below.refl _ a).alloc (Nat.le_refl _) o)) (fun _ _ t => t)
theorem Off.drew (h : Off S w a) : Off S w a.drew := ⟨h.os, h.tape, h.output, h.size, h.block⟩
theorem Off.drewN (h : Off S w a) (n : Nat) : Off S w (a.drewN n) := ⟨h.os, h.tape, h.output, h.size, h.block⟩
theorem Off.set_ (h : Off S w a) {p : Addr} (hp : S p.block ∨ w.heap.size ≤ p.block) (u : Value) : Off S w (a.setCell p u) :=
  ⟨h.os, h.tape, h.output, by have := h.size; simpa [World.setCell] using this, fun i hi hs => (Below.heap_setCell a p u i (by
    intro e; rcases hp with hp | hp
    · exact hs (e ▸ hp)
    · omega)).trans (h.block i hi hs)⟩
theorem Off.below {B : Nat} (h : Off S w a) (hB : B ≤ w.heap.size) (hS : ∀ i, i < B → ¬ S i) : Below B w a := ⟨h.os, h.tape, h.output, h.size, fun i hi => h.block i (by omega) (hS i hi)⟩
theorem Off.cell (h : Off S w a) {p : Addr} (hp : p.block < w.heap.size) (hs : ¬ S p.block) : a.cell? p = w.cell? p := World.cell?_of_block (h.block _ hp hs)
theorem Blk.off {g : Nat} {t : TypeId} {cs : Array Value} (h : Blk w g t cs) (ho : Off S w a) (hg : ¬ S g) : Blk a g t cs := (ho.block g h.lt hg).trans h
theorem Sl.off {S' : Nat → Prop} {size n : Nat} {v : Value} {xs : List Value} (h : Sl w S' size v n xs) (ho : Off S w a) (hS : ∀ i, S' i → i < w.heap.size ∧ ¬ S i) : Sl a S' size v n xs :=
  h.keep fun _ hp => ho.cell (hS _ hp).1 (hS _ hp).2
theorem OwnB.off {base : Nat} {v : Value} {l : List UInt8} (h : OwnB w base v l) (ho : Off S w a) (hv : ∀ k, v.ownBlock = some k → ¬ S k) : OwnB a base v l := by
  rcases h with hn | ⟨g, cap, cur, fz, rfl, hb, hgg, rest⟩
  · exact .inl hn
  · exact .inr ⟨g, cap, cur, fz, rfl, hb, (ho.block g (Array.getElem?_eq_some_iff.1 hgg).1 (hv g rfl)).trans hgg, rest⟩
end
/-- Where the block of an owned slice lies behind an append: where it lay, or in a new one. -/
theorem own_after {w : World} {v v' : Value} (h' : v'.ownBlock = v.ownBlock ∨ v'.ownBlock = some w.heap.size) : ∀ k, v'.ownBlock = some k → v.ownBlock = some k ∨ w.heap.size ≤ k := by
  intro k hk
  rcases h' with h | h
  · exact .inl (h ▸ hk)
  · rw [h] at hk; injection hk with hk; exact .inr (by omega)
/-- 'b = append(b, x)': the two operations in one law, with the place of the new row. -/
theorem wpList_pushB' {P : Program} {w : World} (E : Elem P 22 5 1 1 (.int .u8 0)) {ops : Array Oper} {rest : List Oper} {o1 o2 : Oper} {a : Act} {Q : Exit → Act → World → Prop}
    (hg1 : o1.guard = none) (hg2 : o2.guard = none) (x s : Operand) (d : Tmp) (hd : o1.dst = some d) (ho1 : o1.op = .buildSlice 22 1 #[(0, x)])
    (ho2 : o2.op = .call { callee := .builtin .append, args := #[s, .tmp d], argTypes := #[22, 22] })
    (base : Nat) (v : Value) (b : UInt8) (l : List UInt8) (hx : a.eval x = ub b) (hs : ∀ q, (a.put (some d) q).eval s = v) (hdv : ∀ q, (a.put (some d) q).eval (.tmp d) = q)
    (hown : OwnB w base v l) (h63 : l.length + 1 ≤ 140737488355328) (hbase : base ≤ w.heap.size)
    (h : ∀ q v' w', OwnB w' base v' (l ++ [b]) → w.grownBy w' v.ownBlock → (∀ k, v'.ownBlock = some k → v.ownBlock = some k ∨ w.heap.size ≤ k) → wpList P ops Q rest ((a.put (some d) q).put o2.dst v') w') :
    wpList P ops Q (o1 :: o2 :: rest) a w := by
  refine wpList_plain hg1 fun K hK => ?_
  unfold Oper.wp execOp
  simp only [ho1, hx, Sem.run_bind, Sem.run_pure, List.map_toArray, List.map_cons, List.map_nil, run_buildSlice_one E (ub b) rfl (by omega), Result.andThen_ok]
  rw [Oper.upon_value, hd]
  refine hK _ _ ?_
  have hsl : BSl (w.alloc (.cells (ub b).cells 5)) (fun _ => True) (.slice (some ⟨w.heap.size, 0, none⟩) 1 1) [b] := by
    refine ⟨rfl, _, 1, rfl, Nat.le_refl _, fun _ => ⟨w.heap.size, 0, rfl, trivial, fun j u hu => ?_⟩⟩
    have hj : j = 0 := by have := (List.getElem?_eq_some_iff.1 hu).1; simp at this; omega
    subst hj
    simp at hu
    subst hu
    simp [ub, Value.cells]
  refine wpList_plain hg2 fun K hK => ?_
  obtain ⟨v', w', hr, h2, h3, h5⟩ := run_appendBb (P := P) (w := w.alloc (.cells (ub b).cells 5)) E o2.type base v l (hown.alloc _) (fun _ => True) _ [b] hsl (by simpa using h63) (by simp; omega)
  unfold Oper.wp execOp
  simp only [ho2, resolve, invoke, builtin, Sem.run_bind, Sem.run_pure, Result.andThen_ok, List.map_toArray, List.map_cons, List.map_nil, hs, hdv, hr]
  have hg : w.grownBy w' v.ownBlock := ⟨h3.os, h3.tape, h3.output, by have := h3.size; simp at this; omega, fun k hk hne => (h3.block k (by simp; omega) hne).trans (Below.heap_alloc w _ k hk)⟩
  refine hK _ _ (h _ v' w' h2 hg (fun k hk => ?_))
  rcases h5 with h5 | h5
  · exact .inl (h5 ▸ hk)
  · rw [h5] at hk; injection hk with hk; exact .inr (by simp at hk; omega)
theorem wpList_appendBb' {P : Program} {w : World} (E : Elem P 22 5 1 1 (.int .u8 0)) {ops : Array Oper} {rest : List Oper} {o : Oper} {a : Act} {Q : Exit → Act → World → Prop} (hgd : o.guard = none) (sl x : Operand)
    (ho : o.op = .call { callee := .builtin .append, args := #[sl, x], argTypes := #[22, 22] })
    (base : Nat) (v : Value) (l : List UInt8) (hs : a.eval sl = v) (hown : OwnB w base v l) (S : Nat → Prop) (vx : Value) (m : List UInt8) (hx : a.eval x = vx) (hsrc : BSl w S vx m)
    (h63 : l.length + m.length ≤ 140737488355328) (hbase : base ≤ w.heap.size)
    (h : ∀ v' w', OwnB w' base v' (l ++ m) → w.grownBy w' v.ownBlock → (∀ k, v'.ownBlock = some k → v.ownBlock = some k ∨ w.heap.size ≤ k) → wpList P ops Q rest (a.put o.dst v') w') : wpList P ops Q (o :: rest) a w := by
  refine wpList_plain hgd fun K hK => ?_
  obtain ⟨v', w', hr, h2, h3, h5⟩ := run_appendBb (P := P) (w := w) E o.type base v l hown S vx m hsrc h63 hbase
  unfold Oper.wp execOp
  simp only [ho, resolve, invoke, builtin, Sem.run_bind, Sem.run_pure, Result.andThen_ok, List.map_toArray, List.map_cons, List.map_nil, hs, hx, hr]
  exact hK _ _ (h v' w' h2 h3 (own_after h5))
theorem wpList_appendBs' {P : Program} {w : World} (E : Elem P 22 5 1 1 (.int .u8 0)) (hu : P.underlying 9 = some .string) {ops : Array Oper} {rest : List Oper} {o : Oper} {a : Act} {Q : Exit → Act → World → Prop} (hgd : o.guard = none) (sl x : Operand)
    (ho : o.op = .call { callee := .builtin .append, args := #[sl, x], argTypes := #[22, 9] })
    (base : Nat) (v : Value) (l : List UInt8) (hs : a.eval sl = v) (hown : OwnB w base v l) (s : ByteArray) (hx : a.eval x = .string s)
    (h63 : l.length + s.size ≤ 140737488355328) (hbase : base ≤ w.heap.size)
    (h : ∀ v' w', OwnB w' base v' (l ++ s.data.toList) → w.grownBy w' v.ownBlock → (∀ k, v'.ownBlock = some k → v.ownBlock = some k ∨ w.heap.size ≤ k) → wpList P ops Q rest (a.put o.dst v') w') : wpList P ops Q (o :: rest) a w := by
  refine wpList_plain hgd fun K hK => ?_
  obtain ⟨v', w', hr, h2, h3, h5⟩ := run_appendBs (P := P) (w := w) E hu o.type base v l hown s h63 hbase
  unfold Oper.wp execOp
  simp only [ho, resolve, invoke, builtin, Sem.run_bind, Sem.run_pure, Result.andThen_ok, List.map_toArray, List.map_cons, List.map_nil, hs, hx, hr]
  exact hK _ _ (h v' w' h2 h3 (own_after h5))
theorem wp_appendBs' {P : Program} {w : World} (E : Elem P 22 5 1 1 (.int .u8 0)) (hu : P.underlying 9 = some .string) {o : Oper} {a : Act} {K : Act → World → Prop} {Q : Exit → Act → World → Prop} (sl x : Operand)
    (ho : o.op = .call { callee := .builtin .append, args := #[sl, x], argTypes := #[22, 9] })
    (base : Nat) (v : Value) (l : List UInt8) (hs : a.eval sl = v) (hown : OwnB w base v l) (s : ByteArray) (hx : a.eval x = .string s)
    (h63 : l.length + s.size ≤ 140737488355328) (hbase : base ≤ w.heap.size)
    (h : ∀ v' w', OwnB w' base v' (l ++ s.data.toList) → w.grownBy w' v.ownBlock → (∀ k, v'.ownBlock = some k → v.ownBlock = some k ∨ w.heap.size ≤ k) → K (a.put o.dst v') w') : o.wp P a w K Q := by
  obtain ⟨v', w', hr, h2, h3, h5⟩ := run_appendBs (P := P) (w := w) E hu o.type base v l hown s h63 hbase
  unfold Oper.wp execOp
  simp only [ho, resolve, invoke, builtin, Sem.run_bind, Sem.run_pure, Result.andThen_ok, List.map_toArray, List.map_cons, List.map_nil, hs, hx, hr]
  exact h v' w' h2 h3 (own_after h5)
theorem step_appendBs {P : Program} {w : World} (El : Elem P 22 5 1 1 (.int .u8 0)) (hu : P.underlying 9 = some .string) {ops : Array Oper} {o : Oper} {a : Act} {K : Act → World → Prop} {Q : Exit → Act → World → Prop} {E : Prop} (hgd : o.guard = none) (sl x : Operand)
    (ho : o.op = .call { callee := .builtin .append, args := #[sl, x], argTypes := #[22, 9] })
    (base : Nat) (v : Value) (l : List UInt8) (hs : a.eval sl = v) (hown : OwnB w base v l) (s : ByteArray) (hx : a.eval x = .string s)
    (h63 : l.length + s.size ≤ 140737488355328) (hbase : base ≤ w.heap.size)
    (h : ∀ v' w', OwnB w' base v' (l ++ s.data.toList) → w.grownBy w' v.ownBlock → (∀ k, v'.ownBlock = some k → v.ownBlock = some k ∨ w.heap.size ≤ k) → K (a.put o.dst v') w') :
    if Region.wanted o (yielded ops a.tmps) = true then Oper.wp P o a w K Q else E := by
  rw [if_pos (by simp [Region.wanted, hgd])]
  exact wp_appendBs' El hu sl x ho base v l hs hown s hx h63 hbase h
theorem wp_appendBb' {P : Program} {w : World} (E : Elem P 22 5 1 1 (.int .u8 0)) {o : Oper} {a : Act} {K : Act → World → Prop} {Q : Exit → Act → World → Prop} (sl x : Operand)
    (ho : o.op = .call { callee := .builtin .append, args := #[sl, x], argTypes := #[22, 22] })
    (base : Nat) (v : Value) (l : List UInt8) (hs : a.eval sl = v) (hown : OwnB w base v l) (S : Nat → Prop) (vx : Value) (m : List UInt8) (hx : a.eval x = vx) (hsrc : BSl w S vx m)
    (h63 : l.length + m.length ≤ 140737488355328) (hbase : base ≤ w.heap.size)
    (h : ∀ v' w', OwnB w' base v' (l ++ m) → w.grownBy w' v.ownBlock → (∀ k, v'.ownBlock = some k → v.ownBlock = some k ∨ w.heap.size ≤ k) → K (a.put o.dst v') w') : o.wp P a w K Q := by
  obtain ⟨v', w', hr, h2, h3, h5⟩ := run_appendBb (P := P) (w := w) E o.type base v l hown S vx m hsrc h63 hbase
  unfold Oper.wp execOp
  simp only [ho, resolve, invoke, builtin, Sem.run_bind, Sem.run_pure, Result.andThen_ok, List.map_toArray, List.map_cons, List.map_nil, hs, hx, hr]
  exact h v' w' h2 h3 (own_after h5)
theorem step_appendBb {P : Program} {w : World} (El : Elem P 22 5 1 1 (.int .u8 0)) {ops : Array Oper} {o : Oper} {a : Act} {K : Act → World → Prop} {Q : Exit → Act → World → Prop} {E : Prop} (hgd : o.guard = none) (sl x : Operand)
    (ho : o.op = .call { callee := .builtin .append, args := #[sl, x], argTypes := #[22, 22] })
    (base : Nat) (v : Value) (l : List UInt8) (hs : a.eval sl = v) (hown : OwnB w base v l) (S : Nat → Prop) (vx : Value) (m : List UInt8) (hx : a.eval x = vx) (hsrc : BSl w S vx m)
    (h63 : l.length + m.length ≤ 140737488355328) (hbase : base ≤ w.heap.size)
    (h : ∀ v' w', OwnB w' base v' (l ++ m) → w.grownBy w' v.ownBlock → (∀ k, v'.ownBlock = some k → v.ownBlock = some k ∨ w.heap.size ≤ k) → K (a.put o.dst v') w') :
    if Region.wanted o (yielded ops a.tmps) = true then Oper.wp P o a w K Q else E := by
  rw [if_pos (by simp [Region.wanted, hgd])]
  exact wp_appendBb' El sl x ho base v l hs hown S vx m hx hsrc h63 hbase h
theorem OwnB.shape {w : World} {base : Nat} {v : Value} {l : List UInt8} (h : OwnB w base v l) : ∃ A n c, v = .slice A n c := by
  obtain ⟨A, c, h, _⟩ := h.form
  exact ⟨A, _, c, h⟩
end Go.Proofs.YtldopkdjoejhbaaDoor
