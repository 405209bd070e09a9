/- General lemmas of our own: slices that read as lists, laws for single operations that leave an abstract world. No program in sight. -/
import Derived.Test.YtigogjlbemkhdaaGreatRows
import Derived.WalkKit
import Derived.WalkSpells
import Derived.Handy
import Derived.Laws.IdiomStrings
import Derived.ChangeSame
import Derived.Deep.AppendLies
import Derived.Deep.Draws
import Derived.Deep.RegionHeld3
import Derived.Deep.DeepCutAuto
import Derived.Deep.QuietTactic
import Derived.BigQuiet
import Derived.Deep.DrawnRows
import Derived.StillTailTactics
namespace Go.Proofs.YtigogjlbemkhdaaGreat
open Go.RowKit
theorem ret_int {k : IntKind} {a b : Int} (h : a = b) : Ending.returned (.int k a) = .returned (.int k b) := by rw [h]
theorem ret_bool {a b : Bool} (h : a = b) : Ending.returned (.bool a) = .returned (.bool b) := by rw [h]
theorem keep {p : Prop} (h : p) : Hid p := h
/-- Consecutive cells of one block. -/
def Row (w : World) (b o : Nat) (xs : List Value) : Prop := ∀ j u, xs[j]? = some u → w.cell? ⟨b, o + j, none⟩ = some u
/-- Blocks below a number; blocks between two numbers. -/
abbrev lt (B : Nat) : Nat → Prop := fun b => b < B
abbrev btw (lo hi : Nat) : Nat → Prop := fun b => lo ≤ b ∧ b < hi
/-- The slice value v has n elements of 'size' cells each, which read as xs and lie in one block of S. -/
def Sl (w : World) (S : Nat → Prop) (size : Nat) (v : Value) (n : Nat) (xs : List Value) : Prop :=
  xs.length = n * size ∧ ∃ A c, v = .slice A n c ∧ n ≤ c ∧ (0 < n → ∃ b o, A = some ⟨b, o, none⟩ ∧ S b ∧ Row w b o xs)
section
variable {w w' : World} {B B' size n : Nat} {S S' : Nat → Prop} {v : Value} {xs : List Value}
theorem Row.keep {b o : Nat} (h : Row w b o xs) (hk : ∀ p : Addr, p.block = b → w'.cell? p = w.cell? p) : Row w' b o xs :=
  fun j u hu => (hk _ rfl).trans (h j u hu)
theorem Sl.keep (h : Sl w S size v n xs) (hk : ∀ p : Addr, S p.block → w'.cell? p = w.cell? p) : Sl w' S size v n xs := by
  obtain ⟨hl, A, c, hv, hc, hr⟩ := h
  refine ⟨hl, A, c, hv, hc, fun hn => ?_⟩
  obtain ⟨b, o, hA, hb, hrow⟩ := hr hn
  exact ⟨b, o, hA, hb, hrow.keep fun p hp => hk p (hp ▸ hb)⟩
theorem Sl.mono (h : Sl w S size v n xs) (hS : ∀ b, S b → S' b) : Sl w S' size v n xs := by
  obtain ⟨hl, A, c, hv, hc, hr⟩ := h
  refine ⟨hl, A, c, hv, hc, fun hn => ?_⟩
  obtain ⟨b, o, hA, hb, hrow⟩ := hr hn
  exact ⟨b, o, hA, hS b hb, hrow⟩
theorem Sl.under (h : Sl w S size v n xs) (hb : Below B w w') (hS : ∀ b, S b → b < B) : Sl w' S size v n xs := h.keep fun _ hp => hb.cell (hS _ hp)
theorem Sl.grown {row : Option Nat} (h : Sl w S size v n xs) (hg : w.grownBy w' row) (hS : ∀ b, S b → b < w.heap.size ∧ some b ≠ row) : Sl w' S size v n xs :=
  h.keep fun p hp => World.cell?_of_block (hg.block p.block (hS _ hp).1 (hS _ hp).2)
theorem Sl.below (h : Sl w (lt B) size v n xs) (hb : Below B' w w') (hB : B ≤ B') : Sl w' (lt B) size v n xs := h.keep fun _ hp => hb.cell (Nat.lt_of_lt_of_le hp hB)
theorem Sl.more (h : Sl w (lt B) size v n xs) (hB : B ≤ B') : Sl w (lt B') size v n xs := h.mono fun _ hb => Nat.lt_of_lt_of_le hb hB
theorem Sl.len (h : Sl w S size v n xs) : xs.length = n * size := h.1
theorem Sl.form (h : Sl w S size v n xs) : ∃ A c, v = .slice A n c ∧ n ≤ c ∧ Sl w S size (.slice A n c) n xs := by
  have h' := h
  obtain ⟨_, A, c, hv, hc, _⟩ := h'
  exact ⟨A, c, hv, hc, hv ▸ h⟩
theorem Sl.nil (w : World) (S : Nat → Prop) (size : Nat) (A : Option Addr) (c : Nat) : Sl w S size (.slice A 0 c) 0 [] := ⟨by simp, A, c, rfl, Nat.zero_le _, fun h => absurd h (by omega)⟩
/-- The cell j of a slice. -/
theorem Sl.cellAt {A : Option Addr} {c j : Nat} (h : Sl w S size (.slice A n c) n xs) (hk : j < n * size) :
    ∃ b o u, A = some ⟨b, o, none⟩ ∧ S b ∧ xs[j]? = some u ∧ w.cell? ⟨b, o + j, none⟩ = some u := by
  obtain ⟨hl, A', c', hv, hc, hr⟩ := h
  obtain ⟨b, o, hA, hb, hrow⟩ := hr (by rcases Nat.eq_zero_or_pos n with h0 | h0; · subst h0; omega
                                        · exact h0)
  injection hv with h1 h2 h3
  subst h1
  have hkl : j < xs.length := by omega
  exact ⟨b, o, xs[j], hA, hb, List.getElem?_eq_getElem hkl, hrow j _ (List.getElem?_eq_getElem hkl)⟩
/-- The element k of a slice of one-cell elements. -/
theorem Sl.at_ {A : Option Addr} {c k : Nat} (h : Sl w S 1 (.slice A n c) n xs) (hk : k < n) :
    ∃ b o u, A = some ⟨b, o, none⟩ ∧ S b ∧ xs[k]? = some u ∧ w.cell? ⟨b, o + k, none⟩ = some u := h.cellAt (by omega)
/-- The address of a slice that is not empty, and all its cells. -/
theorem Sl.row {A : Option Addr} {c : Nat} (h : Sl w S size (.slice A n c) n xs) (hn : 0 < n) : ∃ b o, A = some ⟨b, o, none⟩ ∧ S b ∧ Row w b o xs := by
  obtain ⟨hl, A', c', hv, hc, hr⟩ := h
  obtain ⟨b, o, hA, hb, hrow⟩ := hr hn
  injection hv with h1 h2 h3
  subst h1
  exact ⟨b, o, hA, hb, hrow⟩
theorem Sl.take {A : Option Addr} {c k : Nat} (h : Sl w S size (.slice A n c) n xs) (hk : k ≤ n) : Sl w S size (.slice A k c) k (xs.take (k * size)) := by
  have hl := h.1
  obtain ⟨_, A', c', hv, hc, hr⟩ := h
  injection hv with h1 h2 h3
  subst h1 h3
  refine ⟨by rw [List.length_take, hl, Nat.min_eq_left (Nat.mul_le_mul_right _ hk)], A, c, rfl, by omega, fun hn => ?_⟩
  obtain ⟨b, o, hA, hb, hrow⟩ := hr (by omega)
  refine ⟨b, o, hA, hb, fun j u hu => hrow j u ?_⟩
  rw [List.getElem?_take] at hu
  split at hu
  · exact hu
  · cases hu
theorem Sl.drop {A : Option Addr} {c k : Nat} (h : Sl w S size (.slice A n c) n xs) (hk : k ≤ n) :
    Sl w S size (.slice (if c = k then A else A.map (·.add (k * size))) (n - k) (c - k)) (n - k) (xs.drop (k * size)) := by
  have hl := h.1
  obtain ⟨_, A', c', hv, hc, hr⟩ := h
  injection hv with h1 h2 h3
  subst h1 h3
  refine ⟨by rw [List.length_drop, hl, Nat.sub_mul], _, _, rfl, by omega, fun hn => ?_⟩
  obtain ⟨b, o, hA, hb, hrow⟩ := hr (by omega)
  subst hA
  refine ⟨b, o + k * size, ?_, hb, fun j u hu => ?_⟩
  · rw [if_neg (by omega)]
    show some ((⟨b, o, none⟩ : Addr).add (k * size)) = _
    rw [Addr.add_lit]
  · rw [List.getElem?_drop] at hu
    have := hrow (k * size + j) u hu
    rwa [← Nat.add_assoc] at this
theorem Sl.of_own_btw {base e : Nat} (h : w.ownsRow base e size v n xs) : Sl w (btw base w.heap.size) size v n xs := by
  refine ⟨h.1, ?_⟩
  rcases h.2 with ⟨hv, hn⟩ | ⟨g, cap, cur, hv, hb, hg, hnc, _⟩
  · subst hn; exact ⟨none, 0, hv, Nat.le_refl _, fun h => absurd h (by omega)⟩
  · refine ⟨_, cap, hv, hnc, fun _ => ⟨g, 0, rfl, ⟨hb, (Array.getElem?_eq_some_iff.1 hg).1⟩, fun j u hu => ?_⟩⟩
    have hc := h.cells (g := g) (by rw [hv]; rfl) j u hu
    have hadd : (⟨g, 0, none⟩ : Addr).add j = ⟨g, 0 + j, none⟩ := by unfold Addr.add; split <;> simp_all
    rw [← hadd]; exact hc
theorem Sl.of_own {base e : Nat} (h : w.ownsRow base e size v n xs) : Sl w (lt w.heap.size) size v n xs := (Sl.of_own_btw h).mono fun _ hb => hb.2
end
/-- A block that is known whole. -/
def Blk (w : World) (g : Nat) (t : TypeId) (cs : Array Value) : Prop := w.heap[g]? = some (.cells cs t (0, 0))
section
variable {w w' : World} {g : Nat} {t : TypeId} {cs : Array Value}
theorem Blk.lt (h : Blk w g t cs) : g < w.heap.size := (Array.getElem?_eq_some_iff.1 h).1
theorem Blk.cell (h : Blk w g t cs) (i : Nat) : w.cell? ⟨g, i, none⟩ = cs[i]? := cell_of_row w g i cs t (0, 0) h
theorem Blk.frozen (h : Blk w g t cs) (i : Nat) : w.frozen? ⟨g, i, none⟩ = false := frozen_of_row w g i cs t h
theorem Blk.cell2 {x y : Value} (h : Blk w g t #[x, y]) : w.cell? ⟨g, 0, none⟩ = some x ∧ w.cell? ⟨g, 1, none⟩ = some y := ⟨by rw [h.cell]; rfl, by rw [h.cell]; rfl⟩
theorem Blk.new (w : World) (t : TypeId) (cs : Array Value) : Blk (w.alloc (.cells cs t)) w.heap.size t cs := heap_alloc_new w _
theorem Blk.alloc (h : Blk w g t cs) (o : Obj) : Blk (w.alloc o) g t cs := (Below.heap_alloc w o g h.lt).trans h
theorem Blk.set_ (h : Blk w g t cs) (i : Nat) (u : Value) : Blk (w.setCell ⟨g, i, none⟩ u) g t (cs.setIfInBounds i u) := heap_setCell_same w g i cs t u h
theorem Blk.far (h : Blk w g t cs) {p : Addr} (hp : g ≠ p.block) (u : Value) : Blk (w.setCell p u) g t cs := (Below.heap_setCell w p u g hp).trans h
theorem Blk.below {B : Nat} (h : Blk w g t cs) (hb : Below B w w') (hg : g < B) : Blk w' g t cs := (hb.block g hg).trans h
theorem Blk.grown {row : Option Nat} (h : Blk w g t cs) (hb : w.grownBy w' row) (hg : some g ≠ row) : Blk w' g t cs := (hb.block g h.lt hg).trans h
end
theorem grownBy_trans {a b c : World} {row : Option Nat} (h : a.grownBy b row) (k : b.grownBy c row) : a.grownBy c row :=
  ⟨k.os.trans h.os, k.tape.trans h.tape, k.output.trans h.output, Nat.le_trans h.size k.size, fun i hi hne => (k.block i (Nat.lt_of_lt_of_le hi h.size) hne).trans (h.block i hi hne)⟩
theorem below_of_none {a w : World} (h : a.grownBy w none) : Below a.heap.size a w := ⟨h.os, h.tape, h.output, h.size, fun k hk => h.block k hk (by simp)⟩
theorem grownBy_of_below {a w : World} (h : Below a.heap.size a w) (row : Option Nat) : a.grownBy w row := ⟨h.os, h.tape, h.output, h.size, fun i hi _ => h.block i hi⟩
theorem grownBy_drew {a w : World} {row : Option Nat} (h : a.grownBy w row) : a.grownBy w.drew row := ⟨h.os, h.tape, h.output, h.size, h.block⟩
theorem grownBy_drewN {a w : World} {row : Option Nat} (h : a.grownBy w row) (n : Nat) : a.grownBy (w.drewN n) row := ⟨h.os, h.tape, h.output, h.size, h.block⟩
theorem grownBy_set {a w : World} {g : Nat} (h : a.grownBy w (some g)) (i : Nat) (u : Value) : a.grownBy (w.setCell ⟨g, i, none⟩ u) (some g) :=
  ⟨h.os, h.tape, h.output, by simpa [World.setCell] using h.size, fun k hk hne => (Below.heap_setCell w _ u k (by intro e; exact hne (by rw [e]))).trans (h.block k hk hne)⟩
theorem grownBy_below {a b c : World} {row : Option Nat} (h : a.grownBy b row) (k : Below a.heap.size b c) : a.grownBy c row :=
  ⟨k.os.trans h.os, k.tape.trans h.tape, k.output.trans h.output, Nat.le_trans h.size k.size, fun i hi hne => (k.block i hi).trans (h.block i hi hne)⟩
theorem own_grown {w w' : World} {base e size n g : Nat} {v : Value} {xs : List Value} (h : w.ownsRow base e size v n xs) (hg : w.grownBy w' (some g)) (hgb : g < base) : w'.ownsRow base e size v n xs :=
  h.kept hg (Or.inr (fun e => by have := (h.lt g e).1; omega))
theorem own_snoc {α : Type} (f : α → Value) {w : World} {base e : Nat} {v : Value} (l : List α) (x : α) (h : w.ownsRow base e 1 v (l.length + 1) (l.map f ++ [f x])) : w.ownsRow base e 1 v (l ++ [x]).length ((l ++ [x]).map f) := by
  rw [List.map_append, List.length_append]; exact h
theorem below_grown {B g : Nat} {a w w' : World} (h : Below B a w) (hg : w.grownBy w' (some g)) (hB : B ≤ w.heap.size) (hgB : B ≤ g) : Below B a w' :=
  h.grown hg hB (fun k hk => by injection hk with hk; omega)
theorem below_drewN {B : Nat} {a w : World} (h : Below B a w) (n : Nat) : Below B a (w.drewN n) := ⟨h.os, h.tape, h.output, h.size, h.block⟩
theorem bchain {a b c : World} (h : Below a.heap.size a b) (k : Below b.heap.size b c) : Below a.heap.size a c := h.trans (k.mono h.size)
/-- '[]byte(s)' at a list of operations: a new block, of which the first cells are known. -/
theorem wpList_bytes {P : Program} {ops : Array Oper} {rest : List Oper} {o : Oper} {a : Act} {w : World} {Q : Exit → Act → World → Prop} (hgd : o.guard = none) (src dst e : TypeId) (x : Operand)
    (ho : o.op = .convert src dst x) (s : ByteArray) (hx : a.eval x = .string s) (hs : P.underlying src = some .string) (hd : P.underlying dst = some (.slice e)) (he : P.underlying e = some (.int .u8))
    (h : ∀ c w1, s.size ≤ c → Below w.heap.size w w1 → w.heap.size < w1.heap.size → Row w1 w.heap.size 0 (s.data.toList.map fun b => .int .u8 b.toNat) → wpList P ops Q rest (a.put o.dst (.slice (some ⟨w.heap.size, 0, none⟩) s.size c)) w1) :
    wpList P ops Q (o :: rest) a w := by
  refine wpList_plain hgd fun K hK => ?_
  unfold Oper.wp execOp
  simp only [ho, hx, Sem.run_bind, Sem.run_pure, run_bytes_of_string w src dst e s hs hd he, Result.andThen_ok]
  refine hK _ _ (h _ _ (grownCap_ge _ _ _ _) ?_ (by simp) ?_)
  · exact ((Below.refl _ w).drew).alloc (by simp) _
  · intro j u hu
    have hj : j < s.data.size := by
      have := (List.getElem?_eq_some_iff.1 hu).1
      simpa using this
    have hc := World.cell?_alloc_mark w.drew (bytesRow s (grownCap w s.size 0 e)) e ((bytesRow s (grownCap w s.size 0 e)).size, (bytesRow s (grownCap w s.size 0 e)).size + 1) j
    rw [bytesRow_at s _ j hj] at hc
    simp only [Nat.zero_add]
    simp [List.getElem?_eq_getElem (show j < s.data.toList.length by simpa using hj)] at hu
    rw [← hu]
    exact hc
/-- What the program's table says of a slice type t: its element type e, the cells and bytes of an element, its zero value. -/
structure Elem (P : Program) (t e size bytes : Nat) (z : Value) : Prop where
  ht : P.underlying t = some (.slice e)
  hi : (P.info? e).map (fun i => (i.zero, i.size, i.bytes)) = some (some z, size, bytes)
  hz : z.cells.size = size
  hp : 0 < size
theorem foldl_set_all (cs : List Value) : ∀ (k : Nat) (pre : List Value) (suf : List Value), pre.length = k → suf.length = cs.length →
    (cs.zipIdx k).foldl (fun (a : Array Value) (p : Value × Nat) => a.setIfInBounds p.2 p.1) (pre ++ suf).toArray = (pre ++ cs).toArray := by
  induction cs with
  | nil => intro k pre suf _ h; simp at h; subst h; simp
  | cons c cs ih =>
    intro k pre suf hk hl
    match suf, hl with
    | x :: suf, hl =>
      simp only [List.zipIdx_cons, List.foldl_cons]
      have e : (pre ++ x :: suf).toArray.setIfInBounds k c = ((pre ++ [c]) ++ suf).toArray := by
        subst hk
        apply Array.ext'
        simp
      rw [e, ih (k + 1) (pre ++ [c]) suf (by simp [hk]) (by simpa using hl)]
      simp
theorem run_buildSlice_one {P : Program} {t e size bytes : Nat} {z : Value} (E : Elem P t e size bytes z) (u : Value) (hu : u.cells.size = size) (hs : size ≤ 16777216) (w : World) :
    (Instr.buildSlice t 1 #[(0, u)]).run P w = .ok (.slice (some ⟨w.heap.size, 0, none⟩) 1 1) (w.alloc (.cells u.cells e)) := by
  obtain ⟨i, hi, hz0, hz1, hz2⟩ := info_parts E.hi
  have hfill : Instr.fill (fun i => some (i * size, size)) ((Array.range (1 * size)).map (z.cells[· % z.cells.size]!)) [(0, u)] = some u.cells := by
    unfold Instr.fill
    simp only [Nat.zero_mul, Nat.one_mul]
    rw [if_neg (by simp [hu])]
    unfold Instr.fill
    congr 1
    have h := foldl_set_all u.cells.toList 0 [] ((Array.range size).map (z.cells[· % z.cells.size]!)).toList rfl (by simp [hu])
    simp only [List.nil_append, Array.toArray_toList] at h
    rw [← Array.foldl_toList, Array.toList_zipIdx]
    simpa using h
  simp [Instr.buildSlice, run_underlying E.ht, sizeOf, typeInfo, hi, hz1, zeroValue, hz0, newRow]
  rw [if_neg (by omega), if_neg (by have := E.hp; omega)]
  simp only [Nat.one_mul] at hfill
  simp [hfill]
/-- 'out = append(out, x)': the two operations (the new element's own block, the append) in one law. -/
theorem wpList_push {P : Program} {t e size bytes : Nat} {z : Value} (E : Elem P t e size bytes z) {ops : Array Oper} {rest : List Oper} {o1 o2 : Oper} {a : Act} {w : World} {Q : Exit → Act → World → Prop}
    (hg1 : o1.guard = none) (hg2 : o2.guard = none) (x s : Operand) (d : Tmp) (hd : o1.dst = some d) (ho1 : o1.op = .buildSlice t 1 #[(0, x)])
    (ho2 : o2.op = .call { callee := .builtin .append, args := #[s, .tmp d], argTypes := #[t, t] })
    (base : Nat) (v u : Value) (n : Nat) (xs : List Value) (hx : a.eval x = u) (hs : ∀ q, (a.put (some d) q).eval s = v) (hdv : ∀ q, (a.put (some d) q).eval (.tmp d) = q)
    (hown : w.ownsRow base e size v n xs) (hu : u.cells.size = size) (h1 : ∀ c ∈ u.cells.toList, c.oneCell' = true) (hsz : size ≤ 16777216)
    (h63 : n + 1 ≤ maxLen) (hby : (n + 1) * bytes ≤ 140737488355328) (hbase : base ≤ w.heap.size)
    (h : ∀ g cap w', w'.ownsRow base e size (.slice (some ⟨g, 0, none⟩) (n + 1) cap) (n + 1) (xs ++ u.cells.toList) → Below base w w' → w.grownBy w' v.ownBlock → (v.ownBlock = some g ∨ w.heap.size ≤ g) → g < w'.heap.size →
      wpList P ops Q rest ((a.put (some d) (.slice (some ⟨w.heap.size, 0, none⟩) 1 1)).put o2.dst (.slice (some ⟨g, 0, none⟩) (n + 1) cap)) w') :
    wpList P ops Q (o1 :: o2 :: rest) a w := by
  obtain ⟨i, hi, hz0, hz1, hz2⟩ := info_parts E.hi
  refine wpList_plain hg1 fun K hK => ?_
  unfold Oper.wp execOp
  simp only [ho1, hx, Sem.run_bind, Sem.run_pure, List.map_toArray, List.map_cons, List.map_nil, run_buildSlice_one E u hu hsz, Result.andThen_ok]
  rw [Oper.upon_value, hd]
  refine hK _ _ ?_
  have hsz1 : (w.alloc (.cells u.cells e)).heap.size = w.heap.size + 1 := by simp
  refine wpList_append_lies _ hg2 s (.tmp d) t ho2 base e i z size bytes E.ht hi hz0 hz1 hz2 E.hz E.hp v n xs (hs _) (hown.alloc _) ⟨w.heap.size, 0, none⟩ 1 1 u.cells.toList (hdv _) (by simp [hu]) ?_ h1 (by omega) h63 hby (by omega) (w.heap.size + 1) hsz1 ?_
  · intro j c hc
    rw [Addr.add_lit]
    have hc' : u.cells[j]? = some c := by simpa using hc
    simpa using hc'
  · intro g cap w' h2 h3 h4 h5
    have hg : w.grownBy w' v.ownBlock := ⟨h3.os, h3.tape, h3.output, by have := h3.size; omega, fun k hk hne => (h3.block k (by omega) hne).trans (Below.heap_alloc w _ k hk)⟩
    have hb : Below base w w' := ⟨hg.os, hg.tape, hg.output, hg.size, fun k hk => hg.block k (by omega) (fun e => by have := (hown.lt k e.symm).1; omega)⟩
    exact h g cap w' h2 hb hg (h4.imp id (fun e => by omega)) h5
/-- 'make([]T, n)', elements of one cell. -/
theorem wpList_make {P : Program} {t e bytes : Nat} {z : Value} (E : Elem P t e 1 bytes z) (hz : z.cells = #[z]) {ops : Array Oper} {rest : List Oper} {o : Oper} {a : Act} {w : World} {Q : Exit → Act → World → Prop}
    (hg : o.guard = none) (l c : Operand) (hop : o.op = Op.makeSlice t l c) (L C : Int) (kl kc : IntKind) (n : Nat) (hl : a.eval l = .int kl L) (hc : a.eval c = .int kc C) (hL : L = (n : Int)) (hC : C = (n : Int))
    (b2 : bytes * n ≤ 281474976710656) (b3 : n ≤ maxLen)
    (h : ∀ w', w'.ownsRow w.heap.size e 1 (.slice (some ⟨w.heap.size, 0, none⟩) n n) n (List.replicate n z) → Below w.heap.size w w' → w'.heap.size = w.heap.size + 1 →
      wpList P ops Q rest (a.put o.dst (.slice (some ⟨w.heap.size, 0, none⟩) n n)) w') :
    wpList P ops Q (o :: rest) a w := by
  obtain ⟨i, hi, hz0, hz1, hz2⟩ := info_parts E.hi
  refine wpList_plain hg fun K hK => ?_
  have hb : (i.bytes : Int) * (n : Int) ≤ 281474976710656 := by
    have h : ((bytes * n : Nat) : Int) ≤ 281474976710656 := by omega
    rw [hz2]
    rwa [Int.natCast_mul] at h
  have hr := run_make (P := P) w t e i z E.ht hi hz0 kl kc n n (by omega) (Int.le_refl _) hb (by unfold maxLen at b3; omega)
  simp only [Int.toNat_natCast, hz1, hz, Nat.mul_one] at hr
  subst hL
  subst hC
  unfold Oper.wp execOp
  simp only [hop, hl, hc, Sem.run_bind, Sem.run_pure, hr, Result.andThen_ok]
  refine hK _ _ (h _ ?_ ((Below.refl _ w).alloc (Nat.le_refl _) _) (by simp))
  have := World.ownsRow_lit (base := w.heap.size) (e := e) (size := 1) w (madeCells #[z] n) n (Nat.le_refl _) b3 (by simp [size_madeCells])
  rwa [toList_madeCells_one] at this
theorem cells_one {u : Value} (h : u.oneCell' = true) : u.cells = #[u] := by cases u <;> simp_all [Value.oneCell', Value.cells]
/-- 'out = append(out, x)', x of one cell. -/
theorem wpList_push1 {P : Program} {t e bytes : Nat} {z : Value} (E : Elem P t e 1 bytes z) {ops : Array Oper} {rest : List Oper} {o1 o2 : Oper} {a : Act} {w : World} {Q : Exit → Act → World → Prop}
    (hg1 : o1.guard = none) (hg2 : o2.guard = none) (x s : Operand) (d : Tmp) (hd : o1.dst = some d) (ho1 : o1.op = .buildSlice t 1 #[(0, x)])
    (ho2 : o2.op = .call { callee := .builtin .append, args := #[s, .tmp d], argTypes := #[t, t] })
    (base : Nat) (v u : Value) (n : Nat) (xs : List Value) (hx : a.eval x = u) (hs : ∀ q, (a.put (some d) q).eval s = v) (hdv : ∀ q, (a.put (some d) q).eval (.tmp d) = q)
    (hown : w.ownsRow base e 1 v n xs) (hu : u.oneCell' = true)
    (h63 : n + 1 ≤ maxLen) (hby : (n + 1) * bytes ≤ 140737488355328) (hbase : base ≤ w.heap.size)
    (h : ∀ g cap w', w'.ownsRow base e 1 (.slice (some ⟨g, 0, none⟩) (n + 1) cap) (n + 1) (xs ++ [u]) → Below base w w' → w.grownBy w' v.ownBlock → (v.ownBlock = some g ∨ w.heap.size ≤ g) → g < w'.heap.size →
      wpList P ops Q rest ((a.put (some d) (.slice (some ⟨w.heap.size, 0, none⟩) 1 1)).put o2.dst (.slice (some ⟨g, 0, none⟩) (n + 1) cap)) w') :
    wpList P ops Q (o1 :: o2 :: rest) a w := by
  have hc := cells_one hu
  refine wpList_push E hg1 hg2 x s d hd ho1 ho2 base v u n xs hx hs hdv hown (by rw [hc]; rfl) (by rw [hc]; intro c hc'; simp at hc'; rw [hc']; exact hu) (by omega) h63 hby hbase ?_
  rw [hc]
  exact h
theorem bcell {B : Nat} {W w1 : World} (hb : Below B W w1) : (∀ b o, b < B → w1.cell? ⟨b, o, none⟩ = W.cell? ⟨b, o, none⟩) ∧ (∀ b o, b < B → w1.frozen? ⟨b, o, none⟩ = W.frozen? ⟨b, o, none⟩) :=
  ⟨fun b o h => hb.cell (p := ⟨b, o, none⟩) h, fun b o h => hb.frozen (p := ⟨b, o, none⟩) h⟩
theorem own_base {w : World} {base base' e size n : Nat} {v : Value} {xs : List Value} (h : w.ownsRow base e size v n xs) (hb : base' ≤ base) : w.ownsRow base' e size v n xs := by
  refine ⟨h.1, h.2.imp id ?_⟩
  rintro ⟨g, cap, cur, hv, hg, r⟩
  exact ⟨g, cap, cur, hv, by omega, r⟩
/-- What is kept over a region: below B the cells are those of W. -/
abbrev Held (B : Nat) (W w' : World) : Prop := (∀ b o, b < B → w'.cell? ⟨b, o, none⟩ = W.cell? ⟨b, o, none⟩) ∧ (∀ b o, b < B → w'.frozen? ⟨b, o, none⟩ = W.frozen? ⟨b, o, none⟩) ∧ Below B W w'
theorem Held.refl (B : Nat) (W : World) : Held B W W := ⟨fun _ _ _ => rfl, fun _ _ _ => rfl, Below.refl _ _⟩
theorem Held.start (B : Nat) (W : World) : Held B W W.drew := ⟨fun _ _ _ => rfl, fun _ _ _ => rfl, (Below.refl _ _).drew⟩
theorem Held.of_below {B : Nat} {W a : World} (h : Below B W a) : Held B W a :=
  ⟨fun b o hb => h.cell (p := ⟨b, o, none⟩) hb, fun b o hb => h.frozen (p := ⟨b, o, none⟩) hb, h⟩
theorem Held.call {B : Nat} {W a b : World} (h : Held B W a) (hb : Below a.heap.size a b) (hB : B ≤ W.heap.size) : Held B W b := by
  have hs := h.2.2.size
  exact Held.of_below (h.2.2.trans (hb.mono (by omega)))
theorem Held.set_ {B : Nat} {W a : World} (h : Held B W a) {p : Addr} (hp : B ≤ p.block) (u : Value) : Held B W (a.setCell p u) := Held.of_below (h.2.2.setCell hp u)
theorem Held.alloc {B : Nat} {W a : World} (h : Held B W a) (o : Obj) (hB : B ≤ W.heap.size) : Held B W (a.alloc o) :=
  h.call ((Below.refl _ a).alloc (Nat.le_refl _) o) hB
theorem Held.realloc {B : Nat} {W a : World} {o : Obj} (h : Held B W (a.alloc o)) (o' : Obj) (hB : B ≤ a.heap.size) : Held B W (a.alloc o') :=
  Held.of_below ⟨h.2.2.os, h.2.2.tape, h.2.2.output, by have := h.2.2.size; simpa using this, fun k hk => by
    rw [Below.heap_alloc a o' k (by omega), ← Below.heap_alloc a o k (by omega)]; exact h.2.2.block k hk⟩
/-- 'append(out, xs...)', out nil or owned, xs whatever slice reads as a list. -/
theorem run_appendS {P : Program} {t e size bytes : Nat} {z : Value} (E : Elem P t e size bytes z) (ty : TypeId) (w : World) (base : Nat) (v : Value) (n : Nat) (xs : List Value) (hown : w.ownsRow base e size v n xs)
    (S : Nat → Prop) (vx : Value) (m : Nat) (news : List Value) (hsrc : Sl w S size vx m news) (h1 : ∀ u ∈ news, u.oneCell' = true)
    (h63 : n + m ≤ maxLen) (hby : (n + m) * bytes ≤ 140737488355328) (hbase : base ≤ w.heap.size) :
    ∃ v' w', (Builtin.append_ #[t, t] ty #[v, vx]).run P w = .ok v' w' ∧ w'.ownsRow base e size v' (n + m) (xs ++ news) ∧ Below base w w' ∧ w.grownBy w' v.ownBlock := by
  obtain ⟨i, hi, hz0, hz1, hz2⟩ := info_parts E.hi
  obtain ⟨A, c, rfl, hc, hsrc⟩ := hsrc.form
  have key : ∀ v' w', w'.ownsRow base e size v' (n + m) (xs ++ news) → w.grownBy w' v.ownBlock → w'.ownsRow base e size v' (n + m) (xs ++ news) ∧ Below base w w' ∧ w.grownBy w' v.ownBlock :=
    fun v' w' h2 hg => ⟨h2, ⟨hg.os, hg.tape, hg.output, hg.size, fun k hk => hg.block k (by omega) (fun e => by have := (hown.lt k e.symm).1; omega)⟩, hg⟩
  rcases Nat.eq_zero_or_pos m with h0 | h0
  · subst h0
    have hn : news = [] := List.eq_nil_of_length_eq_zero (by simpa using hsrc.1)
    subst hn
    have hself : w.ownsRow base e size v (n + 0) (xs ++ []) := by simpa using hown
    rcases A with _ | ad
    · refine ⟨v, w, ?_, key v w hself (World.grownBy.refl _ _)⟩
      rcases hown.2 with ⟨rfl, rfl⟩ | ⟨g, cap, cur, rfl, _, _, hnc, _⟩
      · simp [Builtin.append_, run_underlying E.ht, sizeOf, typeInfo, hi, Builtin.lenOf, Builtin.firstCells]
      · simp [Builtin.append_, run_underlying E.ht, sizeOf, typeInfo, hi, Builtin.lenOf, Builtin.firstCells, hnc, storeCells]
    · obtain ⟨v', w', hr, h2, h3, _⟩ := run_append_own (P := P) w base t ty e i z size bytes E.ht hi hz0 hz1 hz2 E.hz E.hp v n xs hown ad 0 c [] (by simp) (by simp) (by simp) h63 hby hbase
      exact ⟨v', w', hr, key v' w' h2 h3⟩
  · obtain ⟨b, o, rfl, hb, hrow⟩ := hsrc.row h0
    obtain ⟨v', w', hr, h2, h3, _⟩ := run_append_own (P := P) w base t ty e i z size bytes E.ht hi hz0 hz1 hz2 E.hz E.hp v n xs hown ⟨b, o, none⟩ m c news hsrc.1
      (fun j u hu => by rw [Addr.add_lit]; exact hrow j u hu) h1 h63 hby hbase
    exact ⟨v', w', hr, key v' w' h2 h3⟩
theorem wp_appendS {P : Program} {t e size bytes : Nat} {z : Value} (E : Elem P t e size bytes z) {o : Oper} {a : Act} {w : World} {K : Act → World → Prop} {Q : Exit → Act → World → Prop}
    (s x : Operand) (ho : o.op = .call { callee := .builtin .append, args := #[s, x], argTypes := #[t, t] })
    (base : Nat) (v : Value) (n : Nat) (xs : List Value) (hs : a.eval s = v) (hown : w.ownsRow base e size v n xs)
    (S : Nat → Prop) (vx : Value) (m : Nat) (news : List Value) (hx : a.eval x = vx) (hsrc : Sl w S size vx m news) (h1 : ∀ u ∈ news, u.oneCell' = true)
    (h63 : n + m ≤ maxLen) (hby : (n + m) * bytes ≤ 140737488355328) (hbase : base ≤ w.heap.size)
    (h : ∀ v' w', w'.ownsRow base e size v' (n + m) (xs ++ news) → Below base w w' → w.grownBy w' v.ownBlock → K (a.put o.dst v') w') : o.wp P a w K Q := by
  obtain ⟨v', w', hr, h2, h3, h4⟩ := run_appendS E o.type w base v n xs hown S vx m news hsrc h1 h63 hby hbase
  unfold Oper.wp execOp
  simp only [ho, resolve, invoke, builtin, Sem.run_bind, Sem.run_pure, Result.andThen_ok, List.map_toArray, List.map_cons, List.map_nil, hs, hx, hr]
  exact h v' w' h2 h3 h4
theorem wpList_appendS {P : Program} {t e size bytes : Nat} {z : Value} (E : Elem P t e size bytes z) {ops : Array Oper} {rest : List Oper} {o : Oper} {a : Act} {w : World} {Q : Exit → Act → World → Prop} (hgd : o.guard = none)
    (s x : Operand) (ho : o.op = .call { callee := .builtin .append, args := #[s, x], argTypes := #[t, t] })
    (base : Nat) (v : Value) (n : Nat) (xs : List Value) (hs : a.eval s = v) (hown : w.ownsRow base e size v n xs)
    (S : Nat → Prop) (vx : Value) (m : Nat) (news : List Value) (hx : a.eval x = vx) (hsrc : Sl w S size vx m news) (h1 : ∀ u ∈ news, u.oneCell' = true)
    (h63 : n + m ≤ maxLen) (hby : (n + m) * bytes ≤ 140737488355328) (hbase : base ≤ w.heap.size)
    (h : ∀ v' w', w'.ownsRow base e size v' (n + m) (xs ++ news) → Below base w w' → w.grownBy w' v.ownBlock → wpList P ops Q rest (a.put o.dst v') w') : wpList P ops Q (o :: rest) a w :=
  wpList_plain hgd fun _ hK => wp_appendS E s x ho base v n xs hs hown S vx m news hx hsrc h1 h63 hby hbase fun v' w' h2 h3 h4 => hK _ _ (h v' w' h2 h3 h4)
theorem step_appendS {P : Program} {t e size bytes : Nat} {z : Value} (El : Elem P t e size bytes z) {ops : Array Oper} {o : Oper} {a : Act} {w : World} {K : Act → World → Prop} {Q : Exit → Act → World → Prop} {E : Prop} (hgd : o.guard = none)
    (s x : Operand) (ho : o.op = .call { callee := .builtin .append, args := #[s, x], argTypes := #[t, t] })
    (base : Nat) (v : Value) (n : Nat) (xs : List Value) (hs : a.eval s = v) (hown : w.ownsRow base e size v n xs)
    (S : Nat → Prop) (vx : Value) (m : Nat) (news : List Value) (hx : a.eval x = vx) (hsrc : Sl w S size vx m news) (h1 : ∀ u ∈ news, u.oneCell' = true)
    (h63 : n + m ≤ maxLen) (hby : (n + m) * bytes ≤ 140737488355328) (hbase : base ≤ w.heap.size)
    (h : ∀ v' w', w'.ownsRow base e size v' (n + m) (xs ++ news) → Below base w w' → w.grownBy w' v.ownBlock → K (a.put o.dst v') w') :
    if Region.wanted o (yielded ops a.tmps) = true then Oper.wp P o a w K Q else E := by
  rw [if_pos (by simp [Region.wanted, hgd])]
  exact wp_appendS El s x ho base v n xs hs hown S vx m news hx hsrc h1 h63 hby hbase h
theorem oneCells {α : Type} (f : α → Value) (hf : ∀ x, (f x).oneCell' = true) (l : List α) : ∀ u ∈ l.map f, u.oneCell' = true := by
  intro u hu
  obtain ⟨x, _, rfl⟩ := List.mem_map.1 hu
  exact hf x
/-- An empty row that is not nil. -/
theorem own_empty (w : World) (e size : Nat) : (w.alloc (.cells #[] e)).ownsRow w.heap.size e size (.slice (some ⟨w.heap.size, 0, none⟩) 0 0) 0 [] :=
  World.ownsRow_made w #[] 0 (Nat.le_refl _) (by unfold maxLen; omega) (by simp)
end Go.Proofs.YtigogjlbemkhdaaGreat
