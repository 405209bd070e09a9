/- What manifest.Decode's variables hold; its result. -/
import Derived.Test.YtkjhnipjhefndaaParse
import Derived.Test.YtkjhnipjhefndaaLawEnc
import Derived.Deep.RegionLaw
import Derived.RangeFuncBox
namespace Go.Proofs.Ytkjhnipjhefndaa
open Go.RowKit

theorem rint_ex (B gr : Nat) (v : Value) (l : List UInt8) (bad : Bool) (w : World) (h : Rd w B gr v l bad) (hm : l.length ≤ 1000000) :
    Calls Try.prog 60 #[.pointer (some ⟨gr, 0, none⟩)] w fun e w' => ∃ a : I1, Hid (a = intS l bad) ∧ e = .returned (.int .i64 a.1) ∧ ∃ v', Rd w' B gr v' a.2.1 a.2.2 ∧ w.grownBy w' (some gr) ∧ a.2.1.length ≤ 1000000 := by
  refine (rint_any B gr v l bad w h hm).mono ?_
  rintro e w1 ⟨rfl, v1, hR1, hg1⟩
  exact ⟨_, rfl, rfl, v1, hR1, hg1, Nat.le_trans (intS_le l bad) hm⟩
/-- What Decode's variables hold in its first loop: the result's cell p, the reader gr, the manifest gm with its segments. -/
structure Dc (wr : World) (p gm gr base : Nat) (nu nx jo : Int) (vS : Value) (ls : List Seg) : Prop where
  bp : Blk wr p 28 #[.int .i64 0, .int .i64 0, .int .i64 0, .slice none 0 0, .slice none 0 0, .slice none 0 0, .slice none 0 0]
  bm : Blk wr gm 28 #[.int .i64 nu, .int .i64 nx, .int .i64 jo, vS, .slice none 0 0, .slice none 0 0, .slice none 0 0]
  s : wr.ownsRow base 46 7 vS ls.length (ls.flatMap Seg.vals)
  z : base ≤ wr.heap.size
/-- The same in its second loop: the segments are read only, the marks grow. -/
structure Dc2 (wr : World) (p gm gr base base2 : Nat) (nu nx jo : Int) (vS vM : Value) (ls : List Seg) (lm : List Mk) : Prop where
  bp : Blk wr p 28 #[.int .i64 0, .int .i64 0, .int .i64 0, .slice none 0 0, .slice none 0 0, .slice none 0 0, .slice none 0 0]
  bm : Blk wr gm 28 #[.int .i64 nu, .int .i64 nx, .int .i64 jo, vS, vM, .slice none 0 0, .slice none 0 0]
  s : Sl wr (btw base base2) 7 vS ls.length (ls.flatMap Seg.vals)
  m_ : wr.ownsRow base2 72 3 vM lm.length (lm.flatMap Mk.vals)
  z : base2 ≤ wr.heap.size
structure Ord3 (p gm gr base : Nat) : Prop where
  a : p < gr
  b : gr < gm
  c : gm < base
section
variable {wr w' : World} {p gm gr base base2 : Nat} {nu nx jo : Int} {vS vM v' : Value} {ls : List Seg} {lm : List Mk}
theorem Dc.keepR (h : Dc wr p gm gr base nu nx jo vS ls) (o : Ord3 p gm gr base) (hg : wr.grownBy w' (some gr)) : Dc w' p gm gr base nu nx jo vS ls :=
  ⟨h.bp.grown hg (fun e => by injection e; have := o.a; omega), h.bm.grown hg (fun e => by injection e; have := o.b; omega), own_grown h.s hg (by have := o.b; have := o.c; omega), Nat.le_trans h.z hg.size⟩
theorem Dc.drew (h : Dc wr p gm gr base nu nx jo vS ls) : Dc wr.drew p gm gr base nu nx jo vS ls :=
  ⟨h.bp, h.bm, h.s.kept (grownBy_drew (World.grownBy.refl _ none)) (by cases hv : vS.ownBlock <;> simp), h.z⟩
theorem Dc.put (h : Dc wr p gm gr base nu nx jo vS ls) (o : Ord3 p gm gr base) (x : Seg) (ob : Obj) (hb : Below base (wr.alloc ob) w') (hw : w'.ownsRow base 46 7 v' (ls.length + 1) (ls.flatMap Seg.vals ++ x.vals)) :
    Dc (w'.setCell ⟨gm, 3, none⟩ v') p gm gr base nu nx jo v' (ls ++ [x]) := by
  have hg : w'.grownBy (w'.setCell ⟨gm, 3, none⟩ v') (some gm) := grownBy_set (World.grownBy.refl _ _) _ _
  have h1 := o.a
  have h2 := o.b
  have h3 := o.c
  refine ⟨((h.bp.alloc ob).below hb (by omega)).grown hg (fun e => by injection e; omega), ((h.bm.alloc ob).below hb h3).set_ 3 _, ?_, ?_⟩
  · rw [List.length_append, List.flatMap_append]
    have := own_grown hw hg h3
    simpa using this
  · have := hb.size
    have := h.z
    have := hg.size
    simp at *
    omega
theorem Dc2.keepR (h : Dc2 wr p gm gr base base2 nu nx jo vS vM ls lm) (o : Ord3 p gm gr base) (hb : base ≤ base2) (hg : wr.grownBy w' (some gr)) : Dc2 w' p gm gr base base2 nu nx jo vS vM ls lm := by
  have h1 := o.a
  have h2 := o.b
  have h3 := o.c
  have hz := h.z
  exact ⟨h.bp.grown hg (fun e => by injection e; omega), h.bm.grown hg (fun e => by injection e; omega), h.s.grown hg (fun k hk => ⟨Nat.lt_of_lt_of_le hk.2 hz, fun e => by injection e with e; have := hk.1; omega⟩), own_grown h.m_ hg (by omega), Nat.le_trans hz hg.size⟩
theorem Dc2.drew (h : Dc2 wr p gm gr base base2 nu nx jo vS vM ls lm) : Dc2 wr.drew p gm gr base base2 nu nx jo vS vM ls lm :=
  ⟨h.bp, h.bm, h.s, h.m_.kept (grownBy_drew (World.grownBy.refl _ none)) (by cases hv : vM.ownBlock <;> simp), h.z⟩
theorem Dc2.put (h : Dc2 wr p gm gr base base2 nu nx jo vS vM ls lm) (o : Ord3 p gm gr base) (hbb : base ≤ base2) (x : Mk) (ob : Obj) (hb : Below base2 (wr.alloc ob) w') (hw : w'.ownsRow base2 72 3 v' (lm.length + 1) (lm.flatMap Mk.vals ++ x.vals)) :
    Dc2 (w'.setCell ⟨gm, 4, none⟩ v') p gm gr base base2 nu nx jo vS v' ls (lm ++ [x]) := by
  have hg : w'.grownBy (w'.setCell ⟨gm, 4, none⟩ v') (some gm) := grownBy_set (World.grownBy.refl _ _) _ _
  have h1 := o.a
  have h2 := o.b
  have h3 := o.c
  have hz := h.z
  have hsz := hb.size
  have e1 : (wr.alloc ob).heap.size = wr.heap.size + 1 := by simp
  have hsa : Sl (wr.alloc ob) (btw base base2) 7 vS ls.length (ls.flatMap Seg.vals) := h.s.keep fun q hq => ((Below.refl wr.heap.size wr).alloc (Nat.le_refl _) ob).cell (Nat.lt_of_lt_of_le hq.2 hz)
  refine ⟨((h.bp.alloc ob).below hb (by omega)).grown hg (fun e => by injection e; omega), ((h.bm.alloc ob).below hb (by omega)).set_ 4 _, ?_, ?_, by have := hg.size; omega⟩
  · exact (hsa.under hb (fun k hk => hk.2)).grown hg (fun k hk => ⟨by have := hk.2; omega, fun e => by injection e with e; have := hk.1; omega⟩)
  · rw [List.length_append, List.flatMap_append]
    have := own_grown hw hg (by omega)
    simpa using this
end
theorem rd_put {w1 w2 : World} {B gr gm base i : Nat} {v u : Value} {l : List UInt8} {bad : Bool} {ob : Obj} (h : Rd w1 B gr v l bad) (hb : Below base (w1.alloc ob) w2) (h1 : gr < gm) (h2 : gm < base) : Rd (w2.setCell ⟨gm, i, none⟩ u) B gr v l bad := by
  have ha := h.below ((Below.refl w1.heap.size w1).alloc (Nat.le_refl _) ob) h.b.lt
  have hc := ha.below hb (by omega)
  have ho := h.o
  exact ⟨hc.b.far (by intro e; have e' : gr = gm := e; omega) _, bsl_set hc.s (by show B ≤ gm; omega), hc.o⟩
theorem below_put {w0 w1 w2 : World} {C gm base i : Nat} {u : Value} {ob : Obj} (h : Below C w0 w1) (hz : C ≤ w1.heap.size) (hb : Below base (w1.alloc ob) w2) (h1 : C ≤ gm) (h2 : gm < base) : Below C w0 (w2.setCell ⟨gm, i, none⟩ u) :=
  ((h.alloc hz ob).trans (hb.mono (by omega))).setCell (p := ⟨gm, i, none⟩) h1 u
abbrev put7 (w : World) (p : Nat) (y0 y1 y2 y3 y4 y5 y6 : Value) : World := ((((((w.setCell ⟨p, 0, none⟩ y0).setCell ⟨p, 1, none⟩ y1).setCell ⟨p, 2, none⟩ y2).setCell ⟨p, 3, none⟩ y3).setCell ⟨p, 4, none⟩ y4).setCell ⟨p, 5, none⟩ y5).setCell ⟨p, 6, none⟩ y6
theorem put7_blk {w : World} {p : Nat} {x0 x1 x2 x3 x4 x5 x6 : Value} (h : Blk w p 28 #[x0, x1, x2, x3, x4, x5, x6]) (y0 y1 y2 y3 y4 y5 y6 : Value) : Blk (put7 w p y0 y1 y2 y3 y4 y5 y6) p 28 #[y0, y1, y2, y3, y4, y5, y6] := by
  have h0 : Blk (w.setCell ⟨p, 0, none⟩ y0) p 28 #[y0, x1, x2, x3, x4, x5, x6] := h.set_ 0 y0
  have h1 : Blk ((w.setCell ⟨p, 0, none⟩ y0).setCell ⟨p, 1, none⟩ y1) p 28 #[y0, y1, x2, x3, x4, x5, x6] := h0.set_ 1 y1
  have h2 : Blk (((w.setCell ⟨p, 0, none⟩ y0).setCell ⟨p, 1, none⟩ y1).setCell ⟨p, 2, none⟩ y2) p 28 #[y0, y1, y2, x3, x4, x5, x6] := h1.set_ 2 y2
  have h3 : Blk ((((w.setCell ⟨p, 0, none⟩ y0).setCell ⟨p, 1, none⟩ y1).setCell ⟨p, 2, none⟩ y2).setCell ⟨p, 3, none⟩ y3) p 28 #[y0, y1, y2, y3, x4, x5, x6] := h2.set_ 3 y3
  have h4 : Blk (((((w.setCell ⟨p, 0, none⟩ y0).setCell ⟨p, 1, none⟩ y1).setCell ⟨p, 2, none⟩ y2).setCell ⟨p, 3, none⟩ y3).setCell ⟨p, 4, none⟩ y4) p 28 #[y0, y1, y2, y3, y4, x5, x6] := h3.set_ 4 y4
  have h5 : Blk ((((((w.setCell ⟨p, 0, none⟩ y0).setCell ⟨p, 1, none⟩ y1).setCell ⟨p, 2, none⟩ y2).setCell ⟨p, 3, none⟩ y3).setCell ⟨p, 4, none⟩ y4).setCell ⟨p, 5, none⟩ y5) p 28 #[y0, y1, y2, y3, y4, y5, x6] := h4.set_ 5 y5
  have h6 : Blk (((((((w.setCell ⟨p, 0, none⟩ y0).setCell ⟨p, 1, none⟩ y1).setCell ⟨p, 2, none⟩ y2).setCell ⟨p, 3, none⟩ y3).setCell ⟨p, 4, none⟩ y4).setCell ⟨p, 5, none⟩ y5).setCell ⟨p, 6, none⟩ y6) p 28 #[y0, y1, y2, y3, y4, y5, y6] := h5.set_ 6 y6
  exact h6
theorem put7_grown (w : World) (p : Nat) (y0 y1 y2 y3 y4 y5 y6 : Value) : w.grownBy (put7 w p y0 y1 y2 y3 y4 y5 y6) (some p) :=
  grownBy_set (grownBy_set (grownBy_set (grownBy_set (grownBy_set (grownBy_set (grownBy_set (World.grownBy.refl _ _) 0 _) 1 _) 2 _) 3 _) 4 _) 5 _) 6 _
def manZero : Man := ⟨0, 0, 0, [], [], [], []⟩
def DecRes (w : World) (m : Man) (er : Int) (e : Ending) (w' : World) : Prop :=
  ∃ vS vM vT vE, e = .returned (.tuple #[.agg (manCells m vS vM vT vE), .int .i64 er]) ∧ Lies w' (btw w.heap.size w'.heap.size) m vS vM vT vE ∧ Below w.heap.size w w'
def body (b : List UInt8) : List UInt8 := b.take (b.length - 4)
def tail4 (b : List UInt8) : List UInt8 := b.drop (b.length - 4)
def Fits (b : List UInt8) (m : Man) (bad : Bool) : Prop := bad = false ∧ manErr m = 0 ∧ encB m = b
def Decd (b : List UInt8) (m : Man) (er : Int) : Prop :=
  (b.length < 8 ∧ m = manZero ∧ er = 14) ∨ (8 ≤ b.length ∧ crcB (crc (body b)) ≠ tail4 b ∧ m = manZero ∧ er = 15) ∨
    (8 ≤ b.length ∧ crcB (crc (body b)) = tail4 b ∧ ∃ m' bad, Parsed ((body b).drop 4) m' bad ∧ ((Fits b m' bad ∧ m = m' ∧ er = 0) ∨ (¬ Fits b m' bad ∧ m = manZero ∧ er = 22)))
def DecOut (w : World) (b : List UInt8) (e : Ending) (w' : World) : Prop := ∃ m er, Decd b m er ∧ DecRes w m er e w'
theorem lies_zero (w : World) (S : Nat → Prop) : Lies w S manZero (.slice none 0 0) (.slice none 0 0) (.slice none 0 0) (.slice none 0 0) := ⟨Sl.nil _ _ _ _ _, Sl.nil _ _ _ _ _, Sl.nil _ _ _ _ _, Sl.nil _ _ _ _ _⟩
abbrev manZ7 : Array Value := #[.int .i64 0, .int .i64 0, .int .i64 0, .slice none 0 0, .slice none 0 0, .slice none 0 0, .slice none 0 0]
/-- Whether the checksum fits. -/
structure CrcQ (b : List UInt8) (q : Bool) : Prop where
  e : decide (crcB (crc (body b)) = tail4 b) = q
structure EncQ (m : Man) (b : List UInt8) (q : Bool) : Prop where
  e : decide (encB m = b) = q
/-- An error's end. -/
theorem dec_err {w w1 : World} {b : List UInt8} {p : Nat} {er : Int} (hp : w.heap.size ≤ p) (hd : Decd b manZero er) (hb : Below w.heap.size w w1) (y0 y1 y2 y3 y4 y5 y6 : Value) :
    DecOut w b (.returned (.tuple #[.agg manZ7, .int .i64 er])) (put7 w1 p y0 y1 y2 y3 y4 y5 y6) := by
  refine ⟨manZero, er, hd, .slice none 0 0, .slice none 0 0, .slice none 0 0, .slice none 0 0, rfl, lies_zero _ _, ?_⟩
  exact below_grown hb (put7_grown w1 p y0 y1 y2 y3 y4 y5 y6) hb.size hp

theorem seg_lit (w : World) (x0 x1 x2 x3 x4 x5 x6 : Int) : Sl (w.alloc (.cells #[.int .i64 x0, .int .i64 x1, .int .i64 x2, .int .i64 x3, .int .i64 x4, .int .i64 x5, .int .i64 x6] 46)) (fun _ => True) 7 (.slice (some ⟨w.heap.size, 0, none⟩) 1 1) 1 [.int .i64 x0, .int .i64 x1, .int .i64 x2, .int .i64 x3, .int .i64 x4, .int .i64 x5, .int .i64 x6] := by
  refine ⟨rfl, _, 1, rfl, Nat.le_refl _, fun _ => ⟨w.heap.size, 0, rfl, trivial, fun j u hu => ?_⟩⟩
  rw [Nat.zero_add, (Blk.new w 46 _).cell]
  simpa using hu
theorem seg_one (x0 x1 x2 x3 x4 x5 x6 : Int) : ∀ u ∈ [Value.int .i64 x0, .int .i64 x1, .int .i64 x2, .int .i64 x3, .int .i64 x4, .int .i64 x5, .int .i64 x6], u.oneCell' = true := by
  intro u hu
  simp only [List.mem_cons, List.not_mem_nil, or_false] at hu
  rcases hu with rfl | rfl | rfl | rfl | rfl | rfl | rfl <;> rfl
theorem mk_lit (w : World) (x0 x1 x2 : Int) : Sl (w.alloc (.cells #[.int .i64 x0, .int .i64 x1, .int .i64 x2] 72)) (fun _ => True) 3 (.slice (some ⟨w.heap.size, 0, none⟩) 1 1) 1 [.int .i64 x0, .int .i64 x1, .int .i64 x2] := by
  refine ⟨rfl, _, 1, rfl, Nat.le_refl _, fun _ => ⟨w.heap.size, 0, rfl, trivial, fun j u hu => ?_⟩⟩
  rw [Nat.zero_add, (Blk.new w 72 _).cell]
  simpa using hu
theorem mk_one (x0 x1 x2 : Int) : ∀ u ∈ [Value.int .i64 x0, .int .i64 x1, .int .i64 x2], u.oneCell' = true := by
  intro u hu
  simp only [List.mem_cons, List.not_mem_nil, or_false] at hu
  rcases hu with rfl | rfl | rfl <;> rfl
theorem talS_rule (l : List UInt8) (b : Bool) : (talS l b).1.rule.size ≤ l.length := by
  have h1 := intS_le l b
  have h2 := (textS_le (intS l b).2.1 (intS l b).2.2).2
  have e : (talS l b).1.rule.size = (textS (intS l b).2.1 (intS l b).2.2).1.length := by
    unfold talS
    show (⟨(textS (intS l b).2.1 (intS l b).2.2).1.toArray⟩ : ByteArray).data.size = _
    simp
  omega
theorem many_rule : ∀ (n : Nat) (l : List UInt8) (b : Bool), ∀ x ∈ (manyS talS n l b).1, x.rule.size ≤ l.length
  | 0, l, b, x, h => by simp [manyS] at h
  | n + 1, l, b, x, h => by
    simp only [manyS, List.mem_cons] at h
    rcases h with rfl | h
    · exact talS_rule l b
    · have h1 := many_rule n _ _ x h
      have h2 := talS_le l b
      omega
theorem talsS_rule (l : List UInt8) (b : Bool) : ∀ x ∈ (talsS l b).1, x.rule.size ≤ l.length := by
  intro x hx
  have h1 := many_rule _ _ _ x hx
  have h2 := (countS_le l b).1
  omega
structure SmallP (m : Man) : Prop where
  s : m.segs.length ≤ 1000000
  m_ : m.marks.length ≤ 1000000
  t : m.tals.length ≤ 1000000
  e : m.exps.length ≤ 1000000
  tb : ∀ x ∈ m.tals, x.rule.size ≤ 1000000
  eb : ∀ x ∈ m.exps, x.rule.size ≤ 1000000
theorem SmallP.small {m : Man} (h : SmallP m) : Small m := ⟨h.s, h.m_, h.t, h.e⟩
theorem SmallP.len {m : Man} (h : SmallP m) : (encM m).length + 4 ≤ 140737488355328 := by
  have h1 := encI_len [m.nu, m.nx, m.jo, (m.segs.length : Int)]
  have h2 := flat_le encS m.segs 70 (fun x _ => by have := encI_len [x.id, x.level, x.tier, x.count, x.lo, x.hi, x.size]; exact this)
  have h3 := encI_len [(m.marks.length : Int)]
  have h4 := flat_le encK m.marks 30 (fun x _ => by have := encI_len [x.host, x.file, x.off]; exact this)
  have h5 := encT_len m.tals 1000000 (by omega) h.tb
  have h6 := encT_len m.exps 1000000 (by omega) h.eb
  have a := h.s
  have b := h.m_
  have c := h.t
  have d := h.e
  simp only [encM, en5, en4, en3, en2, en1, List.length_append, List.length_cons, List.length_nil] at h1 h3 ⊢
  have : magicB.length = 4 := rfl
  have e1 : m.segs.length * 70 ≤ 1000000 * 70 := Nat.mul_le_mul_right _ a
  have e2 : m.marks.length * 30 ≤ 1000000 * 30 := Nat.mul_le_mul_right _ b
  have e3 : m.tals.length * 1048606 ≤ 1000000 * 1048606 := Nat.mul_le_mul_right _ c
  have e4 : m.exps.length * 1048606 ≤ 1000000 * 1048606 := Nat.mul_le_mul_right _ d
  omega
theorem le_alloc {w : World} {n : Nat} (h : n ≤ w.heap.size) (o : Obj) : n ≤ (w.alloc o).heap.size := by simp; omega
end Go.Proofs.Ytkjhnipjhefndaa
