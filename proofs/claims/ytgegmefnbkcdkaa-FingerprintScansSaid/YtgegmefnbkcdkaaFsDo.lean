/- Do: a change of a directory. -/
import Derived.Test.YtgegmefnbkcdkaaFsStart
namespace Go.Proofs.Ytgegmefnbkcdkaa
open Go.RowKit
theorem results_cell_row_tmp {P : Program} {fn : Func} {p q : Tmp} {ty : TypeId} (h : fn.results = #[.cell p ty, .tmp q]) (tmps : Array Value) (w : World) (g : Nat) (t : TypeId) (cs : Array Value) (fr : Nat × Nat) (d : TypeDesc)
    (hp : tmps.getD p undef = .pointer (some ⟨g, 0, none⟩)) (hg : w.heap[g]? = some (.cells cs t fr))
    (hu : P.underlying ty = some d) (hd : (match d with | .struct _ | .array _ _ => true | _ => false) = true) (hi : (P.info? ty).map (·.size) = some cs.size) :
    (results fn tmps).run P w = .ok (.tuple #[.agg cs, tmps.getD q undef]) w := by
  have hp' : tmps[p]?.getD undef = .pointer (some ⟨g, 0, none⟩) := by simpa using hp
  simp [results, h, hp', asAddr, run_loadVar_row w g t ty cs fr d hg hu hd hi]
theorem Blk.new_at {w : World} {g : Nat} {t : TypeId} {cs : Array Value} (h : g = w.heap.size) : Blk (w.alloc (.cells cs t)) g t cs := h ▸ Blk.new w t cs
def RemoveSt (fs : FS) (c : Ch) (e : Int) (fs' : FS) : Prop := ((∀ t ∈ fs.N, t.nm ≠ c.name) ∧ e = 12 ∧ fs' = fs ∨ (∃ t ∈ fs.N, t.nm = c.name) ∧ e = 0 ∧ fs' = ⟨rmName fs.N c.name, fs.F, fs.O⟩)
/-- What the change's method does. -/
def MetSt (fs : FS) (c : Ch) (e : Int) (fs' : FS) : Prop :=
  (c.kind = 1 ∧ CreateSt fs c e fs') ∨ (c.kind = 2 ∧ AppendSt fs c e fs') ∨ (c.kind = 3 ∧ TruncSt fs c.name e fs') ∨ (c.kind = 4 ∧ RenameSt fs c e fs') ∨
  (c.kind = 5 ∧ StartSt fs c e fs') ∨ (c.kind = 6 ∧ MoreSt fs c e fs') ∨ (c.kind = 7 ∧ RemoveSt fs c e fs') ∨ (c.kind = 8 ∧ ReplaceSt fs c e fs')
/-- What the methods ask of a directory. -/
structure DInv (fs : FS) : Prop where
  n : NSrt fs.N
  f : FSrt fs.F
  a : ∀ n ∈ fs.N, ∃ t ∈ fs.F, t.ino = n.ino
  l : ∀ t ∈ fs.F, 0 ≤ t.left ∧ t.left ≤ 1000000
  bn : fs.N.length ≤ 900
  bf : fs.F.length ≤ 900
  bo : fs.O.length ≤ 1000
theorem putName_len (N : List Nm) (t : Nm) : (putName N t).length = N.length + 1 := by
  have h := congrArg List.length (List.takeWhile_append_dropWhile (p := fun n : Nm => decide (lb n.nm < lb t.nm)) (l := N))
  unfold putName
  rw [List.length_append] at h
  rw [List.length_append, List.length_cons]
  omega
theorem rmName_len (N : List Nm) (s : ByteArray) : (rmName N s).length ≤ N.length := List.length_filter_le _ _
/-- Blocks of a type. -/
def tyB (w : World) (t : TypeId) (b : Nat) : Prop := ∃ cur f, w.heap[b]? = some (.cells cur t f)
theorem tyB.lt_ {w : World} {t : TypeId} {b : Nat} (h : tyB w t b) : b < w.heap.size := by obtain ⟨_, _, h⟩ := h; exact (Array.getElem?_eq_some_iff.1 h).1
theorem tyB.ne {w : World} {g : Nat} {cs : Array Value} {t e : TypeId} {f : Nat × Nat} (h : w.heap[g]? = some (.cells cs t f)) (ht : t ≠ e) : ∀ b, tyB w e b → some b ≠ some g := by
  rintro b ⟨cur, f', hb⟩ e
  injection e with e
  subst e
  rw [h] at hb
  injection hb with hb
  injection hb with _ hb _
  exact ht hb
theorem Sl.tyGrown {w w' : World} {t : TypeId} {size n : Nat} {v : Value} {xs : List Value} {row : Option Nat} (h : Sl w (tyB w t) size v n xs) (hg : w.grownBy w' row) (hr : ∀ b, tyB w t b → some b ≠ row) : Sl w' (tyB w' t) size v n xs := by
  obtain ⟨hl, A, c, hv, hc, hrr⟩ := h
  refine ⟨hl, A, c, hv, hc, fun hn => ?_⟩
  obtain ⟨b, o, hA, hb, hrow⟩ := hrr hn
  have hlt := hb.lt_
  have hne := hr b hb
  obtain ⟨cur, f, hb⟩ := hb
  exact ⟨b, o, hA, ⟨cur, f, (hg.block b hlt hne).trans hb⟩, hrow.keep fun p hp => World.cell?_of_block (hg.block p.block (hp ▸ hlt) (hp ▸ hne))⟩
theorem own_ty {w : World} {base e size n : Nat} {v : Value} {xs : List Value} (h : w.ownsRow base e size v n xs) : Sl w (tyB w e) size v n xs := by
  have h1 := Sl.of_own_btw h
  obtain ⟨hl, A, c, hv, hc, hrr⟩ := h1
  refine ⟨hl, A, c, hv, hc, fun hn => ?_⟩
  obtain ⟨b, o, hA, hb, hrow⟩ := hrr hn
  have hob : v.ownBlock = some b := by
    rcases h.2 with ⟨hv2, h0⟩ | ⟨g, cap, cur, h1, _⟩
    · omega
    · rw [h1] at hv
      injection hv with e1 _ _
      rw [hA] at e1
      injection e1 with e1
      injection e1 with e1 _ _
      rw [h1, ← e1]; rfl
  obtain ⟨_, cur, _, _, h2, _⟩ := own_at h hob
  exact ⟨b, o, hA, ⟨cur, _, h2⟩, hrow⟩
/-- A directory to be read, each list in a block of its type. -/
structure FsT (w : World) (vN vF vO : Value) (fs : FS) : Prop where
  n : Sl w (tyB w 77) 2 vN fs.N.length (nms fs.N)
  f : Sl w (tyB w 72) 5 vF fs.F.length (fis fs.F)
  o : Sl w (tyB w 3) 1 vO fs.O.length (ints fs.O)
  d : ∀ t ∈ fs.F, FiR w t
theorem FsT.r {w : World} {vN vF vO : Value} {fs : FS} (h : FsT w vN vF vO fs) : FsR w vN vF vO fs := ⟨h.n.mono fun _ hb => hb.lt_, h.f.mono fun _ hb => hb.lt_, h.o.mono fun _ hb => hb.lt_, h.d⟩
theorem FsT.up {w w' : World} {vN vF vO : Value} {fs : FS} (h : FsT w vN vF vO fs) (hb : Below w.heap.size w w') : FsT w' vN vF vO fs :=
  ⟨h.n.tyGrown (grownBy_of_below hb none) (by simp), h.f.tyGrown (grownBy_of_below hb none) (by simp), h.o.tyGrown (grownBy_of_below hb none) (by simp), fun t ht => (h.d t ht).up hb⟩
theorem FsT.grown {w w' : World} {g : Nat} {cs : Array Value} {t : TypeId} {vN vF vO : Value} {fs : FS} (h : FsT w vN vF vO fs) (hb : Blk w g t cs) (hg : w.grownBy w' (some g)) (h1 : t ≠ 77) (h2 : t ≠ 72) (h3 : t ≠ 3) (h4 : t ≠ 5) : FsT w' vN vF vO fs :=
  ⟨h.n.tyGrown hg (tyB.ne hb h1), h.f.tyGrown hg (tyB.ne hb h2), h.o.tyGrown hg (tyB.ne hb h3), fun x hx => (h.d x hx).grown hg (noU8 hb h4)⟩
theorem FsO.t {w : World} {B : Nat} {vN vF vO : Value} {fs : FS} (h : FsO w B vN vF vO fs) : FsT w vN vF vO fs := ⟨own_ty h.n, own_ty h.f, own_ty h.o, h.d⟩
theorem FsT.new (w : World) : FsT w (.slice none 0 0) (.slice none 0 0) (.slice none 0 0) ⟨[], [], []⟩ := ⟨Sl.nil _ _ _ _ _, Sl.nil _ _ _ _ _, Sl.nil _ _ _ _ _, by simp⟩
/-- What Do does. -/
def DoSt (fs : FS) (c : Ch) (e : Int) (fs' : FS) : Prop :=
  ((c.kind < 1 ∨ 8 < c.kind) ∧ e = 2 ∧ fs' = fs) ∨ ((1 ≤ c.kind ∧ c.kind ≤ 8) ∧
    (((vld c.name = false ∨ ((c.kind = 4 ∨ c.kind = 5) ∧ vld c.dst = false)) ∧ e = 6 ∧ fs' = fs) ∨
     ((vld c.name = true ∧ ((c.kind = 4 ∨ c.kind = 5) → vld c.dst = true)) ∧ ((e ≠ 0 ∧ fs' = fs ∧ ∃ fs2, MetSt fs c e fs2) ∨ (e = 0 ∧ ∃ fs2, MetSt fs c 0 fs2 ∧ fs' = purged fs2)))))
end Go.Proofs.Ytgegmefnbkcdkaa
