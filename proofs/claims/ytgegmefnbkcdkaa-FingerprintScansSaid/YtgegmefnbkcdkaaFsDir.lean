/- A directory: as a value that is shared, and as one that is being changed. clone. -/
import Derived.Test.YtgegmefnbkcdkaaFsPurge1
import Derived.Test.YtgegmefnbkcdkaaFsDel
namespace Go.Proofs.Ytgegmefnbkcdkaa
open Go.RowKit
structure FS where
  N : List Nm
  F : List Fi
  O : List Int
def ints (O : List Int) : List Value := O.map (.int .i64)
/-- The three lists of a directory, to be read. -/
structure FsR (w : World) (vN vF vO : Value) (fs : FS) : Prop where
  n : Sl w (lt w.heap.size) 2 vN fs.N.length (nms fs.N)
  f : Sl w (lt w.heap.size) 5 vF fs.F.length (fis fs.F)
  o : Sl w (lt w.heap.size) 1 vO fs.O.length (ints fs.O)
  d : ∀ t ∈ fs.F, FiR w t
theorem FsR.up {w w' : World} {vN vF vO : Value} {fs : FS} (h : FsR w vN vF vO fs) (hb : Below w.heap.size w w') : FsR w' vN vF vO fs :=
  ⟨h.n.upW hb, h.f.upW hb, h.o.upW hb, fun t ht => (h.d t ht).up hb⟩
/-- The three lists, the call's own. -/
structure FsO (w : World) (B : Nat) (vN vF vO : Value) (fs : FS) : Prop where
  n : w.ownsRow B 77 2 vN fs.N.length (nms fs.N)
  f : w.ownsRow B 72 5 vF fs.F.length (fis fs.F)
  o : w.ownsRow B 3 1 vO fs.O.length (ints fs.O)
  d : ∀ t ∈ fs.F, FiR w t
theorem FsO.r {w : World} {B : Nat} {vN vF vO : Value} {fs : FS} (h : FsO w B vN vF vO fs) : FsR w vN vF vO fs := ⟨Sl.of_own h.n, Sl.of_own h.f, Sl.of_own h.o, h.d⟩
theorem FsO.up {w w' : World} {B : Nat} {vN vF vO : Value} {fs : FS} (h : FsO w B vN vF vO fs) (hb : Below w.heap.size w w') : FsO w' B vN vF vO fs :=
  ⟨own_bel h.n hb, own_bel h.f hb, own_bel h.o hb, fun t ht => (h.d t ht).up hb⟩
/-- A directory that is being changed. -/
def Dir (w : World) (B gd : Nat) (fs : FS) : Prop := B ≤ gd ∧ ∃ vN vF vO, Blk w gd 91 #[vN, vF, vO] ∧ FsO w B vN vF vO fs
/-- The bounds of a directory. -/
structure Small (fs : FS) : Prop where
  n : fs.N.length ≤ 1000
  f : fs.F.length ≤ 1000
  o : fs.O.length ≤ 100000
theorem ints_one (O : List Int) : ∀ u ∈ ints O, u.oneCell' = true := by
  intro u hu
  obtain ⟨x, _, rfl⟩ := List.mem_map.1 hu
  rfl
/-- The frame of a method: old memory is as it was. -/
theorem goes_eq (N : List Nm) (O : List Int) (t : Fi) : goes N O t = (!O.contains t.ino && !N.any fun n => n.ino == t.ino) := rfl
/-- What is left behind purge. -/
def purged (fs : FS) : FS := ⟨fs.N, fs.F.filter fun t => !goes fs.N fs.O t, fs.O⟩
/-- Only a directory's boxes and rows may have changed. -/
def TyKeep (w w' : World) : Prop := w.heap.size ≤ w'.heap.size ∧ ∀ (b : Nat) (cur : Array Value) (t : TypeId) (f : Nat × Nat), w.heap[b]? = some (.cells cur t f) → t ≠ 91 → t ≠ 72 → t ≠ 77 → w'.heap[b]? = some (.cells cur t f)
theorem TyKeep.trans {a b c : World} (h : TyKeep a b) (k : TyKeep b c) : TyKeep a c := ⟨Nat.le_trans h.1 k.1, fun i cur t f h1 h2 h3 h4 => k.2 i cur t f (h.2 i cur t f h1 h2 h3 h4) h2 h3 h4⟩
theorem TyKeep.of_below {w w' : World} (hb : Below w.heap.size w w') : TyKeep w w' := ⟨hb.size, fun b _ _ _ h _ _ _ => (hb.block b (Array.getElem?_eq_some_iff.1 h).1).trans h⟩
theorem TyKeep.grown {w w' : World} {B e size n : Nat} {v : Value} {xs : List Value} (hg : w.grownBy w' v.ownBlock) (ho : w.ownsRow B e size v n xs) (he : e = 72 ∨ e = 77) : TyKeep w w' :=
  ⟨hg.size, fun b cur t f h _ h3 h4 => (hg.block b (Array.getElem?_eq_some_iff.1 h).1 (fun e' => by
    obtain ⟨_, _, _, _, h2, _⟩ := own_at ho e'.symm
    rw [h] at h2
    injection h2 with h2
    injection h2 with _ h2 _
    rcases he with he | he
    · exact h3 (h2.trans he)
    · exact h4 (h2.trans he))).trans h⟩
theorem TyKeep.set_ {w : World} {gd : Nat} {cs : Array Value} (hb : Blk w gd 91 cs) (i : Nat) (u : Value) : TyKeep w (w.setCell ⟨gd, i, none⟩ u) :=
  ⟨by simp [World.setCell], fun b cur t f h h2 _ _ => (Below.heap_setCell w _ u b (fun e => by
    subst e
    rw [show w.heap[b]? = _ from hb] at h
    injection h with h
    injection h with _ h _
    exact h2 h.symm)).trans h⟩
theorem own_apart {w : World} {B B' e e' size size' k k' : Nat} {v v' : Value} {xs xs' : List Value} (h : w.ownsRow B e size v k xs) (h' : w.ownsRow B' e' size' v' k' xs') (hne : e ≠ e') : v.ownBlock = none ∨ v.ownBlock ≠ v'.ownBlock := by
  cases hv : v.ownBlock with
  | none => exact .inl rfl
  | some i =>
    refine .inr fun he => ?_
    obtain ⟨_, cur, _, _, h1, _⟩ := own_at h hv
    obtain ⟨_, cur2, _, _, h2, _⟩ := own_at h' he.symm
    rw [h1] at h2
    injection h2 with h2
    injection h2 with _ h2 _
    exact hne h2
/-- A row lies apart from a block of another type. -/
theorem own_off {w : World} {B e size n gd : Nat} {v : Value} {xs : List Value} {t : TypeId} {cs : Array Value} (ho : w.ownsRow B e size v n xs) (hb : Blk w gd t cs) (he : e ≠ t) : v.ownBlock ≠ some gd := fun h => by
  obtain ⟨_, _, _, _, h2, _⟩ := own_at ho h
  rw [show w.heap[gd]? = _ from hb] at h2
  injection h2 with h2
  injection h2 with _ h2 _
  exact he h2.symm
theorem own_ge {w : World} {B e size n : Nat} {v : Value} {xs : List Value} (ho : w.ownsRow B e size v n xs) : ∀ k, v.ownBlock = some k → B ≤ k := fun k hk => by
  obtain ⟨_, _, _, h1, _⟩ := own_at ho hk
  exact h1
/-- A store into a field of a directory. -/
theorem FsO.set_ {w : World} {B gd : Nat} {vN vF vO : Value} {fs : FS} {cs : Array Value} (h : FsO w B vN vF vO fs) (hb : Blk w gd 91 cs) (i : Nat) (u : Value) : FsO (w.setCell ⟨gd, i, none⟩ u) B vN vF vO fs := by
  have hg := grownBy_set (World.grownBy.refl w (some gd)) i u
  exact ⟨h.n.kept hg (.inr (own_off h.n hb (by decide))), h.f.kept hg (.inr (own_off h.f hb (by decide))), h.o.kept hg (.inr (own_off h.o hb (by decide))), fun t ht => (h.d t ht).grown hg (noU8 hb (by decide))⟩
/-- The list of files was edited in place. -/
theorem FsO.putF {w w' : World} {B : Nat} {vN vF vO v' : Value} {N : List Nm} {F F' : List Fi} {O : List Int} (h : FsO w B vN vF vO ⟨N, F, O⟩) (hg : w.grownBy w' vF.ownBlock) (hf : w'.ownsRow B 72 5 v' F'.length (fis F')) (hd : ∀ t ∈ F', FiR w' t) : FsO w' B vN v' vO ⟨N, F', O⟩ :=
  ⟨h.n.kept hg (own_apart h.n h.f (by decide)), hf, h.o.kept hg (own_apart h.o h.f (by decide)), hd⟩
end Go.Proofs.Ytgegmefnbkcdkaa
