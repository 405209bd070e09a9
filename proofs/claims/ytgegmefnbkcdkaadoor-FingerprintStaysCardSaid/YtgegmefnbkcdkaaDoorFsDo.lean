/- Do: a change of a directory. -/
import Derived.Test.YtgegmefnbkcdkaaDoorFsStart
namespace Go.Proofs.YtgegmefnbkcdkaaDoor
open Go.RowKit
theorem results_cell_row_tmp {P : Program} {fn : Func} {p q : Tmp} {ty : TypeId} (h : fn.results = #[.cell p ty, .tmp q]) (tmps : Array Value) (w : World) (g : Nat) (t : TypeId) (cs : Array Value) (fr : Nat × Nat) (d : TypeDesc)
    (hp : tmps.getD p undef = .pointer (some ⟨g, 0, none⟩)) (hg : w.heap[g]? = some (.cells cs t fr))
    (hu : P.underlying ty = some d) (hd : (match d with | .struct _ | .array _ _ => true | _ => false) = true) (hi : (P.info? ty).map (·.size) = some cs.size) :
    (results fn tmps).run P w = .ok (.tuple #[.agg cs, tmps.getD q undef]) w := by
  have hp' : tmps[p]?.getD undef = .pointer (some ⟨g, 0, none⟩) := by simpa using hp
  simp [results, h, hp', asAddr, run_loadVar_row w g t ty cs fr d hg hu hd hi]
theorem Blk.new_at {w : World} {g : Nat} {t : TypeId} {cs : Array Value} (h : g = w.heap.size) : Blk (w.alloc (.cells cs t)) g t cs := h ▸ Blk.new w t cs
/-- Where the table of the changes lies: the functions by kind. -/
structure Chg (w : World) : Prop where
  lt : 0 < w.heap.size
  c1 : w.cell? ⟨0, 1, none⟩ = some (.func (.func 79) #[] #[])
  c2 : w.cell? ⟨0, 2, none⟩ = some (.func (.func 80) #[] #[])
  c3 : w.cell? ⟨0, 3, none⟩ = some (.func (.func 81) #[] #[])
  c4 : w.cell? ⟨0, 4, none⟩ = some (.func (.func 82) #[] #[])
  c5 : w.cell? ⟨0, 5, none⟩ = some (.func (.func 83) #[] #[])
  c6 : w.cell? ⟨0, 6, none⟩ = some (.func (.func 84) #[] #[])
  c7 : w.cell? ⟨0, 7, none⟩ = some (.func (.func 85) #[] #[])
  c8 : w.cell? ⟨0, 8, none⟩ = some (.func (.func 86) #[] #[])
theorem Chg.up {w w' : World} (h : Chg w) (hb : Below w.heap.size w w') : Chg w' := by
  have q : ∀ i, w'.cell? ⟨0, i, none⟩ = w.cell? ⟨0, i, none⟩ := fun i => hb.cell (p := ⟨0, i, none⟩) h.lt
  exact ⟨Nat.lt_of_lt_of_le h.lt hb.size, (q 1).trans h.c1, (q 2).trans h.c2, (q 3).trans h.c3, (q 4).trans h.c4, (q 5).trans h.c5, (q 6).trans h.c6, (q 7).trans h.c7, (q 8).trans h.c8⟩
def RemoveSt (fs : FS) (c : Ch) (e : Int) (fs' : FS) : Prop := ((∀ t ∈ fs.N, t.nm ≠ c.name) ∧ e = 12 ∧ fs' = fs ∨ (∃ t ∈ fs.N, t.nm = c.name) ∧ e = 0 ∧ fs' = ⟨rmName fs.N c.name, fs.F, fs.O⟩)
/-- What the change's method does. -/
def MetSt (fs : FS) (c : Ch) (e : Int) (fs' : FS) : Prop :=
  (c.kind = 1 ∧ CreateSt fs c e fs') ∨ (c.kind = 2 ∧ AppendSt fs c e fs') ∨ (c.kind = 3 ∧ TruncSt fs c.name e fs') ∨ (c.kind = 4 ∧ RenameSt fs c e fs') ∨
  (c.kind = 5 ∧ StartSt fs c e fs') ∨ (c.kind = 6 ∧ MoreSt fs c e fs') ∨ (c.kind = 7 ∧ RemoveSt fs c e fs') ∨ (c.kind = 8 ∧ ReplaceSt fs c e fs')
/-- What the methods ask of a directory. -/
structure DInv (fs : FS) : Prop where
  n : NSrt fs.N
  f : FSrt fs.F
  a : ∀ n ∈ fs.N, ∃ t ∈ fs.F, t.ino = n.ino
  l : ∀ t ∈ fs.F, 0 ≤ t.left ∧ t.left ≤ 1000000
  bn : fs.N.length ≤ 900
  bf : fs.F.length ≤ 900
  bo : fs.O.length ≤ 1000
theorem DInv.small {fs : FS} (h : DInv fs) : Small fs := ⟨by have := h.bn; omega, by have := h.bf; omega, by have := h.bo; omega⟩
def metFn (k : Int) : Nat := (k + (79 - 1)).toNat
def MetOut (B gd : Nat) (fs : FS) (c : Ch) (w : World) (x : Ending) (w' : World) : Prop := ∃ e fs', MetSt fs c e fs' ∧ MetRes B gd e fs' w x w'
theorem met_any (gd B : Nat) (fs : FS) (c : Ch) (w : World) (hk : 1 ≤ c.kind ∧ c.kind ≤ 8) (hB : B ≤ w.heap.size) (h : Dir w B gd fs) (hi : DInv fs) (hc : BR w c.dv c.data) (hcl : c.data.length ≤ 1000000) (hcn : c.n ≤ 9223372036854775807) :
    Calls Tryd.prog (metFn c.kind) #[.pointer (some ⟨gd, 0, none⟩), .agg (chV c)] w (MetOut B gd fs c w) := by
  have hm := hi.small
  have e : c.kind = 1 ∨ c.kind = 2 ∨ c.kind = 3 ∨ c.kind = 4 ∨ c.kind = 5 ∨ c.kind = 6 ∨ c.kind = 7 ∨ c.kind = 8 := by omega
  rcases e with e | e | e | e | e | e | e | e
  · rw [e]; exact (create_any gd B fs c w hB h hi.n hm hi.bf hc hcl).mono fun _ _ ⟨e', fs', h1, h2⟩ => ⟨e', fs', .inl ⟨e, h1⟩, h2⟩
  · rw [e]; exact (append_any gd B fs c w hB h hi.n hi.f hm hi.a hc hcl).mono fun _ _ ⟨e', fs', h1, h2⟩ => ⟨e', fs', .inr (.inl ⟨e, h1⟩), h2⟩
  · rw [e]; exact (truncate_any gd B fs c w hB h hi.n hi.f hm hi.a hc).mono fun _ _ ⟨e', fs', h1, h2⟩ => ⟨e', fs', .inr (.inr (.inl ⟨e, h1⟩)), h2⟩
  · rw [e]; exact (rename_any gd B fs c w hB h hi.n hi.f hm hi.a hc).mono fun _ _ ⟨e', fs', h1, h2⟩ => ⟨e', fs', .inr (.inr (.inr (.inl ⟨e, h1⟩))), h2⟩
  · rw [e]; exact (start_any gd B fs c w hB h hi.n hi.f hm hi.bf hi.a hc).mono fun _ _ ⟨e', fs', h1, h2⟩ => ⟨e', fs', .inr (.inr (.inr (.inr (.inl ⟨e, h1⟩)))), h2⟩
  · rw [e]; exact (more_any gd B fs c w hB h hi.n hi.f hm hi.a hi.l hc hcn).mono fun _ _ ⟨e', fs', h1, h2⟩ => ⟨e', fs', .inr (.inr (.inr (.inr (.inr (.inl ⟨e, h1⟩))))), h2⟩
  · rw [e]; exact (remove_any gd B fs c w hB h hi.n hm hc).mono fun _ _ ⟨e', fs', h1, h2⟩ => ⟨e', fs', .inr (.inr (.inr (.inr (.inr (.inr (.inl ⟨e, h1⟩)))))), h2⟩
  · rw [e]; exact (replace_any gd B fs c w hB h hi.n hm hc hcl).mono fun _ _ ⟨e', fs', h1, h2⟩ => ⟨e', fs', .inr (.inr (.inr (.inr (.inr (.inr (.inr ⟨e, h1⟩)))))), h2⟩
theorem putName_len (N : List Nm) (t : Nm) : (putName N t).length = N.length + 1 := by
  have h := congrArg List.length (List.takeWhile_append_dropWhile (p := fun n : Nm => decide (lb n.nm < lb t.nm)) (l := N))
  unfold putName
  rw [List.length_append] at h
  rw [List.length_append, List.length_cons]
  omega
theorem rmName_len (N : List Nm) (s : ByteArray) : (rmName N s).length ≤ N.length := List.length_filter_le _ _
theorem MetSt.small {fs fs' : FS} {c : Ch} {e : Int} (h : MetSt fs c e fs') (hi : DInv fs) : Small fs' := by
  have hm := hi.small
  have h1 := hi.bn
  have h2 := hi.bf
  have h3 := hi.bo
  rcases h with ⟨_, h⟩ | ⟨_, h⟩ | ⟨_, h⟩ | ⟨_, h⟩ | ⟨_, h⟩ | ⟨_, h⟩ | ⟨_, h⟩ | ⟨_, h⟩
  · rcases h with ⟨_, _, rfl⟩ | ⟨_, ⟨_, _, rfl⟩ | ⟨_, _, _, rfl⟩ | ⟨_, _, _, k, dv, _, rfl⟩⟩
    · exact hm
    · exact hm
    · exact hm
    · exact ⟨by simp only [putName_len]; omega, Nat.le_trans (putFile_len _ _ _) (by omega), hm.o⟩
  · rcases h with ⟨_, _, rfl⟩ | ⟨i, k, hi', hk, _, _, ⟨_, _, rfl⟩ | ⟨_, _, _, rfl⟩ | ⟨_, _, _, dv, rfl⟩⟩
    · exact hm
    · exact hm
    · exact hm
    · exact ⟨hm.n, by simp only [List.length_set]; exact hm.f, hm.o⟩
  · rcases h with ⟨_, _, rfl⟩ | ⟨i, k, hi', hk, _, _, ⟨_, _, rfl⟩ | ⟨_, _, rfl⟩⟩
    · exact hm
    · exact hm
    · exact ⟨hm.n, by simp only [List.length_set]; exact hm.f, hm.o⟩
  · rcases h with ⟨_, _, rfl⟩ | ⟨i, k, hi', hk, _, _, ⟨_, _, rfl⟩ | ⟨_, _, rfl⟩⟩
    · exact hm
    · exact hm
    · exact ⟨by simp only [putName_len]; have a := rmName_len (rmName fs.N c.name) c.dst; have b := rmName_len fs.N c.name; omega, hm.f, hm.o⟩
  · rcases h with ⟨_, _, rfl⟩ | ⟨i, k, hi', hk, _, _, ⟨_, _, _, rfl⟩ | ⟨_, ⟨_, _, rfl⟩ | ⟨_, ⟨_, _, rfl⟩ | ⟨_, _, k2, dv, _, rfl⟩⟩⟩⟩
    · exact hm
    · exact hm
    · exact hm
    · exact hm
    · exact ⟨by simp only [putName_len]; omega, Nat.le_trans (putFile_len _ _ _) (by omega), hm.o⟩
  · rcases h with ⟨_, _, rfl⟩ | ⟨i, k, hi', hk, _, _, ⟨_, _, rfl⟩ | ⟨_, ⟨_, _, rfl⟩ | ⟨_, _, rfl⟩⟩⟩
    · exact hm
    · exact hm
    · exact hm
    · exact ⟨hm.n, by simp only [List.length_set]; exact hm.f, hm.o⟩
  · rcases h with ⟨_, _, rfl⟩ | ⟨_, _, rfl⟩
    · exact hm
    · exact ⟨Nat.le_trans (rmName_len _ _) hm.n, hm.f, hm.o⟩
  · rcases h with ⟨_, _, rfl⟩ | ⟨i, hi', _, ⟨_, _, rfl⟩ | ⟨_, _, k, dv, _, rfl⟩⟩
    · exact hm
    · exact hm
    · exact ⟨by simp only [List.length_set]; exact hm.n, Nat.le_trans (putFile_len _ _ _) (by omega), hm.o⟩
/-- Blocks of a type. -/
def tyB (w : World) (t : TypeId) (b : Nat) : Prop := ∃ cur f, w.heap[b]? = some (.cells cur t f)
theorem tyB.lt_ {w : World} {t : TypeId} {b : Nat} (h : tyB w t b) : b < w.heap.size := by obtain ⟨_, _, h⟩ := h; exact (Array.getElem?_eq_some_iff.1 h).1
theorem tyB.ne {w : World} {g : Nat} {cs : Array Value} {t e : TypeId} {f : Nat × Nat} (h : w.heap[g]? = some (.cells cs t f)) (ht : t ≠ e) : ∀ b, tyB w e b → some b ≠ some g := by
  rintro b ⟨cur, f', hb⟩ e
  injection e with e
  subst e
  rw [h] at hb
  injection hb with hb
  injection hb with _ hb _
  exact ht hb
theorem Sl.tyGrown {w w' : World} {t : TypeId} {size n : Nat} {v : Value} {xs : List Value} {row : Option Nat} (h : Sl w (tyB w t) size v n xs) (hg : w.grownBy w' row) (hr : ∀ b, tyB w t b → some b ≠ row) : Sl w' (tyB w' t) size v n xs := by
  obtain ⟨hl, A, c, hv, hc, hrr⟩ := h
  refine ⟨hl, A, c, hv, hc, fun hn => ?_⟩
  obtain ⟨b, o, hA, hb, hrow⟩ := hrr hn
  have hlt := hb.lt_
  have hne := hr b hb
  obtain ⟨cur, f, hb⟩ := hb
  exact ⟨b, o, hA, ⟨cur, f, (hg.block b hlt hne).trans hb⟩, hrow.keep fun p hp => World.cell?_of_block (hg.block p.block (hp ▸ hlt) (hp ▸ hne))⟩
theorem own_ty {w : World} {base e size n : Nat} {v : Value} {xs : List Value} (h : w.ownsRow base e size v n xs) : Sl w (tyB w e) size v n xs := by
  have h1 := Sl.of_own_btw h
  obtain ⟨hl, A, c, hv, hc, hrr⟩ := h1
  refine ⟨hl, A, c, hv, hc, fun hn => ?_⟩
  obtain ⟨b, o, hA, hb, hrow⟩ := hrr hn
  have hob : v.ownBlock = some b := by
    rcases h.2 with ⟨hv2, h0⟩ | ⟨g, cap, cur, h1, _⟩
    · omega
    · rw [h1] at hv
      injection hv with e1 _ _
      rw [hA] at e1
      injection e1 with e1
      injection e1 with e1 _ _
      rw [h1, ← e1]; rfl
  obtain ⟨_, cur, _, _, h2, _⟩ := own_at h hob
  exact ⟨b, o, hA, ⟨cur, _, h2⟩, hrow⟩
/-- A directory to be read, each list in a block of its type. -/
structure FsT (w : World) (vN vF vO : Value) (fs : FS) : Prop where
  n : Sl w (tyB w 57) 2 vN fs.N.length (nms fs.N)
  f : Sl w (tyB w 60) 5 vF fs.F.length (fis fs.F)
  o : Sl w (tyB w 3) 1 vO fs.O.length (ints fs.O)
  d : ∀ t ∈ fs.F, FiR w t
theorem FsT.r {w : World} {vN vF vO : Value} {fs : FS} (h : FsT w vN vF vO fs) : FsR w vN vF vO fs := ⟨h.n.mono fun _ hb => hb.lt_, h.f.mono fun _ hb => hb.lt_, h.o.mono fun _ hb => hb.lt_, h.d⟩
theorem FsT.up {w w' : World} {vN vF vO : Value} {fs : FS} (h : FsT w vN vF vO fs) (hb : Below w.heap.size w w') : FsT w' vN vF vO fs :=
  ⟨h.n.tyGrown (grownBy_of_below hb none) (by simp), h.f.tyGrown (grownBy_of_below hb none) (by simp), h.o.tyGrown (grownBy_of_below hb none) (by simp), fun t ht => (h.d t ht).up hb⟩
theorem FsT.grown {w w' : World} {g : Nat} {cs : Array Value} {t : TypeId} {vN vF vO : Value} {fs : FS} (h : FsT w vN vF vO fs) (hb : Blk w g t cs) (hg : w.grownBy w' (some g)) (h1 : t ≠ 57) (h2 : t ≠ 60) (h3 : t ≠ 3) (h4 : t ≠ 5) : FsT w' vN vF vO fs :=
  ⟨h.n.tyGrown hg (tyB.ne hb h1), h.f.tyGrown hg (tyB.ne hb h2), h.o.tyGrown hg (tyB.ne hb h3), fun x hx => (h.d x hx).grown hg (noU8 hb h4)⟩
theorem FsO.t {w : World} {B : Nat} {vN vF vO : Value} {fs : FS} (h : FsO w B vN vF vO fs) : FsT w vN vF vO fs := ⟨own_ty h.n, own_ty h.f, own_ty h.o, h.d⟩
theorem FsT.new (w : World) : FsT w (.slice none 0 0) (.slice none 0 0) (.slice none 0 0) ⟨[], [], []⟩ := ⟨Sl.nil _ _ _ _ _, Sl.nil _ _ _ _ _, Sl.nil _ _ _ _ _, by simp⟩
/-- What Do does. -/
def DoSt (fs : FS) (c : Ch) (e : Int) (fs' : FS) : Prop :=
  ((c.kind < 1 ∨ 8 < c.kind) ∧ e = 2 ∧ fs' = fs) ∨ ((1 ≤ c.kind ∧ c.kind ≤ 8) ∧
    (((vld c.name = false ∨ ((c.kind = 4 ∨ c.kind = 5) ∧ vld c.dst = false)) ∧ e = 6 ∧ fs' = fs) ∨
     ((vld c.name = true ∧ ((c.kind = 4 ∨ c.kind = 5) → vld c.dst = true)) ∧ ((e ≠ 0 ∧ fs' = fs ∧ ∃ fs2, MetSt fs c e fs2) ∨ (e = 0 ∧ ∃ fs2, MetSt fs c 0 fs2 ∧ fs' = purged fs2)))))
def DoRes (fs : FS) (c : Ch) (w : World) (x : Ending) (w' : World) : Prop := ∃ (e : Int) (fs' : FS) (vN vF vO : Value), x = .returned (.tuple #[.agg #[vN, vF, vO], .int .i64 e]) ∧ FsT w' vN vF vO fs' ∧ DoSt fs c e fs' ∧ Below w.heap.size w w'
set_option maxHeartbeats 8000000 in
set_option maxRecDepth 100000 in
theorem do_range (vN vF vO : Value) (fs : FS) (c : Ch) (w : World) (h : FsT w vN vF vO fs) (hc : BR w c.dv c.data) (hk : c.kind < 1 ∨ 8 < c.kind) :
    Calls Tryd.prog 15 #[.agg #[vN, vF, vO], .agg (chV c)] w (DoRes fs c w) := by
  obtain ⟨A1, c1, rfl, _, _⟩ := h.n.form
  obtain ⟨A2, c2, rfl, _, _⟩ := h.f.form
  obtain ⟨A3, c3, rfl, _, _⟩ := h.o.form
  obtain ⟨A, cc, hv, _, _⟩ := Sl.form hc
  obtain ⟨kind, name, dst, dv, data, n⟩ := c
  simp only at hv hk
  subst hv
  simp only [chV]
  have HH := keep h
  clear h hc
  have hb1 : Below w.heap.size w (((w.alloc (.cells #[.slice A1 fs.N.length c1, .slice A2 fs.F.length c2, .slice A3 fs.O.length c3] 33)).alloc (.cells #[.int .i64 kind, .string name, .string dst, .slice A data.length cc, .int .i64 n] 39)).alloc (.cells #[.slice A1 fs.N.length c1, .slice A2 fs.F.length c2, .slice A3 fs.O.length c3] 33)) :=
    (((Below.refl _ w).alloc (Nat.le_refl _) _).alloc (by simp) _).alloc (by simp; omega) _
  have HB1 := keep hb1
  clear hb1
  rcases hk with hk | hk
  · have d1 : decide (kind < 1) = true := decide_eq_true hk
    go_enter Tryd.func15, Tryd.ntmps15
    go_wp2_with fail
    refine bodyPost_ret (results_cell_row_tmp rfl _ _ (w.heap.size + 1 + 1) _ _ _ _ rfl (Blk.new_at (by simp)) Tryd.underlying33 rfl (by kernel_rfl)) rfl ?_
    exact ⟨2, fs, _, _, _, rfl, HH.out.up HB1.out, .inl ⟨.inl hk, rfl, rfl⟩, HB1.out⟩
  · have d1 : decide (kind < 1) = false := decide_eq_false (by omega)
    have d2 : decide (8 < kind) = true := decide_eq_true hk
    go_enter Tryd.func15, Tryd.ntmps15
    go_wp2_with fail
    refine bodyPost_ret (results_cell_row_tmp rfl _ _ (w.heap.size + 1 + 1) _ _ _ _ rfl (Blk.new_at (by simp)) Tryd.underlying33 rfl (by kernel_rfl)) rfl ?_
    exact ⟨2, fs, _, _, _, rfl, HH.out.up HB1.out, .inl ⟨.inr hk, rfl, rfl⟩, HB1.out⟩
end Go.Proofs.YtgegmefnbkcdkaaDoor
