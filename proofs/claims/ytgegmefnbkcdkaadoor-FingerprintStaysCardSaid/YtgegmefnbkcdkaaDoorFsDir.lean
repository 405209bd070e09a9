/- A directory: as a value that is shared, and as one that is being changed. clone. -/
import Derived.Test.YtgegmefnbkcdkaaDoorFsPurge1
import Derived.Test.YtgegmefnbkcdkaaDoorFsDel
namespace Go.Proofs.YtgegmefnbkcdkaaDoor
open Go.RowKit
structure FS where
  N : List Nm
  F : List Fi
  O : List Int
def ints (O : List Int) : List Value := O.map (.int .i64)
/-- The three lists of a directory, to be read. -/
structure FsR (w : World) (vN vF vO : Value) (fs : FS) : Prop where
  n : Sl w (lt w.heap.size) 2 vN fs.N.length (nms fs.N)
  f : Sl w (lt w.heap.size) 5 vF fs.F.length (fis fs.F)
  o : Sl w (lt w.heap.size) 1 vO fs.O.length (ints fs.O)
  d : ∀ t ∈ fs.F, FiR w t
theorem FsR.up {w w' : World} {vN vF vO : Value} {fs : FS} (h : FsR w vN vF vO fs) (hb : Below w.heap.size w w') : FsR w' vN vF vO fs :=
  ⟨h.n.upW hb, h.f.upW hb, h.o.upW hb, fun t ht => (h.d t ht).up hb⟩
/-- The three lists, the call's own. -/
structure FsO (w : World) (B : Nat) (vN vF vO : Value) (fs : FS) : Prop where
  n : w.ownsRow B 57 2 vN fs.N.length (nms fs.N)
  f : w.ownsRow B 60 5 vF fs.F.length (fis fs.F)
  o : w.ownsRow B 3 1 vO fs.O.length (ints fs.O)
  d : ∀ t ∈ fs.F, FiR w t
theorem FsO.r {w : World} {B : Nat} {vN vF vO : Value} {fs : FS} (h : FsO w B vN vF vO fs) : FsR w vN vF vO fs := ⟨Sl.of_own h.n, Sl.of_own h.f, Sl.of_own h.o, h.d⟩
theorem FsO.up {w w' : World} {B : Nat} {vN vF vO : Value} {fs : FS} (h : FsO w B vN vF vO fs) (hb : Below w.heap.size w w') : FsO w' B vN vF vO fs :=
  ⟨own_bel h.n hb, own_bel h.f hb, own_bel h.o hb, fun t ht => (h.d t ht).up hb⟩
/-- A directory that is being changed. -/
def Dir (w : World) (B gd : Nat) (fs : FS) : Prop := B ≤ gd ∧ ∃ vN vF vO, Blk w gd 74 #[vN, vF, vO] ∧ FsO w B vN vF vO fs
/-- The bounds of a directory. -/
structure Small (fs : FS) : Prop where
  n : fs.N.length ≤ 1000
  f : fs.F.length ≤ 1000
  o : fs.O.length ≤ 100000
theorem ints_one (O : List Int) : ∀ u ∈ ints O, u.oneCell' = true := by
  intro u hu
  obtain ⟨x, _, rfl⟩ := List.mem_map.1 hu
  rfl
def CloneRes (fs : FS) (w : World) (x : Ending) (w' : World) : Prop := ∃ gd, x = .returned (.pointer (some ⟨gd, 0, none⟩)) ∧ Dir w' w.heap.size gd fs ∧ Below w.heap.size w w'
set_option maxHeartbeats 4000000 in
set_option maxRecDepth 100000 in
theorem clone_any (vN vF vO : Value) (fs : FS) (w : World) (h : FsR w vN vF vO fs) (hm : Small fs) : Calls Tryd.prog 25 #[.agg #[vN, vF, vO]] w (CloneRes fs w) := by
  obtain ⟨A1, c1, rfl, _, _⟩ := h.n.form
  obtain ⟨A2, c2, rfl, _, _⟩ := h.f.form
  obtain ⟨A3, c3, rfl, _, _⟩ := h.o.form
  obtain ⟨W, hW⟩ : ∃ W, W = w.alloc (.cells #[.slice A1 fs.N.length c1, .slice A2 fs.F.length c2, .slice A3 fs.O.length c3] 33) := ⟨_, rfl⟩
  have hBk : Blk W w.heap.size 33 #[.slice A1 fs.N.length c1, .slice A2 fs.F.length c2, .slice A3 fs.O.length c3] := hW ▸ Blk.new _ _ _
  have hb : Below w.heap.size w W := hW ▸ (Below.refl _ w).alloc (Nat.le_refl _) _
  have k0 : W.cell? ⟨w.heap.size, 0, none⟩ = some (.slice A1 fs.N.length c1) := (hBk.cell 0).trans rfl
  have k1 : W.cell? ⟨w.heap.size, 1, none⟩ = some (.slice A2 fs.F.length c2) := (hBk.cell 1).trans rfl
  have k2 : W.cell? ⟨w.heap.size, 2, none⟩ = some (.slice A3 fs.O.length c3) := (hBk.cell 2).trans rfl
  have l3 : w.heap.size < W.heap.size := World.block_lt_of_cell? W _ k0
  have hR := h.up hb
  have hcN := fun a (h : Held W.heap.size W a) => clone_Nm _ fs.N.length (nms fs.N) a _ (hR.up h.2.2).n (nms_one _) (fun _ hb => hb) (by have := hm.n; omega)
  have hcF := fun a (h : Held W.heap.size W a) => clone_Fi _ fs.F.length (fis fs.F) a _ (hR.up h.2.2).f (fis_one _ (hR.up h.2.2).d) (fun _ hb => hb) (by have := hm.f; omega)
  have hcO := fun a (h : Held W.heap.size W a) => clone_In _ fs.O.length (ints fs.O) a _ (hR.up h.2.2).o (ints_one _) (fun _ hb => hb) (by have := hm.o; omega)
  have HCN := keep hcN
  have HCF := keep hcF
  have HCO := keep hcO
  have HB := keep hb
  have HR := keep hR
  clear h hBk hb hR hcN hcF hcO hm
  go_enter Tryd.func25, Tryd.ntmps25
  go_wp2_with fail
  rw [← hW]
  clear hW
  go_region_held3 (Held W.heap.size W) (first | exact Held.start _ _ | exact Held.call (by assumption) (by assumption) (Nat.le_refl _) | exact Held.alloc (by assumption) _ (Nat.le_refl _) | assumption)
    (first
      | (go_at_call 33; (with_reducible refine (HCN.out _ (by assumption)).mono ?_); rintro e w5 ⟨v5, rfl, ho5, hb5⟩; obtain ⟨A5, c5, rfl, _⟩ := own_sl ho5)
      | (go_at_call 34; (with_reducible refine (HCF.out _ (by assumption)).mono ?_); rintro e w6 ⟨v6, rfl, ho6, hb6⟩; obtain ⟨A6, c6, rfl, _⟩ := own_sl ho6)
      | (go_at_call 35; (with_reducible refine (HCO.out _ (by assumption)).mono ?_); rintro e w7 ⟨v7, rfl, ho7, hb7⟩; obtain ⟨A7, c7, rfl, _⟩ := own_sl ho7)
      | fail)
  have hz5 := hb5.size
  simp only [World.size_drew] at hz5
  have hz6 := hb6.size
  have hz7 := hb7.size
  have hzb := HB.out.size
  have hb5' : Below W.heap.size W w5 := ⟨hb5.os, hb5.tape, hb5.output, hb5.size, hb5.block⟩
  have hbf := bchain (bchain (bchain HB.out hb5') hb6) hb7
  have hOwn : FsO w7 w.heap.size (.slice A5 fs.N.length c5) (.slice A6 fs.F.length c6) (.slice A7 fs.O.length c7) fs :=
    ⟨own_base (own_bel (own_bel ho5 hb6) hb7) (by simp only [World.size_drew]; omega), own_base (own_bel ho6 hb7) (by omega), own_base ho7 (by omega), fun t ht => (((HR.out.d t ht).up hb5').up hb6).up hb7⟩
  have hal : Below w7.heap.size w7 (w7.alloc (Obj.cells #[Value.slice A5 fs.N.length c5, Value.slice A6 fs.F.length c6, Value.slice A7 fs.O.length c7] 74)) := (Below.refl _ w7).alloc (Nat.le_refl _) _
  have HF := keep (And.intro (show Dir (w7.alloc (Obj.cells #[Value.slice A5 fs.N.length c5, Value.slice A6 fs.F.length c6, Value.slice A7 fs.O.length c7] 74)) w.heap.size w7.heap.size fs from ⟨by omega, _, _, _, Blk.new _ _ _, hOwn.up hal⟩) (bchain hbf hal))
  clear ho5 ho6 ho7 hb5 hb6 hb7 hb5' hbf hOwn hal HCN HCF HCO HR HB
  go_wp2_with fail
  go_ret
  exact ⟨_, rfl, HF.out.1, HF.out.2⟩
/-- The frame of a method: old memory is as it was. -/
theorem goes_eq (N : List Nm) (O : List Int) (t : Fi) : goes N O t = (!O.contains t.ino && !N.any fun n => n.ino == t.ino) := rfl
/-- What is left behind purge. -/
def purged (fs : FS) : FS := ⟨fs.N, fs.F.filter fun t => !goes fs.N fs.O t, fs.O⟩
/-- Only a directory's boxes and rows may have changed. -/
def TyKeep (w w' : World) : Prop := w.heap.size ≤ w'.heap.size ∧ ∀ (b : Nat) (cur : Array Value) (t : TypeId) (f : Nat × Nat), w.heap[b]? = some (.cells cur t f) → t ≠ 74 → t ≠ 60 → t ≠ 57 → w'.heap[b]? = some (.cells cur t f)
theorem TyKeep.trans {a b c : World} (h : TyKeep a b) (k : TyKeep b c) : TyKeep a c := ⟨Nat.le_trans h.1 k.1, fun i cur t f h1 h2 h3 h4 => k.2 i cur t f (h.2 i cur t f h1 h2 h3 h4) h2 h3 h4⟩
theorem TyKeep.of_below {w w' : World} (hb : Below w.heap.size w w') : TyKeep w w' := ⟨hb.size, fun b _ _ _ h _ _ _ => (hb.block b (Array.getElem?_eq_some_iff.1 h).1).trans h⟩
theorem TyKeep.grown {w w' : World} {B e size n : Nat} {v : Value} {xs : List Value} (hg : w.grownBy w' v.ownBlock) (ho : w.ownsRow B e size v n xs) (he : e = 60 ∨ e = 57) : TyKeep w w' :=
  ⟨hg.size, fun b cur t f h _ h3 h4 => (hg.block b (Array.getElem?_eq_some_iff.1 h).1 (fun e' => by
    obtain ⟨_, _, _, _, h2, _⟩ := own_at ho e'.symm
    rw [h] at h2
    injection h2 with h2
    injection h2 with _ h2 _
    rcases he with he | he
    · exact h3 (h2.trans he)
    · exact h4 (h2.trans he))).trans h⟩
theorem TyKeep.set_ {w : World} {gd : Nat} {cs : Array Value} (hb : Blk w gd 74 cs) (i : Nat) (u : Value) : TyKeep w (w.setCell ⟨gd, i, none⟩ u) :=
  ⟨by simp [World.setCell], fun b cur t f h h2 _ _ => (Below.heap_setCell w _ u b (fun e => by
    subst e
    rw [show w.heap[b]? = _ from hb] at h
    injection h with h
    injection h with _ h _
    exact h2 h.symm)).trans h⟩
def DirRes (B gd : Nat) (fs : FS) (w : World) (x : Ending) (w' : World) : Prop := x = .returned (.tuple #[]) ∧ Dir w' B gd fs ∧ Below B w w' ∧ TyKeep w w'
theorem own_apart {w : World} {B B' e e' size size' k k' : Nat} {v v' : Value} {xs xs' : List Value} (h : w.ownsRow B e size v k xs) (h' : w.ownsRow B' e' size' v' k' xs') (hne : e ≠ e') : v.ownBlock = none ∨ v.ownBlock ≠ v'.ownBlock := by
  cases hv : v.ownBlock with
  | none => exact .inl rfl
  | some i =>
    refine .inr fun he => ?_
    obtain ⟨_, cur, _, _, h1, _⟩ := own_at h hv
    obtain ⟨_, cur2, _, _, h2, _⟩ := own_at h' he.symm
    rw [h1] at h2
    injection h2 with h2
    injection h2 with _ h2 _
    exact hne h2
/-- A row lies apart from a block of another type. -/
theorem own_off {w : World} {B e size n gd : Nat} {v : Value} {xs : List Value} {t : TypeId} {cs : Array Value} (ho : w.ownsRow B e size v n xs) (hb : Blk w gd t cs) (he : e ≠ t) : v.ownBlock ≠ some gd := fun h => by
  obtain ⟨_, _, _, _, h2, _⟩ := own_at ho h
  rw [show w.heap[gd]? = _ from hb] at h2
  injection h2 with h2
  injection h2 with _ h2 _
  exact he h2.symm
theorem own_ge {w : World} {B e size n : Nat} {v : Value} {xs : List Value} (ho : w.ownsRow B e size v n xs) : ∀ k, v.ownBlock = some k → B ≤ k := fun k hk => by
  obtain ⟨_, _, _, h1, _⟩ := own_at ho hk
  exact h1
/-- A store into a field of a directory. -/
theorem FsO.set_ {w : World} {B gd : Nat} {vN vF vO : Value} {fs : FS} {cs : Array Value} (h : FsO w B vN vF vO fs) (hb : Blk w gd 74 cs) (i : Nat) (u : Value) : FsO (w.setCell ⟨gd, i, none⟩ u) B vN vF vO fs := by
  have hg := grownBy_set (World.grownBy.refl w (some gd)) i u
  exact ⟨h.n.kept hg (.inr (own_off h.n hb (by decide))), h.f.kept hg (.inr (own_off h.f hb (by decide))), h.o.kept hg (.inr (own_off h.o hb (by decide))), fun t ht => (h.d t ht).grown hg (noU8 hb (by decide))⟩
/-- The list of files was edited in place. -/
theorem FsO.putF {w w' : World} {B : Nat} {vN vF vO v' : Value} {N : List Nm} {F F' : List Fi} {O : List Int} (h : FsO w B vN vF vO ⟨N, F, O⟩) (hg : w.grownBy w' vF.ownBlock) (hf : w'.ownsRow B 60 5 v' F'.length (fis F')) (hd : ∀ t ∈ F', FiR w' t) : FsO w' B vN v' vO ⟨N, F', O⟩ :=
  ⟨h.n.kept hg (own_apart h.n h.f (by decide)), hf, h.o.kept hg (own_apart h.o h.f (by decide)), hd⟩
/-- The list of names was edited in place. -/
theorem FsO.putN {w w' : World} {B : Nat} {vN vF vO v' : Value} {N N' : List Nm} {F : List Fi} {O : List Int} (h : FsO w B vN vF vO ⟨N, F, O⟩) (hg : w.grownBy w' vN.ownBlock) (hn : w'.ownsRow B 57 2 v' N'.length (nms N')) : FsO w' B v' vF vO ⟨N', F, O⟩ :=
  ⟨hn, h.f.kept hg (own_apart h.f h.n (by decide)), h.o.kept hg (own_apart h.o h.n (by decide)), fun t ht => (h.d t ht).grown hg (own_noU8 h.n (by decide))⟩
set_option maxHeartbeats 4000000 in
set_option maxRecDepth 100000 in
theorem purge_any (gd B : Nat) (fs : FS) (w : World) (hB : B ≤ w.heap.size) (h : Dir w B gd fs) (hm : Small fs) : Calls Tryd.prog 26 #[.pointer (some ⟨gd, 0, none⟩)] w (DirRes B gd (purged fs) w) := by
  obtain ⟨hBg, vN, vF, vO, hBk, hO⟩ := h
  obtain ⟨A1, c1, rfl, _⟩ := own_sl hO.n
  obtain ⟨A2, c2, rfl, _⟩ := own_sl hO.f
  obtain ⟨A3, c3, rfl, _⟩ := own_sl hO.o
  obtain ⟨W, hW⟩ : ∃ W, W = w.alloc (.cells #[.pointer (some ⟨gd, 0, none⟩)] 69) := ⟨_, rfl⟩
  have hBx : Blk W w.heap.size 69 #[.pointer (some ⟨gd, 0, none⟩)] := hW ▸ Blk.new _ _ _
  have hb : Below w.heap.size w W := hW ▸ (Below.refl _ w).alloc (Nat.le_refl _) _
  have hBk' := hBk.below hb hBk.lt
  have hO' := hO.up hb
  have k0 : W.drew.cell? ⟨w.heap.size, 0, none⟩ = some (.pointer (some ⟨gd, 0, none⟩)) := (hBx.cell 0).trans rfl
  have k1 : W.drew.cell? ⟨gd, 1, none⟩ = some (.slice A2 fs.F.length c2) := (hBk'.cell 1).trans rfl
  have hgW : gd < W.heap.size := hBk'.lt
  have hxW : w.heap.size < W.heap.size := hBx.lt
  have hOd : FsO W.drew B (.slice A1 fs.N.length c1) (.slice A2 fs.F.length c2) (.slice A3 fs.O.length c3) fs := hO'.up (Below.refl _ W).drew
  have hBd : Blk W.drew gd 74 #[.slice A1 fs.N.length c1, .slice A2 fs.F.length c2, .slice A3 fs.O.length c3] := hBk'
  have hXd : Blk W.drew w.heap.size 69 #[.pointer (some ⟨gd, 0, none⟩)] := hBx
  have hdel := delete_fi 37 _ #[.pointer (some ⟨w.heap.size, 0, none⟩)] (goes fs.N fs.O) fs.F W.drew B (fun args w => by kernel_rfl) hOd.f hOd.d (fun t ht X hg => by
    have hbX := hBd.grown hg (fun e => own_off hOd.f hBd (by decide) e.symm)
    exact purge1 t w.heap.size gd _ _ fs.N fs.O X ((hOd.d t ht).grown hg (own_noU8 hOd.f (by decide))) (((hXd.grown hg (fun e => own_off hOd.f hXd (by decide) e.symm)).cell 0).trans rfl) ((hbX.cell 0).trans rfl) ((hbX.cell 2).trans rfl)
      (Sl.of_own (hOd.n.kept hg (own_apart hOd.n hOd.f (by decide)))) (Sl.of_own (hOd.o.kept hg (own_apart hOd.o hOd.f (by decide)))) (by have := hm.n; omega) (by have := hm.o; omega)) (by have := hm.f; omega)
  have HDEL := keep hdel
  have HBD := keep hBd
  have HOD := keep hOd
  have HXD := keep hXd
  have hbB : Below B w W.drew := (hb.mono hB).drew
  have HBB := keep hbB
  have HTK := keep (TyKeep.of_below hb.drew)
  clear hdel hBd hOd hXd hBx hBk hO hb hBk' hO' hm hbB
  go_enter Tryd.func26, Tryd.ntmps26
  go_wp2_with fail
  rw [← hW]
  clear hW
  have kw0 : W.cell? ⟨w.heap.size, 0, none⟩ = some (.pointer (some ⟨gd, 0, none⟩)) := k0
  have kw1 : W.cell? ⟨gd, 1, none⟩ = some (.slice A2 fs.F.length c2) := k1
  have hXD : Blk W.drew w.heap.size 69 #[.pointer (some ⟨gd, 0, none⟩)] := HXD.out
  go_region_with ((go_at_call 36; refine HDEL.out.mono ?_; rintro e w3 ⟨v3, rfl, ho3, hg3⟩
                   obtain ⟨A5, c5, rfl, _⟩ := own_sl ho3
                   have hb3 := HBD.out.grown hg3 (fun e => own_off HOD.out.f HBD.out (by decide) e.symm)
                   have hx3 := hXD.grown hg3 (fun e => own_off HOD.out.f hXD (by decide) e.symm)
                   have q0 : w3.cell? ⟨w.heap.size, 0, none⟩ = some (.pointer (some ⟨gd, 0, none⟩)) := (hx3.cell 0).trans rfl
                   have q1 : w3.cell? ⟨gd, 1, none⟩ = some (.slice A2 fs.F.length c2) := (hb3.cell 1).trans rfl
                   have q2 : w3.frozen? ⟨gd, 1, none⟩ = false := hb3.frozen 1))
  all_goals
    have hO3 := HOD.out.putF hg3 ho3 (fun t ht => (HOD.out.d t (List.mem_filter.1 ht).1).grown hg3 (own_noU8 HOD.out.f (by decide)))
    have hD : Dir (w3.setCell ⟨gd, 1, none⟩ (.slice A5 (purged fs).F.length c5)) B gd (purged fs) := ⟨hBg, _, _, _, hb3.set_ 1 _, hO3.set_ hb3 1 _⟩
    have hBe : Below B w (w3.setCell ⟨gd, 1, none⟩ (.slice A5 (purged fs).F.length c5)) := ((HBB.out.grown hg3 (by simpa using Nat.le_trans hB HBB.out.size) (own_ge HOD.out.f))).setCell (p := ⟨gd, 1, none⟩) hBg _
    have HD := keep hD
    have HBE := keep (And.intro hBe ((HTK.out.trans (TyKeep.grown hg3 HOD.out.f (.inl rfl))).trans (TyKeep.set_ hb3 1 (.slice A5 (purged fs).F.length c5))))
    clear hD hBe hb3 hO3 ho3 hg3 HDEL HBD HOD HBB HTK
    go_wp2_with fail
    go_end0
    exact ⟨rfl, HD.out, HBE.out⟩
end Go.Proofs.YtgegmefnbkcdkaaDoor
