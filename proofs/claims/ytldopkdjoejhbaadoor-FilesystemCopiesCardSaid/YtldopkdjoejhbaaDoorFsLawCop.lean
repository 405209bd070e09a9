/- FilesystemCopies: the walk of the statement. Printed by wip/gen/gencop.py. -/
import Derived.Test.YtldopkdjoejhbaaDoorFsLawRen
import Derived.Test.YtldopkdjoejhbaaDoorSlotsM
namespace Go.Proofs.YtldopkdjoejhbaaDoor
open Go.RowKit

/-- Memory grows, and marks of byte rows may change: every cell stays. -/
structure Mk (w w' : World) : Prop where
  size : w.heap.size ≤ w'.heap.size
  blk : ∀ i, i < w.heap.size → w'.heap[i]? = w.heap[i]? ∨ ∃ cur f f', w.heap[i]? = some (.cells cur 5 f) ∧ w'.heap[i]? = some (.cells cur 5 f')
theorem Mk.of_below {w w' : World} (h : Below w.heap.size w w') : Mk w w' := ⟨h.size, fun i hi => .inl (h.block i hi)⟩
theorem Mk.cell {w w' : World} (h : Mk w w') {p : Addr} (hp : p.block < w.heap.size) : w'.cell? p = w.cell? p := by
  rcases h.blk _ hp with h | ⟨cur, f, f', h1, h2⟩
  · exact World.cell?_of_block h
  · simp [World.cell?, h1, h2]
theorem Mk.ty {w w' : World} (h : Mk w w') {t : TypeId} {k : Nat} (hb : tyB w t k) : tyB w' t k := by
  have hlt := hb.lt_
  obtain ⟨cur, f, hb⟩ := hb
  rcases h.blk _ hlt with h | ⟨cur', f1, f2, h1, h2⟩
  · exact ⟨cur, f, h.trans hb⟩
  · rw [h1] at hb
    injection hb with hb
    injection hb with e1 e2 e3
    subst e1
    subst e2
    exact ⟨cur', f2, h2⟩
theorem Mk.sl {w w' : World} (h : Mk w w') {S S' : Nat → Prop} {size n : Nat} {v : Value} {xs : List Value} (hs : Sl w S size v n xs) (hS : ∀ b, S b → b < w.heap.size ∧ S' b) : Sl w' S' size v n xs := by
  obtain ⟨hl, A, c, hv, hc, hrr⟩ := hs
  refine ⟨hl, A, c, hv, hc, fun hn => ?_⟩
  obtain ⟨b, o, hA, hb, hrow⟩ := hrr hn
  obtain ⟨h1, h2⟩ := hS b hb
  exact ⟨b, o, hA, h2, hrow.keep fun p hp => h.cell (hp ▸ h1)⟩
theorem Mk.br {w w' : World} (h : Mk w w') {v : Value} {l : List UInt8} (hb : BR w v l) : BR w' v l := h.sl hb fun _ hb => ⟨hb, Nat.lt_of_lt_of_le hb h.size⟩
theorem Mk.slT {w w' : World} (h : Mk w w') {t : TypeId} {size n : Nat} {v : Value} {xs : List Value} (hs : Sl w (tyB w t) size v n xs) : Sl w' (tyB w' t) size v n xs := h.sl hs fun _ hb => ⟨hb.lt_, h.ty hb⟩
theorem Mk.chOk {w w' : World} (h : Mk w w') {c : Ch} (hc : ChOk w c) : ChOk w' c := ⟨h.br hc.r, hc.d, hc.n, hc.s, hc.t⟩
theorem Mk.chs {w w' : World} (h : Mk w w') {v : Value} {L : List Ch} (hc : ChsR w v L) : ChsR w' v L := ⟨h.sl hc.s fun _ hb => ⟨hb, Nat.lt_of_lt_of_le hb h.size⟩, fun c hm => h.chOk (hc.c c hm)⟩
theorem Mk.fsT {w w' : World} (h : Mk w w') {vN vF vO : Value} {fs : FS} (hf : FsT w vN vF vO fs) : FsT w' vN vF vO fs := ⟨h.slT hf.n, h.slT hf.f, h.slT hf.o, fun t ht => ⟨h.slT (hf.d t ht).1, (hf.d t ht).2⟩⟩
theorem Mk.bk {w w' : World} (h : Mk w w') {g : Nat} {t : TypeId} {cs : Array Value} (hb : Blk w g t cs) (ht : t ≠ 5) : Blk w' g t cs := by
  rcases h.blk g hb.lt with h | ⟨cur, f1, f2, h1, h2⟩
  · exact h.trans hb
  · exact absurd (by have := h1.symm.trans hb; injection this with this; injection this with _ this _; exact this.symm) ht
/-- The mark of a literal of bytes. -/
theorem alloc_get (w : World) (o : Obj) : (w.alloc o).heap[w.heap.size]? = some o := by unfold World.alloc; simp
theorem run_mark (w : World) (g n c : Nat) (cs : Array Value) (f0 : Nat × Nat) (hb' : w.heap[g]? = some (.cells cs 5 f0)) : ∃ w', (convert 22 22 (.slice (some ⟨g, 0, none⟩) n c)).run Tryd.prog w = .ok (.slice (some ⟨g, 0, none⟩) n c) w' ∧ Mk w w' ∧ ∀ B, B ≤ g → Below B w w' := by
  have hlt := (Array.getElem?_eq_some_iff.1 hb').1
  have hsh : w.shape? g = some (5, cs.size) := by unfold World.shape?; rw [hb']
  have hw : w.heap.modify g (fun o => match o with | .cells c t _ => .cells c t (cs.size, cs.size + 1) | o => o) = w.heap.modify g (fun o => match o with | .cells c t _ => .cells c t (cs.size, cs.size + 1) | o => o) := rfl
  refine ⟨w.freeze ⟨g, cs.size, none⟩ 1, ?_, ?_, ?_⟩
  · simp [convert, run_underlying (P := Tryd.prog) Tryd.underlying22, run_underlying (P := Tryd.prog) Tryd.underlying5, markStringish, hsh]
  · refine ⟨by unfold World.freeze; rw [if_neg (by decide)]; simp, fun i hi => ?_⟩
    by_cases h : g = i
    · subst h
      exact .inr ⟨cs, f0, _, hb', by unfold World.freeze; rw [if_neg (by decide)]; simp only [Array.getElem?_modify, hb', Option.map_some]; rfl⟩
    · exact .inl (by unfold World.freeze; rw [if_neg (by decide)]; simp [Array.getElem?_modify, h])
  · intro B hB
    refine ⟨by unfold World.freeze; rw [if_neg (by decide)], by unfold World.freeze; rw [if_neg (by decide)], by unfold World.freeze; rw [if_neg (by decide)], by unfold World.freeze; rw [if_neg (by decide)]; simp, fun i hi => ?_⟩
    have h : ¬ g = i := by omega
    unfold World.freeze; rw [if_neg (by decide)]; simp [Array.getElem?_modify, h]
/-- A value that is a change. -/
def CV (pc : PC) (v : Value) (w : World) : Prop := ∃ c : Ch, v = .agg (chV c) ∧ c.p = pc ∧ ChOk w c
theorem Mk.cv {w w' : World} (h : Mk w w') {pc : PC} {v : Value} (hc : CV pc v w) : CV pc v w' := by
  obtain ⟨c, h1, h2, h3⟩ := hc
  exact ⟨c, h1, h2, h.chOk h3⟩
def bMore : List UInt8 := [109, 111, 114, 101, 10]
def bNew : List UInt8 := [110, 101, 119, 10]
def pcs4 : List PC := [⟨3, nmA, nmO, [], 0⟩, ⟨2, nmA, nmO, bMore, 0⟩, ⟨7, nmA, nmO, [], 0⟩, ⟨8, nmA, nmO, bNew, 0⟩]
def RunV (pcs : List PC) (v : Value) (w : World) : Prop := ∃ (fs : FS) (vN vF vO vE : Value), v = .tuple #[.agg #[vN, vF, vO], vE] ∧ FsT w vN vF vO fs ∧ fs.p = (runP ⟨[], [], []⟩ pcs).1 ∧ Inv fs ∧ fs.O = [] ∧ Sl w (tyB w 39) 1 vE pcs.length (ints (runP ⟨[], [], []⟩ pcs).2)
theorem Mk.runV {w w' : World} (h : Mk w w') {pcs : List PC} {v : Value} (hr : RunV pcs v w) : RunV pcs v w' := by
  obtain ⟨fs, vN, vF, vO, vE, h1, h2, h3, h4, h5, h6⟩ := hr
  exact ⟨fs, vN, vF, vO, vE, h1, h.fsT h2, h3, h4, h5, h.slT h6⟩
def LitB (B : Nat) (l : List UInt8) (v : Value) (w : World) : Prop := ∃ g, v = .slice (some ⟨g, 0, none⟩) l.length l.length ∧ B ≤ g ∧ BR w v l
def cpPr (vD : Value) (lD : List UInt8) (kn : Nat) (pk : PC) (what : Int) (B : Nat) (i : Nat) (v u : Value) (w : World) : Prop := match i with
  | 0 => v = .agg #[.slice none 0 0, .slice none 0 0, .slice none 0 0]
  | 1 => v = vD
  | 2 => CV ⟨1, nmA, nmO, lD, 0⟩ v w
  | 3 => CV ⟨5, nmA, nmB, [], 0⟩ v w
  | 4 => CV ⟨3, nmA, nmO, [], 0⟩ v w
  | 5 => LitB B bMore v w ∧ ∃ g f, v = .slice (some ⟨g, 0, none⟩) 5 5 ∧ w.heap[g]? = some (.cells (bys bMore).toArray 5 f)
  | 6 => LitB B bMore v w
  | 7 => CV ⟨2, nmA, nmO, bMore, 0⟩ v w
  | 8 => CV ⟨7, nmA, nmO, [], 0⟩ v w
  | 9 => LitB B bNew v w ∧ ∃ g f, v = .slice (some ⟨g, 0, none⟩) 4 4 ∧ w.heap[g]? = some (.cells (bys bNew).toArray 5 f)
  | 10 => LitB B bNew v w
  | 11 => CV ⟨8, nmA, nmO, bNew, 0⟩ v w
  | 12 => ∃ (g : Nat) (L : List Ch), v = .slice (some ⟨g, 0, none⟩) 4 4 ∧ ChsR w v L ∧ L.map Ch.p = pcs4
  | 13 => v = .int .u8 what
  | 14 => v = .int .u8 (kn : Int)
  | 15 => ∃ (g o : Nat) (c : Ch), v = .pointer (some ⟨g, o, none⟩) ∧ c.p = pk ∧ ChOk w c ∧ g < w.heap.size ∧ ∀ j u, (chV c)[j]? = some u → w.cell? ⟨g, o + j, none⟩ = some u
  | 16 => CV pk v w
  | 17 => ∃ (L : List Ch), ChsR w v L ∧ L.map Ch.p = [⟨1, nmA, nmO, lD, 0⟩, ⟨5, nmA, nmB, [], 0⟩, pk]
  | 18 => RunV [⟨1, nmA, nmO, lD, 0⟩, ⟨5, nmA, nmB, [], 0⟩, pk] v w
  | 19 => RunV [⟨1, nmA, nmO, lD, 0⟩, ⟨5, nmA, nmB, [], 0⟩, pk] v w
  | 20 => ∃ b, u = .tuple #[v, b]
  | 21 => ∃ a, u = .tuple #[a, v]
  | 22 => ∃ g, v = .pointer (some ⟨g, 0, none⟩) ∧ Blk w g 31 #[.slice none 0 0, .slice none 0 0, .slice none 0 0] ∧ B ≤ g
  | 24 => v = u
  | _ => True
def cpPv (i : Nat) (v u : Value) : Prop := match i with
  | 21 => ∃ a, u = .tuple #[a, v]
  | 24 => v = u
  | 19 => ∃ a b, v = .tuple #[a, b]
  | _ => True
theorem cp_pv {vD : Value} {lD : List UInt8} {kn : Nat} {pk : PC} {what : Int} {B : Nat} (i : Nat) (v u : Value) (w : World) (h : cpPr vD lD kn pk what B i v u w) : cpPv i v u := by
  unfold cpPr at h
  unfold cpPv
  split
  · exact h
  · exact h
  · obtain ⟨_, _, _, _, _, h, _⟩ := h
    exact ⟨_, _, h⟩
  · trivial
theorem Mk.heap8 {w w' : World} (h : Mk w w') {g : Nat} {cs : Array Value} (hb : ∃ f, w.heap[g]? = some (.cells cs 5 f)) : ∃ f, w'.heap[g]? = some (.cells cs 5 f) := by
  obtain ⟨f, hb⟩ := hb
  rcases h.blk g (Array.getElem?_eq_some_iff.1 hb).1 with h | ⟨cur, f1, f2, h1, h2⟩
  · exact ⟨f, h.trans hb⟩
  · have := h1.symm.trans hb
    injection this with this
    injection this with e _ _
    subst e
    exact ⟨f2, h2⟩
theorem cp_mono {vD : Value} {lD : List UInt8} {kn : Nat} {pk : PC} {what : Int} {B : Nat} (i : Nat) (v u : Value) (w w' : World) (hm : Mk w w') (h : cpPr vD lD kn pk what B i v u w) : cpPr vD lD kn pk what B i v u w' := by
  unfold cpPr at h ⊢
  have hl : ∀ {l : List UInt8} {v : Value}, LitB B l v w → LitB B l v w' := fun ⟨g, h1, h2, h3⟩ => ⟨g, h1, h2, hm.br h3⟩
  split at h
  all_goals first
    | exact h
    | exact hm.cv h
    | exact hm.runV h
    | exact hl h
    | (obtain ⟨h0, g, f, h1, h2⟩ := h; obtain ⟨f', h2'⟩ := hm.heap8 ⟨f, h2⟩; exact ⟨hl h0, g, f', h1, h2'⟩)
    | (obtain ⟨g, L, h1, h2, h3⟩ := h; exact ⟨g, L, h1, hm.chs h2, h3⟩)
    | (obtain ⟨g, o, c, h1, h2, h3, h4, h5⟩ := h; exact ⟨g, o, c, h1, h2, hm.chOk h3, Nat.lt_of_lt_of_le h4 hm.size, fun j u hu => (hm.cell (p := ⟨g, o + j, none⟩) h4).trans (h5 j u hu)⟩)
    | (obtain ⟨L, h1, h2⟩ := h; exact ⟨L, hm.chs h1, h2⟩)
    | (obtain ⟨g, h1, h2, h3⟩ := h; exact ⟨g, h1, hm.bk h2 (by decide), h3⟩)
def cpFin (pcs : List PC) (w0 : World) (v8 v27 : Value) (w : World) : Prop := ∃ (g : Nat) (fs : FS) (vN vF vO vE : Value), v8 = .pointer (some ⟨g, 0, none⟩) ∧ v27 = .tuple #[.agg #[vN, vF, vO], vE] ∧ Blk w g 31 #[vN, vF, vO] ∧ FsT w vN vF vO fs ∧ fs.p = (runP ⟨[], [], []⟩ pcs).1 ∧ Inv fs ∧ fs.O = [] ∧
  Sl w (tyB w 39) 1 vE pcs.length (ints (runP ⟨[], [], []⟩ pcs).2) ∧ Below w0.heap.size w0 w ∧ w0.heap.size ≤ g
def cpT (x : Nat → Value) : Array Value := #[x 0, x 1, x 2, x 3, x 4, x 5, x 6, x 7, x 8, x 9, x 10, x 11, x 12, x 13, x 14, x 15, x 16, x 17, x 18, x 19, x 20, x 21, x 22, x 23, x 24, x 25, x 26, x 27, x 28, x 29, x 30, x 31, x 32, x 33, x 34, x 35, x 36, x 37, x 38, x 39, x 40, x 41, x 42, x 43, x 44, x 45, x 46, x 47, x 48, x 49, x 50, x 51, x 52, x 53, x 54, x 55, x 56, x 57, x 58, x 59, x 60, x 61, x 62, x 63, x 64, x 65, x 66, x 67, x 68, x 69, x 70, x 71, x 72, x 73, x 74, x 75, x 76, x 77, x 78, x 79, x 80, x 81, x 82, x 83, x 84, x 85, x 86, x 87, x 88, x 89, x 90, x 91, x 92, x 93, x 94, x 95, x 96, x 97, x 98, x 99, x 100, x 101, x 102, x 103, x 104, x 105, x 106, x 107, x 108, x 109, x 110, x 111, x 112, x 113, x 114, x 115, x 116, x 117, x 118, x 119, x 120, x 121, x 122, x 123, x 124, x 125, x 126, x 127, x 128, x 129, x 130, x 131, x 132, x 133, x 134, x 135, x 136, x 137, x 138, x 139, x 140, x 141, x 142, x 143, x 144, x 145, x 146, x 147, x 148, x 149, x 150, x 151, x 152, x 153, x 154, x 155, x 156, x 157, x 158, x 159, x 160, x 161, x 162, x 163, x 164, x 165, x 166, x 167, x 168, x 169, x 170]
theorem cpT_eq (x : Nat → Value) : cpT x = ((List.range 171).map x).toArray := by rfl
theorem cpT_get (x : Nat → Value) (i : Nat) (hi : i < 171) : (cpT x)[i]? = some (x i) := by rw [cpT_eq]; simp [hi]
theorem cp_start {P : Program} {c : Code} {Q : Exit → Act → World → Prop} {ds : List Deferred} {w : World} (a : Array Value) (h : a.size = 171) (hh : ∀ x0 : Nat → Value, (∀ k, x0 k = a.getD k undef) → c.wp P Q { tmps := cpT x0, defers := ds } w) : c.wp P Q { tmps := a, defers := ds } w := by
  have e : a = cpT fun k => a.getD k undef := by
    apply Array.ext
    · rw [h]; rfl
    · intro i h1 h2
      have h3 : i < 171 := by omega
      have : ∀ (x : Nat → Value) (i : Nat), i < 171 → (cpT x)[i]? = some (x i) := by
        intro x i hi
        have := cpT_get x i hi
        exact this
      have h4 := this (fun k => a.getD k undef) i h3
      rw [Array.getElem?_eq_getElem h2] at h4
      injection h4 with h4
      rw [h4]
      simp [Array.getD, h1]
  rw [e]
  exact hh _ fun _ => rfl

theorem ch_ptr {w : World} {g k : Nat} {L : List Ch} {pk : PC} {u : Value} {vD : Value} {lD : List UInt8} {kn B : Nat} {what : Int} (hL : ChsR w (.slice (some ⟨g, 0, none⟩) 4 4) L) (hl : L.length = 4) (hk : k < L.length) (hp : L[k].p = pk) :
    cpPr vD lD kn pk what B 15 (.pointer (some ⟨g, k * 5, none⟩)) u w := by
  have hs : Sl w (lt w.heap.size) 5 (.slice (some ⟨g, 0, none⟩) 4 4) L.length (L.flatMap fun c => (chV c).toList) := hL.s
  obtain ⟨_, A', c', hv, _, hrr⟩ := hs
  injection hv with h1 _ _
  subst h1
  obtain ⟨b, o, hA, hb, hrow⟩ := hrr (by omega)
  injection hA with hA
  injection hA with e1 e2 _
  subst e1
  subst e2
  refine ⟨g, k * 5, L[k], rfl, hp, hL.c _ (List.getElem_mem hk), hb, fun j u hu => ?_⟩
  have hj : j < 5 := by
    have := (Array.getElem?_eq_some_iff.1 hu).1
    simpa [chV] using this
  have := hrow (k * 5 + j) u (by
    exact (rows_at chL_len L k hk j hj).trans (by simpa using hu))
  rw [Nat.zero_add] at this
  exact this
set_option maxHeartbeats 16000000 in
set_option maxRecDepth 100000 in
theorem law_copies (vc vp : Value) (bs ps : List Int) (wn : Nat) (w : World) (hg : Chg w) (hsc : Sl w (lt w.heap.size) 1 vc bs.length (bs.map (.int .u8))) (hr : ∀ x ∈ bs, 0 ≤ x ∧ x ≤ 255) (hm : bs.length ≤ maxLen)
    (hsp : Sl w (lt w.heap.size) 1 vp ps.length (ps.map (.int .u8))) (hrp : ∀ x ∈ ps, 0 ≤ x ∧ x ≤ 255) (hmp : ps.length ≤ 140737488351232) (hw1 : wn ≤ 255) :
    Calls Tryd.prog 3 #[vc, vp, .int .u8 (wn : Int)] w fun e w' => e = .returned (.bool true) ∧ Below w.heap.size w w' := by
  obtain ⟨Ac, cc, rfl, hcc, hsc⟩ := hsc.form
  obtain ⟨Ap, cp, rfl, hcp, hsp⟩ := hsp.form
  have HG := keep hg
  have HSP := keep hsp
  have HMP := keep hmp
  clear hg hsp hmp
  go_enter Tryd.func3, Tryd.ntmps3
  go_wp2_with fail
  refine (awake_any w HG.out).mono ?_
  rintro e w1 ⟨rfl, hb1⟩
  go_wp2_with fail
  refine (drawNew _ bs 100 _ ((hsc.below hb1 (Nat.le_refl _)).more hb1.size) hr (by omega) hm).mono ?_
  rintro e w2 ⟨gc, rfl, hgc, hC, hb2⟩
  go_wp2_with fail
  refine (makeData gc _ 4 _ hC (by omega) (by omega)).mono ?_
  rintro e w3 ⟨vD, lD, rfl, hD, hD1, hD2, hC4, hg3⟩
  have hb3 : Below w1.heap.size w1 w3 := hb2.grown hg3 hb2.size (fun k hk => by injection hk with hk; omega)
  have hbw : Below w.heap.size w w3 := bchain hb1 hb3
  have hDl : lD.length ≤ 3000 := by omega
  obtain ⟨AD, cD, rfl, _, hD'⟩ := hD.form
  have HDB := keep hD'.br
  have HBW := keep hbw
  have HG3 := keep (HG.out.up hbw)
  clear hsc hr hm hcc hb1 hgc hC hb2 hD hD1 hD2 hC4 hg3 hb3 hbw hD' HG
  go_wp2_with fail
  rename_i K' hK'
  obtain ⟨kn, hkn⟩ : ∃ kn, wn % 4 = kn := ⟨_, rfl⟩
  obtain ⟨pk, hpk, hpk4⟩ : ∃ pk, pcs4[kn]? = some pk ∧ (pk = ⟨3, nmA, nmO, [], 0⟩ ∨ pk = ⟨2, nmA, nmO, [109, 111, 114, 101, 10], 0⟩ ∨ pk = ⟨7, nmA, nmO, [], 0⟩ ∨ pk = ⟨8, nmA, nmO, [110, 101, 119, 10], 0⟩) := by
    have : kn = 0 ∨ kn = 1 ∨ kn = 2 ∨ kn = 3 := by omega
    rcases this with h | h | h | h <;> rw [h]
    · exact ⟨_, rfl, .inl rfl⟩
    · exact ⟨_, rfl, .inr (.inl rfl)⟩
    · exact ⟨_, rfl, .inr (.inr (.inl rfl))⟩
    · exact ⟨_, rfl, .inr (.inr (.inr rfl))⟩
  have hk4 : kn < 4 := by omega
  refine cp_start _ rfl fun x0 hx0 => ?_
  have y0 : x0 0 = .slice Ac bs.length cc := hx0 0
  have y1 : x0 1 = .slice Ap ps.length cp := hx0 1
  have y2 : x0 2 = .int .u8 (wn : Int) := hx0 2
  have y6 : x0 6 = .bool false := hx0 6
  have y7 : x0 7 = .slice AD lD.length cD := hx0 7
  clear hx0
  have HK' := keep hK'
  clear hK'
  refine wp_region_slotsM (by kernel_rfl) 23 [21, 24] 22 19 (by kernel_rfl) (by kernel_rfl) cpT x0 (Below w3.heap.size w3) Mk (cpPr (.slice AD lD.length cD) lD kn pk (wn : Int) w3.heap.size) cpPv (cpFin [⟨1, nmA, nmO, lD, 0⟩, ⟨5, nmA, nmB, [], 0⟩, pk] w3) (fun j v u a b hab hp => cp_mono j v u a b hab hp) (fun j v u a h => cp_pv j v u a h) ?start ?step ?pure ?last ?done
  case start => exact below_drewN (Below.refl _ _) 1
  case done =>
    intro x w4 hout hpv hfin
    have p24 : x 9 = x 48 := hpv 24 (by decide) (by decide)
    have p21 : ∃ a, x 27 = .tuple #[a, x 48] := hpv 21 (by decide) (by decide)
    obtain ⟨g8, fs4, vN, vF, vO, vE, h8, h27, hX4, hT4, hP4, hI4, hO4, hE4, hb4, hg8⟩ : cpFin [⟨1, nmA, nmO, lD, 0⟩, ⟨5, nmA, nmB, [], 0⟩, pk] w3 (x 8) (x 27) w4 := hfin
    obtain ⟨a, h27'⟩ := p21
    have h48 : x 48 = vE := by
      rw [h27] at h27'
      injection h27' with h27'
      have := congrArg (fun a : Array Value => a[1]?) h27'
      simpa using this.symm
    have z0 : x 0 = .slice Ac bs.length cc := (hout 0 (by decide)).trans y0
    have z1 : x 1 = .slice Ap ps.length cp := (hout 1 (by decide)).trans y1
    have z2 : x 2 = .int .u8 (wn : Int) := (hout 2 (by decide)).trans y2
    have z6 : x 6 = .bool false := (hout 6 (by decide)).trans y6
    have z7 : x 7 = .slice AD lD.length cD := (hout 7 (by decide)).trans y7
    have hcr := cpy_run lD (by omega) pk hpk4
    rw [hcr.1] at hE4
    rw [← hP4] at hcr
    obtain ⟨E1, ce, rfl, _, hE5⟩ := hE4.form
    obtain ⟨eb, eo, rfl, _, hec⟩ := hE5.cells (by simp)
    have he0 := hec 0 _ rfl
    have he1 := hec 1 _ rfl
    have he2 := hec 2 _ rfl
    rw [Nat.add_zero] at he0
    have z9 := p24.trans h48
    have HX4 := keep hX4
    have HT4 := keep hT4
    have HI4 := keep hI4
    have HO4 := keep hO4
    have HB4 := keep hb4
    have HG8 := keep hg8
    have HC4 := keep hcr.2
    have HLK := keep (lookup_any _ _ _ fs4 nmB _ hT4 hI4)
    have HLV : Hid (lookP fs4.N nmB = some 2) := keep hcr.2.n
    have HHV : Hid (hasP fs4.N nmB = true) := keep (by unfold hasP; rw [HLV.out]; rfl)
    obtain ⟨f0, f1, f2⟩ := hX4.cell3
    obtain ⟨B1, d1, rfl, _, _⟩ := hT4.n.form
    obtain ⟨B2, d2, rfl, _, _⟩ := hT4.f.form
    obtain ⟨B3, d3, rfl, _, _⟩ := hT4.o.form
    clear hT4 hI4 hP4 hO4 hE4 hE5 hec hb4 hg8 hX4 hcr hpk hpk4 hk4 hkn h27 h27' h48 p24 hout hpv y0 y1 y2 y6 y7 hsc hsp
    refine HK'.out _ _ ?_
    unfold cpT
    rw [z0, z1, z2, z6, z7, h8, z9]
    clear z0 z1 z2 z6 z7 h8 z9 HK'
    go_wp2_with fail
    refine HLK.out.mono ?_
    rintro e w7 ⟨rfl, hb7⟩
    rw [HLV.out, HHV.out]
    have HT7 := keep (HT4.out.up hb7)
    have HB7 := keep (bchain HB4.out hb7)
    have HX7 := keep (HX4.out.below hb7 HX4.out.lt)
    clear hb7 he0 he1 he2 f0 f1 f2 HLK
    go_wp2_with fail
    have i1 : ps.length + 1 ≤ 9223372036854775807 := by have := HMP.out; omega
    go_loopw [12] (fun k wr => ∃ (m : Nat) (fs : FS) (vN vF vO : Value) (left : Int) (wh : Bool), k = .int .i64 m ∧ m ≤ ps.length + 1 ∧ Hid (Blk wr g8 31 #[vN, vF, vO]) ∧ Hid (FsT wr vN vF vO fs) ∧ Hid (Inv fs) ∧ Hid (fs.O = []) ∧ Hid (Cpy fs.p lD wh left) ∧ Hid (m = ps.length + 1 → wh = true) ∧ Hid (Below w3.heap.size w3 wr)) (fun k _ => ps.length + 1 - (intOf k).toNat)
    case atStart => exact ⟨0, fs4, _, _, _, _, false, rfl, by omega, HX7, HT7, HI4, HO4, HC4, keep (fun h => by omega), HB7⟩
    case round =>
      clear HX7 HT7 HI4 HO4 HC4 HB7 HX4 HT4 HB4
      obtain ⟨m, fs, vN, vF, vO, left, wh, rfl, hm, HX, HT, HI, HO, HC, HW, HB⟩ := hrel
      obtain ⟨wo, rfl⟩ : ∃ wo : World, wo = wr := ⟨_, rfl⟩
      by_cases hlt : m < ps.length + 1
      · have j1 : (m : Int) < (ps.length : Int) + 1 := by omega
        go_upto_if 88 with fail
        go_cut [13] (fun s13 wc => ∃ n : Int, s13 = .int .i64 n ∧ 1 ≤ n ∧ n ≤ 4000 ∧ Hid (m = ps.length → (lD.length : Int) < n) ∧ wc = wo)
        case first =>
          by_cases h2 : m < ps.length
          · have j2 : (m : Int) < (ps.length : Int) := by omega
            obtain ⟨b1, o1, u1, rfl, _, hu1, hc1⟩ := (((HSP.out.below HBW.out (Nat.le_refl _)).more HBW.out.size).below HB.out (Nat.le_refl _)).at_ h2
            rw [List.getElem?_map, List.getElem?_eq_getElem h2] at hu1
            obtain ⟨q, hq⟩ : ∃ q, ps[m] = q := ⟨_, rfl⟩
            obtain ⟨hq0, hq1⟩ : 0 ≤ q ∧ q ≤ 255 := hq ▸ hrp _ (List.getElem_mem h2)
            rw [hq] at hu1
            obtain rfl : u1 = .int .u8 q := (Option.some.inj hu1).symm
            clear hu1 hq hrp
            go_wp2_with fail
            go_meet
            case rel => exact ⟨1 + q % 40, by go_num, by omega, by omega, keep (fun h => by omega), rfl⟩
          · have j2 : ¬ (m : Int) < (ps.length : Int) := by omega
            go_wp2_with fail
            go_meet
            case rel => exact ⟨(lD.length : Int) + 1, by go_num, by omega, by omega, keep (fun _ => by omega), rfl⟩
        case rest =>
          obtain ⟨n, rfl, hn1, hn2, HN, rfl⟩ := hcut
          obtain ⟨f0, f1, f2⟩ := HX.out.cell3
          obtain ⟨C1, e1, rfl, _, _⟩ := HT.out.n.form
          obtain ⟨C2, e2, rfl, _, _⟩ := HT.out.f.form
          obtain ⟨C3, e3, rfl, _, _⟩ := HT.out.o.form
          have HDO := keep (do_any _ _ _ fs ⟨6, nmB, nmO, .slice none 0 0, [], n⟩ _ HT.out HI.out (by rw [HO.out]; simp) (chOk_of (BR.nil _ _ _) ⟨by simp, by show n ≤ 9223372036854775807; omega, by decide, by decide⟩) (HG3.out.up HB.out))
          have HCL : Hid (0 ≤ left ∧ left ≤ lD.length) := keep HC.out.l
          go_wp2_with fail
          refine HDO.out.mono ?_
          rintro e w5 ⟨fs5, vN5, vF5, vO5, rfl, hT5, hP5, hI5, hO5, hb5⟩
          have hP5 : fs5.p = (doP fs.p ⟨6, nmB, nmO, [], n⟩).2 := hP5
          have hO6 : fs5.O = [] := hO5.trans HO.out
          obtain ⟨D1, g1, rfl, _, _⟩ := hT5.n.form
          obtain ⟨D2, g2, rfl, _, _⟩ := hT5.f.form
          obtain ⟨D3, g3, rfl, _, _⟩ := hT5.o.form
          have hal5 : Below w5.heap.size w5 (w5.alloc (.cells #[.slice D1 fs5.N.length g1, .slice D2 fs5.F.length g2, .slice D3 fs5.O.length g3] 31)) := (Below.refl _ w5).alloc (Nat.le_refl _) _
          have HX5 := keep ((HX.out.below hb5 HX.out.lt).below hal5 (HX.out.below hb5 HX.out.lt).lt)
          have HTo := keep ((HT.out.up hb5).up hal5)
          have HT5 := keep (hT5.up hal5)
          have HB5 := keep (bchain (bchain HB.out hb5) hal5)
          have HY5 := keep (Blk.three_alloc (w := w5) (t := 31) (a0 := .slice D1 fs5.N.length g1) (a1 := .slice D2 fs5.F.length g2) (a2 := .slice D3 fs5.O.length g3))
          have HI5 := keep hI5
          have HO6 := keep hO6
          have HNE : Hid (g8 ≠ w5.heap.size) := keep (by have := (HX.out.below hb5 HX.out.lt).lt; omega)
          have hmore := cpy_more HC.out hn1
          clear HX HB hT5 hI5 hO5 hb5 hal5 HDO hO6 f0 f1 f2 HW
          rcases hmore with ⟨rfl, hdo⟩ | ⟨rfl, hd0, hc5⟩
          · rw [show (doP fs.p (Ch.p ⟨6, nmB, nmO, .slice none 0 0, [], n⟩)).1 = 17 from congrArg Prod.fst hdo]
            have hCw := HC
            clear hP5 hdo HT HT5 HI5 HO6 HY5 HNE
            obtain ⟨HX, HT, HB⟩ := And.intro HX5 (And.intro HTo HB5)
            clear HX5 HTo HB5
            have hLf : left = 0 := hCw.out.w rfl
            subst hLf
            have HC := hCw
            obtain ⟨f0, f1, f2⟩ := HX.out.cell3
            have HRD := keep (read_any _ _ _ fs 2 _ HT.out HI.out (by rw [HO.out]; simp))
            go_wp2_with fail
            refine HRD.out.mono ?_
            rintro e w12 ⟨dv, rfl, hdv, hb12⟩
            rw [cpy_read HC.out] at hdv ⊢
            rw [show lD.take (lD.length - (0 : Int).toNat) = lD by simp] at hdv ⊢
            have hd2 : Sl w12 (u8B w12) 1 dv lD.length (bys lD) := hdv
            obtain ⟨A12, c12, rfl, _, _⟩ := hd2.form
            have hal : Below w12.heap.size w12 (w12.alloc (.cells #[.int .i64 2, .slice A12 lD.length c12, .bool true, .bool true, .int .i64 0] 45)) := (Below.refl _ w12).alloc (Nat.le_refl _) _
            have hB13 := bchain (bchain HB.out hb12) hal
            have hsb : BSl (w12.alloc (.cells #[.int .i64 2, .slice A12 lD.length c12, .bool true, .bool true, .int .i64 0] 45)) (lt (w12.alloc (.cells #[.int .i64 2, .slice A12 lD.length c12, .bool true, .bool true, .int .i64 0] 45)).heap.size) (.slice A12 lD.length c12) lD := Sl.upW (hd2.mono fun _ hb => hb.lt_) hal
            have hsd : BSl (w12.alloc (.cells #[.int .i64 2, .slice A12 lD.length c12, .bool true, .bool true, .int .i64 0] 45)) (lt (w12.alloc (.cells #[.int .i64 2, .slice A12 lD.length c12, .bool true, .bool true, .int .i64 0] 45)).heap.size) (.slice AD lD.length cD) lD := HDB.out.up hB13
            have hcv := run_stringB hsb Tryd.underlying22 Tryd.underlying5 Tryd.underlying9
            have hcd := run_stringB hsd Tryd.underlying22 Tryd.underlying5 Tryd.underlying9
            have HB13 := keep hB13
            clear hsb hsd hal hb12 hdv hd2 hB13 f0 f1 f2 HRD
            simp only [fileV, Option.getD_some, Option.isSome_some]
            go_wp2_with fail
            go_ret
            exact ⟨rfl, bchain HBW.out HB13.out⟩
          · rw [show (doP fs.p (Ch.p ⟨6, nmB, nmO, .slice none 0 0, [], n⟩)).1 = 0 from hd0]
            clear HTo HT HI HO HC hd0
            obtain ⟨L5, hL5⟩ : ∃ L5, L5 = left - min n left := ⟨_, rfl⟩
            rw [← hL5, ← hP5] at hc5
            have hCl := hc5.l
            obtain ⟨r, hr⟩ : ∃ r, lD.length - L5.toNat = r := ⟨_, rfl⟩
            have hrl : r ≤ lD.length := by omega
            obtain ⟨q, hq⟩ : ∃ q, (L5 == 0) = q := ⟨_, rfl⟩
            rw [hq] at hc5
            have hqr : ((r : Int) == (lD.length : Int)) = q := by rw [← hq, Bool.eq_iff_iff]; simp only [beq_iff_eq]; omega
            have hWn : m + 1 = ps.length + 1 → q = true := fun e => by
              have h1 := HN.out (by omega)
              have h2 : L5 = 0 := by have := HCL.out; rw [hL5]; omega
              rw [← hq, h2]; rfl
            have HWn := keep hWn
            have HC5 := keep hc5
            have HRD := keep (read_any _ _ _ fs5 2 _ HT5.out HI5.out (by rw [HO6.out]; simp))
            have HRP : Hid (readP fs5.p 2 = some ⟨2, lD.take r, true, q, 0⟩) := keep (by rw [cpy_read hc5, hr])
            obtain ⟨y0, y1, y2⟩ := HY5.out.cell3
            clear hc5 hCl hr hq hL5 hWn hP5 HN HCL
            go_wp2_with fail
            refine HRD.out.mono ?_
            rintro e w6 ⟨dv, rfl, hdv, hb6⟩
            rw [HRP.out] at hdv ⊢
            have hd2 : Sl w6 (u8B w6) 1 dv (lD.take r).length (bys (lD.take r)) := hdv
            rw [show (lD.take r).length = r by simp; omega] at hd2
            obtain ⟨A6, c6, rfl, _, _⟩ := hd2.form
            have hal : Below w6.heap.size w6 (w6.alloc (.cells #[.int .i64 2, .slice A6 r c6, .bool true, .bool q, .int .i64 0] 45)) := (Below.refl _ w6).alloc (Nat.le_refl _) _
            have hB7 := bchain (bchain HB5.out hb6) hal
            have HT7 := keep ((HT5.out.up hb6).up hal)
            have HX7 := keep ((HX5.out.below hb6 HX5.out.lt).below hal (HX5.out.below hb6 HX5.out.lt).lt)
            have HY7 := keep ((HY5.out.below hb6 HY5.out.lt).below hal (HY5.out.below hb6 HY5.out.lt).lt)
            have hF7 := Blk.new w6 45 #[.int .i64 2, .slice A6 r c6, .bool true, .bool q, .int .i64 0]
            have hd3 : BSl (w6.alloc (.cells #[.int .i64 2, .slice A6 r c6, .bool true, .bool q, .int .i64 0] 45)) (lt (w6.alloc (.cells #[.int .i64 2, .slice A6 r c6, .bool true, .bool q, .int .i64 0] 45)).heap.size) (.slice A6 r c6) (lD.take r) := by
              unfold BSl
              rw [show (lD.take r).length = r by simp; omega]
              exact Sl.upW (hd2.mono fun _ hb => hb.lt_) hal
            obtain ⟨W7, hW7⟩ : ∃ W7, W7 = (w6.alloc (.cells #[.int .i64 2, .slice A6 r c6, .bool true, .bool q, .int .i64 0] 45)) := ⟨_, rfl⟩
            obtain ⟨g6, hg6⟩ : ∃ g6, g6 = w6.heap.size := ⟨_, rfl⟩
            rw [← hW7] at hF7 hd3 hB7 HT7 HX7 HY7
            rw [← hg6] at hF7
            have hsd : BSl W7 (lt W7.heap.size) (.slice AD r cD) (lD.take r) := by
              have h0 : BSl W7 (lt W7.heap.size) (.slice AD lD.length cD) lD := HDB.out.up hB7
              have h1 := Sl.take h0 hrl
              unfold BSl
              rw [show (lD.take r).length = r by simp; omega, List.map_take]
              rw [Nat.mul_one] at h1
              exact h1
            have hcv : ∀ n, (convert 22 9 (.slice A6 r c6)).run Tryd.prog (W7.drewN n) = .ok (.string ⟨(lD.take r).toArray⟩) (W7.drewN n) := fun n => run_stringB (Sl.keep hd3 (fun _ _ => rfl)) Tryd.underlying22 Tryd.underlying5 Tryd.underlying9
            have hcd : ∀ n, (convert 22 9 (.slice AD r cD)).run Tryd.prog (W7.drewN n) = .ok (.string ⟨(lD.take r).toArray⟩) (W7.drewN n) := fun n => run_stringB (Sl.keep hsd (fun _ _ => rfl)) Tryd.underlying22 Tryd.underlying5 Tryd.underlying9
            have HB7 := keep hB7
            have HF7 := keep hF7
            clear hd2 hdv hb6 hal hB7 hd3 hsd y0 y1 y2 HRD HRP HT5 HX5 HY5 HB5 hF7
            have y1 : W7.cell? ⟨g6, 1, none⟩ = some (.slice A6 r c6) := (HF7.out.cell 1).trans rfl
            have y3 : W7.cell? ⟨g6, 3, none⟩ = some (.bool q) := (HF7.out.cell 3).trans rfl
            have k1 : (r : Int) ≤ (lD.length : Int) := by omega
            have k2 : ¬ (lD.length : Int) < (r : Int) := by omega
            have k3 : (q != q) = false := by simp
            have k4 : (r : Int) ≤ (cD : Int) := by omega
            simp only [fileV, Option.getD_some, Option.isSome_some]
            go_wp2_with fail
            rw [← hW7, ← hg6]
            clear hW7 hg6
            go_quiet (fail)
            clear hcv hcd y1 y3 k1 k2 k3 k4 hqr HF7
            obtain ⟨Wq, hWq⟩ : ∃ Wq, Wq = W7.drewN nq := ⟨_, rfl⟩
            have hXq : Blk Wq g8 31 #[.slice C1 fs.N.length e1, .slice C2 fs.F.length e2, .slice C3 fs.O.length e3] := by rw [hWq]; exact HX7.out
            have hYq : Blk Wq w5.heap.size 31 #[.slice D1 fs5.N.length g1, .slice D2 fs5.F.length g2, .slice D3 fs5.O.length g3] := by rw [hWq]; exact HY7.out
            have hTq : FsT Wq (.slice D1 fs5.N.length g1) (.slice D2 fs5.F.length g2) (.slice D3 fs5.O.length g3) fs5 := by rw [hWq]; exact HT7.out.up ⟨rfl, rfl, rfl, Nat.le_refl _, fun _ _ => rfl⟩
            have hBq : Below w3.heap.size w3 Wq := by rw [hWq]; exact below_drewN HB7.out nq
            have hgr := grown_three Wq g8 (.slice D1 fs5.N.length g1) (.slice D2 fs5.F.length g2) (.slice D3 fs5.O.length g3)
            obtain ⟨p0, p1, p2⟩ := hXq.froz3
            obtain ⟨q0, q1, q2⟩ := hXq.cell3
            obtain ⟨y0, y1, y2⟩ := hYq.cell3
            have HXr := keep (hXq.three (.slice D1 fs5.N.length g1) (.slice D2 fs5.F.length g2) (.slice D3 fs5.O.length g3))
            have HTr := keep (hTq.grown hXq hgr (by decide) (by decide) (by decide) (by decide))
            have HBr := keep (below_three hBq HG8.out (.slice D1 fs5.N.length g1) (.slice D2 fs5.F.length g2) (.slice D3 fs5.O.length g3))
            rw [← hWq]
            clear hWq HX7 HY7 HT7 HB7 hXq hYq hTq hBq hgr
            go_wp2_with fail
            go_roundw
            case rel => exact ⟨m + 1, fs5, _, _, _, L5, q, by go_num, by omega, HXr, HTr, HI5, HO6, HC5, HWn, HBr⟩
            case measure => simp [intOf]; omega
      · obtain rfl : m = ps.length + 1 := by omega
        obtain rfl := HW.out rfl
        have hCw := HC
        have j1 : ¬ ((ps.length + 1 : Nat) : Int) < (ps.length : Int) + 1 := by omega
        have hLf : left = 0 := hCw.out.w rfl
        subst hLf
        have HC := hCw
        obtain ⟨f0, f1, f2⟩ := HX.out.cell3
        obtain ⟨C1, e1, rfl, _, _⟩ := HT.out.n.form
        obtain ⟨C2, e2, rfl, _, _⟩ := HT.out.f.form
        obtain ⟨C3, e3, rfl, _, _⟩ := HT.out.o.form
        have HRD := keep (read_any _ _ _ fs 2 _ HT.out HI.out (by rw [HO.out]; simp))
        go_wp2_with fail
        refine HRD.out.mono ?_
        rintro e w12 ⟨dv, rfl, hdv, hb12⟩
        rw [cpy_read HC.out] at hdv ⊢
        rw [show lD.take (lD.length - (0 : Int).toNat) = lD by simp] at hdv ⊢
        have hd2 : Sl w12 (u8B w12) 1 dv lD.length (bys lD) := hdv
        obtain ⟨A12, c12, rfl, _, _⟩ := hd2.form
        have hal : Below w12.heap.size w12 (w12.alloc (.cells #[.int .i64 2, .slice A12 lD.length c12, .bool true, .bool true, .int .i64 0] 45)) := (Below.refl _ w12).alloc (Nat.le_refl _) _
        have hB13 := bchain (bchain HB.out hb12) hal
        have hsb : BSl (w12.alloc (.cells #[.int .i64 2, .slice A12 lD.length c12, .bool true, .bool true, .int .i64 0] 45)) (lt (w12.alloc (.cells #[.int .i64 2, .slice A12 lD.length c12, .bool true, .bool true, .int .i64 0] 45)).heap.size) (.slice A12 lD.length c12) lD := Sl.upW (hd2.mono fun _ hb => hb.lt_) hal
        have hsd : BSl (w12.alloc (.cells #[.int .i64 2, .slice A12 lD.length c12, .bool true, .bool true, .int .i64 0] 45)) (lt (w12.alloc (.cells #[.int .i64 2, .slice A12 lD.length c12, .bool true, .bool true, .int .i64 0] 45)).heap.size) (.slice AD lD.length cD) lD := HDB.out.up hB13
        have hcv := run_stringB hsb Tryd.underlying22 Tryd.underlying5 Tryd.underlying9
        have hcd := run_stringB hsd Tryd.underlying22 Tryd.underlying5 Tryd.underlying9
        have HB13 := keep hB13
        clear hsb hsd hal hb12 hdv hd2 hB13 f0 f1 f2 HRD
        simp only [fileV, Option.getD_some, Option.isSome_some]
        go_wp2_with fail
        go_ret
        exact ⟨rfl, bchain HBW.out HB13.out⟩
  case pure =>
    clear HK'
    intro i o d hi ho hd x w K hout hdep hK
    have hcase : i = 21 ∨ i = 24 := by simpa using hi
    clear hi
    rcases hcase with rfl | rfl
    · -- operation 21
      simp only [List.getElem?_toArray, List.getElem?_cons_succ, List.getElem?_cons_zero, Option.some.injEq] at ho
      subst ho
      simp only [Option.some.injEq] at hd
      subst hd
      have p19 : cpPv 19 (x 27) (x 46) := hdep 19 (List.mem_of_elem_eq_true (by kernel_rfl)) (by decide)
      clear hdep
      obtain ⟨a, b, hv⟩ := p19
      unfold cpT
      rw [hv]
      go_simp
      have hk : K { tmps := #[x 0, x 1, x 2, x 3, x 4, x 5, x 6, x 7, x 8, x 9, x 10, x 11, x 12, x 13, x 14, x 15, x 16, x 17, x 18, x 19, x 20, x 21, x 22, x 23, x 24, x 25, x 26, x 27, x 28, x 29, x 30, x 31, x 32, x 33, x 34, x 35, x 36, x 37, x 38, x 39, x 40, x 41, x 42, x 43, x 44, x 45, x 46, x 47, b, x 49, x 50, x 51, x 52, x 53, x 54, x 55, x 56, x 57, x 58, x 59, x 60, x 61, x 62, x 63, x 64, x 65, x 66, x 67, x 68, x 69, x 70, x 71, x 72, x 73, x 74, x 75, x 76, x 77, x 78, x 79, x 80, x 81, x 82, x 83, x 84, x 85, x 86, x 87, x 88, x 89, x 90, x 91, x 92, x 93, x 94, x 95, x 96, x 97, x 98, x 99, x 100, x 101, x 102, x 103, x 104, x 105, x 106, x 107, x 108, x 109, x 110, x 111, x 112, x 113, x 114, x 115, x 116, x 117, x 118, x 119, x 120, x 121, x 122, x 123, x 124, x 125, x 126, x 127, x 128, x 129, x 130, x 131, x 132, x 133, x 134, x 135, x 136, x 137, x 138, x 139, x 140, x 141, x 142, x 143, x 144, x 145, x 146, x 147, x 148, x 149, x 150, x 151, x 152, x 153, x 154, x 155, x 156, x 157, x 158, x 159, x 160, x 161, x 162, x 163, x 164, x 165, x 166, x 167, x 168, x 169, x 170], defers := [] } w := hK b (by show ∃ a, x 27 = _; exact ⟨_, hv⟩)
      rw [hv] at hk
      exact hk
    · -- operation 24
      simp only [List.getElem?_toArray, List.getElem?_cons_succ, List.getElem?_cons_zero, Option.some.injEq] at ho
      subst ho
      simp only [Option.some.injEq] at hd
      subst hd
      clear hdep
      unfold cpT
      go_simp
      have hk : K { tmps := #[x 0, x 1, x 2, x 3, x 4, x 5, x 6, x 7, x 8, x 48, x 10, x 11, x 12, x 13, x 14, x 15, x 16, x 17, x 18, x 19, x 20, x 21, x 22, x 23, x 24, x 25, x 26, x 27, x 28, x 29, x 30, x 31, x 32, x 33, x 34, x 35, x 36, x 37, x 38, x 39, x 40, x 41, x 42, x 43, x 44, x 45, x 46, x 47, x 48, x 49, x 50, x 51, x 52, x 53, x 54, x 55, x 56, x 57, x 58, x 59, x 60, x 61, x 62, x 63, x 64, x 65, x 66, x 67, x 68, x 69, x 70, x 71, x 72, x 73, x 74, x 75, x 76, x 77, x 78, x 79, x 80, x 81, x 82, x 83, x 84, x 85, x 86, x 87, x 88, x 89, x 90, x 91, x 92, x 93, x 94, x 95, x 96, x 97, x 98, x 99, x 100, x 101, x 102, x 103, x 104, x 105, x 106, x 107, x 108, x 109, x 110, x 111, x 112, x 113, x 114, x 115, x 116, x 117, x 118, x 119, x 120, x 121, x 122, x 123, x 124, x 125, x 126, x 127, x 128, x 129, x 130, x 131, x 132, x 133, x 134, x 135, x 136, x 137, x 138, x 139, x 140, x 141, x 142, x 143, x 144, x 145, x 146, x 147, x 148, x 149, x 150, x 151, x 152, x 153, x 154, x 155, x 156, x 157, x 158, x 159, x 160, x 161, x 162, x 163, x 164, x 165, x 166, x 167, x 168, x 169, x 170], defers := [] } w := hK (x 48) rfl
      exact hk
  case last =>
    intro o ho x w K hW hout hdep hK
    simp only [List.getElem?_toArray, List.getElem?_cons_succ, List.getElem?_cons_zero, Option.some.injEq] at ho
    subst ho
    have p22 : cpPr (.slice AD lD.length cD) lD kn pk (wn : Int) w3.heap.size 22 (x 8) undef w := hdep 22 (List.mem_of_elem_eq_true (by kernel_rfl))
    have p20 : cpPr (.slice AD lD.length cD) lD kn pk (wn : Int) w3.heap.size 20 (x 47) (x 27) w := hdep 20 (List.mem_of_elem_eq_true (by kernel_rfl))
    have p19 : cpPr (.slice AD lD.length cD) lD kn pk (wn : Int) w3.heap.size 19 (x 27) (x 46) w := hdep 19 (List.mem_of_elem_eq_true (by kernel_rfl))
    clear hdep
    obtain ⟨g, h8, hX, hBg⟩ := p22
    obtain ⟨b, h47⟩ := p20
    obtain ⟨fs, vN, vF, vO, vE, h27, hT, hP, hI, hO, hE⟩ := p19
    rw [h27] at h47
    injection h47 with h47
    have h47' : x 47 = .agg #[vN, vF, vO] := by
      have := congrArg (fun a : Array Value => a[0]?) h47
      simpa using this.symm
    obtain ⟨B1, d1, rfl, _, _⟩ := hT.n.form
    obtain ⟨B2, d2, rfl, _, _⟩ := hT.f.form
    obtain ⟨B3, d3, rfl, _, _⟩ := hT.o.form
    obtain ⟨f0, f1, f2⟩ := hX.cell3
    obtain ⟨q0, q1, q2⟩ := hX.froz3
    have hgr := grown_three w g (.slice B1 fs.N.length d1) (.slice B2 fs.F.length d2) (.slice B3 fs.O.length d3)
    have hk := hK (((w.setCell ⟨g, 0, none⟩ (.slice B1 fs.N.length d1)).setCell ⟨g, 1, none⟩ (.slice B2 fs.F.length d2)).setCell ⟨g, 2, none⟩ (.slice B3 fs.O.length d3)) (by
      show cpFin _ w3 (x 8) (x 27) _
      exact ⟨g, fs, _, _, _, vE, h8, h27, hX.three _ _ _, hT.grown hX hgr (by decide) (by decide) (by decide) (by decide), hP, hI, hO, hE.tyGrown hgr (tyB.ne hX (by decide)), below_three hW hBg _ _ _, hBg⟩)
    unfold cpT at hk ⊢
    rw [h8, h47'] at hk ⊢
    clear hK hO h47 h27 h8 h47'
    go_simp
    exact hk
  case step =>
    clear HK'
    intro i o d hi him ho hd x w K hW hout hdep hK
    have HX2 : Hid (x 2 = .int .u8 (wn : Int)) := keep ((hout 2 (by decide)).trans y2)
    have HX7 : Hid (x 7 = .slice AD lD.length cD) := keep ((hout 7 (by decide)).trans y7)
    have hzz := hW.size
    have hDB := HDB.out.up hW
    have hKalloc : ∀ v ob, cpPr (.slice AD lD.length cD) lD kn pk (wn : Int) w3.heap.size i v (dv1 _ i x) (w.alloc ob) → K { tmps := cpT (upd x d v), defers := [] } (w.alloc ob) := fun v ob hp => hK v _ (hW.alloc hzz _) (Mk.of_below ((Below.refl _ w).alloc (Nat.le_refl _) ob)) hp
    have hKsame : ∀ v, cpPr (.slice AD lD.length cD) lD kn pk (wn : Int) w3.heap.size i v (dv1 _ i x) w → K { tmps := cpT (upd x d v), defers := [] } w := fun v hp => hK v w hW (Mk.of_below (Below.refl _ w)) hp
    have hKbel : ∀ v w', Below w.heap.size w w' → cpPr (.slice AD lD.length cD) lD kn pk (wn : Int) w3.heap.size i v (dv1 _ i x) w' → K { tmps := cpT (upd x d v), defers := [] } w' := fun v w' hb hp => hK v w' (bchain hW hb) (Mk.of_below hb) hp
    clear hout y0 y1 y2 y6 y7
    have hcase : i = 0 ∨ i = 1 ∨ i = 2 ∨ i = 3 ∨ i = 4 ∨ i = 5 ∨ i = 6 ∨ i = 7 ∨ i = 8 ∨ i = 9 ∨ i = 10 ∨ i = 11 ∨ i = 12 ∨ i = 13 ∨ i = 14 ∨ i = 15 ∨ i = 16 ∨ i = 17 ∨ i = 18 ∨ i = 19 ∨ i = 20 ∨ i = 21 ∨ i = 22 ∨ i = 24 := by
      have : i < 25 := hi
      omega
    clear hi him
    rcases hcase with rfl | rfl | rfl | rfl | rfl | rfl | rfl | rfl | rfl | rfl | rfl | rfl | rfl | rfl | rfl | rfl | rfl | rfl | rfl | rfl | rfl | rfl | rfl | rfl
    · -- operation 0
      simp only [List.getElem?_toArray, List.getElem?_cons_zero, Option.some.injEq] at ho
      subst ho
      simp only [Option.some.injEq] at hd
      subst hd
      clear hdep
      unfold cpT
      go_simp
      refine (new_any _).mono ?_
      rintro e w2 ⟨rfl, hb2⟩
      have hk : K { tmps := #[x 0, x 1, x 2, x 3, x 4, x 5, x 6, x 7, x 8, x 9, x 10, x 11, x 12, x 13, x 14, x 15, x 16, x 17, x 18, x 19, x 20, x 21, x 22, x 23, x 24, x 25, x 26, x 27, .agg #[.slice none 0 0, .slice none 0 0, .slice none 0 0], x 29, x 30, x 31, x 32, x 33, x 34, x 35, x 36, x 37, x 38, x 39, x 40, x 41, x 42, x 43, x 44, x 45, x 46, x 47, x 48, x 49, x 50, x 51, x 52, x 53, x 54, x 55, x 56, x 57, x 58, x 59, x 60, x 61, x 62, x 63, x 64, x 65, x 66, x 67, x 68, x 69, x 70, x 71, x 72, x 73, x 74, x 75, x 76, x 77, x 78, x 79, x 80, x 81, x 82, x 83, x 84, x 85, x 86, x 87, x 88, x 89, x 90, x 91, x 92, x 93, x 94, x 95, x 96, x 97, x 98, x 99, x 100, x 101, x 102, x 103, x 104, x 105, x 106, x 107, x 108, x 109, x 110, x 111, x 112, x 113, x 114, x 115, x 116, x 117, x 118, x 119, x 120, x 121, x 122, x 123, x 124, x 125, x 126, x 127, x 128, x 129, x 130, x 131, x 132, x 133, x 134, x 135, x 136, x 137, x 138, x 139, x 140, x 141, x 142, x 143, x 144, x 145, x 146, x 147, x 148, x 149, x 150, x 151, x 152, x 153, x 154, x 155, x 156, x 157, x 158, x 159, x 160, x 161, x 162, x 163, x 164, x 165, x 166, x 167, x 168, x 169, x 170], defers := [] } w2 := hKbel _ _ hb2 rfl
      exact hk
    · -- operation 1
      simp only [List.getElem?_toArray, List.getElem?_cons_succ, List.getElem?_cons_zero, Option.some.injEq] at ho
      subst ho
      simp only [Option.some.injEq] at hd
      subst hd
      clear hdep
      unfold cpT
      rw [HX7.out]
      go_simp
      have hk : K { tmps := #[x 0, x 1, x 2, x 3, x 4, x 5, x 6, x 7, x 8, x 9, x 10, x 11, x 12, x 13, x 14, x 15, x 16, x 17, x 18, x 19, x 20, x 21, x 22, x 23, x 24, x 25, x 26, x 27, x 28, .slice AD lD.length cD, x 30, x 31, x 32, x 33, x 34, x 35, x 36, x 37, x 38, x 39, x 40, x 41, x 42, x 43, x 44, x 45, x 46, x 47, x 48, x 49, x 50, x 51, x 52, x 53, x 54, x 55, x 56, x 57, x 58, x 59, x 60, x 61, x 62, x 63, x 64, x 65, x 66, x 67, x 68, x 69, x 70, x 71, x 72, x 73, x 74, x 75, x 76, x 77, x 78, x 79, x 80, x 81, x 82, x 83, x 84, x 85, x 86, x 87, x 88, x 89, x 90, x 91, x 92, x 93, x 94, x 95, x 96, x 97, x 98, x 99, x 100, x 101, x 102, x 103, x 104, x 105, x 106, x 107, x 108, x 109, x 110, x 111, x 112, x 113, x 114, x 115, x 116, x 117, x 118, x 119, x 120, x 121, x 122, x 123, x 124, x 125, x 126, x 127, x 128, x 129, x 130, x 131, x 132, x 133, x 134, x 135, x 136, x 137, x 138, x 139, x 140, x 141, x 142, x 143, x 144, x 145, x 146, x 147, x 148, x 149, x 150, x 151, x 152, x 153, x 154, x 155, x 156, x 157, x 158, x 159, x 160, x 161, x 162, x 163, x 164, x 165, x 166, x 167, x 168, x 169, x 170], defers := [] } w := hKsame _ rfl
      rw [HX7.out] at hk
      exact hk
    · -- operation 2
      simp only [List.getElem?_toArray, List.getElem?_cons_succ, List.getElem?_cons_zero, Option.some.injEq] at ho
      subst ho
      simp only [Option.some.injEq] at hd
      subst hd
      have p1 : cpPr (.slice AD lD.length cD) lD kn pk (wn : Int) w3.heap.size 1 (x 29) (undef) w := hdep 1 (List.mem_of_elem_eq_true (by kernel_rfl)) (by decide)
      clear hdep
      replace p1 : x 29 = .slice AD lD.length cD := p1
      unfold cpT
      rw [p1]
      go_simp
      have hk : K { tmps := #[x 0, x 1, x 2, x 3, x 4, x 5, x 6, x 7, x 8, x 9, x 10, x 11, x 12, x 13, x 14, x 15, x 16, x 17, x 18, x 19, x 20, x 21, x 22, x 23, x 24, x 25, x 26, x 27, x 28, x 29, .agg #[.int .i64 1, .string ⟨#[97]⟩, .string ⟨#[]⟩, .slice AD lD.length cD, .int .i64 0], x 31, x 32, x 33, x 34, x 35, x 36, x 37, x 38, x 39, x 40, x 41, x 42, x 43, x 44, x 45, x 46, x 47, x 48, x 49, x 50, x 51, x 52, x 53, x 54, x 55, x 56, x 57, x 58, x 59, x 60, x 61, x 62, x 63, x 64, x 65, x 66, x 67, x 68, x 69, x 70, x 71, x 72, x 73, x 74, x 75, x 76, x 77, x 78, x 79, x 80, x 81, x 82, x 83, x 84, x 85, x 86, x 87, x 88, x 89, x 90, x 91, x 92, x 93, x 94, x 95, x 96, x 97, x 98, x 99, x 100, x 101, x 102, x 103, x 104, x 105, x 106, x 107, x 108, x 109, x 110, x 111, x 112, x 113, x 114, x 115, x 116, x 117, x 118, x 119, x 120, x 121, x 122, x 123, x 124, x 125, x 126, x 127, x 128, x 129, x 130, x 131, x 132, x 133, x 134, x 135, x 136, x 137, x 138, x 139, x 140, x 141, x 142, x 143, x 144, x 145, x 146, x 147, x 148, x 149, x 150, x 151, x 152, x 153, x 154, x 155, x 156, x 157, x 158, x 159, x 160, x 161, x 162, x 163, x 164, x 165, x 166, x 167, x 168, x 169, x 170], defers := [] } w := hKsame _ ⟨⟨1, nmA, nmO, .slice AD lD.length cD, lD, 0⟩, rfl, rfl, chOk_of hDB ⟨by omega, by decide, by decide, by decide⟩⟩
      rw [p1] at hk
      exact hk
    · -- operation 3
      simp only [List.getElem?_toArray, List.getElem?_cons_succ, List.getElem?_cons_zero, Option.some.injEq] at ho
      subst ho
      simp only [Option.some.injEq] at hd
      subst hd
      clear hdep
      unfold cpT
      go_simp
      have hk : K { tmps := #[x 0, x 1, x 2, x 3, x 4, x 5, x 6, x 7, x 8, x 9, x 10, x 11, x 12, x 13, x 14, x 15, x 16, x 17, x 18, x 19, x 20, x 21, x 22, x 23, x 24, x 25, x 26, x 27, x 28, x 29, x 30, .agg #[.int .i64 5, .string ⟨#[97]⟩, .string ⟨#[98]⟩, .slice none 0 0, .int .i64 0], x 32, x 33, x 34, x 35, x 36, x 37, x 38, x 39, x 40, x 41, x 42, x 43, x 44, x 45, x 46, x 47, x 48, x 49, x 50, x 51, x 52, x 53, x 54, x 55, x 56, x 57, x 58, x 59, x 60, x 61, x 62, x 63, x 64, x 65, x 66, x 67, x 68, x 69, x 70, x 71, x 72, x 73, x 74, x 75, x 76, x 77, x 78, x 79, x 80, x 81, x 82, x 83, x 84, x 85, x 86, x 87, x 88, x 89, x 90, x 91, x 92, x 93, x 94, x 95, x 96, x 97, x 98, x 99, x 100, x 101, x 102, x 103, x 104, x 105, x 106, x 107, x 108, x 109, x 110, x 111, x 112, x 113, x 114, x 115, x 116, x 117, x 118, x 119, x 120, x 121, x 122, x 123, x 124, x 125, x 126, x 127, x 128, x 129, x 130, x 131, x 132, x 133, x 134, x 135, x 136, x 137, x 138, x 139, x 140, x 141, x 142, x 143, x 144, x 145, x 146, x 147, x 148, x 149, x 150, x 151, x 152, x 153, x 154, x 155, x 156, x 157, x 158, x 159, x 160, x 161, x 162, x 163, x 164, x 165, x 166, x 167, x 168, x 169, x 170], defers := [] } w := hKsame _ ⟨⟨5, nmA, nmB, .slice none 0 0, [], 0⟩, rfl, rfl, chOk_of (BR.nil _ _ _) (by decide)⟩
      exact hk
    · -- operation 4
      simp only [List.getElem?_toArray, List.getElem?_cons_succ, List.getElem?_cons_zero, Option.some.injEq] at ho
      subst ho
      simp only [Option.some.injEq] at hd
      subst hd
      clear hdep
      unfold cpT
      go_simp
      have hk : K { tmps := #[x 0, x 1, x 2, x 3, x 4, x 5, x 6, x 7, x 8, x 9, x 10, x 11, x 12, x 13, x 14, x 15, x 16, x 17, x 18, x 19, x 20, x 21, x 22, x 23, x 24, x 25, x 26, x 27, x 28, x 29, x 30, x 31, .agg #[.int .i64 3, .string ⟨#[97]⟩, .string ⟨#[]⟩, .slice none 0 0, .int .i64 0], x 33, x 34, x 35, x 36, x 37, x 38, x 39, x 40, x 41, x 42, x 43, x 44, x 45, x 46, x 47, x 48, x 49, x 50, x 51, x 52, x 53, x 54, x 55, x 56, x 57, x 58, x 59, x 60, x 61, x 62, x 63, x 64, x 65, x 66, x 67, x 68, x 69, x 70, x 71, x 72, x 73, x 74, x 75, x 76, x 77, x 78, x 79, x 80, x 81, x 82, x 83, x 84, x 85, x 86, x 87, x 88, x 89, x 90, x 91, x 92, x 93, x 94, x 95, x 96, x 97, x 98, x 99, x 100, x 101, x 102, x 103, x 104, x 105, x 106, x 107, x 108, x 109, x 110, x 111, x 112, x 113, x 114, x 115, x 116, x 117, x 118, x 119, x 120, x 121, x 122, x 123, x 124, x 125, x 126, x 127, x 128, x 129, x 130, x 131, x 132, x 133, x 134, x 135, x 136, x 137, x 138, x 139, x 140, x 141, x 142, x 143, x 144, x 145, x 146, x 147, x 148, x 149, x 150, x 151, x 152, x 153, x 154, x 155, x 156, x 157, x 158, x 159, x 160, x 161, x 162, x 163, x 164, x 165, x 166, x 167, x 168, x 169, x 170], defers := [] } w := hKsame _ ⟨⟨3, nmA, nmO, .slice none 0 0, [], 0⟩, rfl, rfl, chOk_of (BR.nil _ _ _) (by decide)⟩
      exact hk
    · -- operation 5
      simp only [List.getElem?_toArray, List.getElem?_cons_succ, List.getElem?_cons_zero, Option.some.injEq] at ho
      subst ho
      simp only [Option.some.injEq] at hd
      subst hd
      clear hdep
      unfold cpT
      go_simp
      have hk : K { tmps := #[x 0, x 1, x 2, x 3, x 4, x 5, x 6, x 7, x 8, x 9, x 10, x 11, x 12, x 13, x 14, x 15, x 16, x 17, x 18, x 19, x 20, x 21, x 22, x 23, x 24, x 25, x 26, x 27, x 28, x 29, x 30, x 31, x 32, .slice (some ⟨w.heap.size, 0, none⟩) 5 5, x 34, x 35, x 36, x 37, x 38, x 39, x 40, x 41, x 42, x 43, x 44, x 45, x 46, x 47, x 48, x 49, x 50, x 51, x 52, x 53, x 54, x 55, x 56, x 57, x 58, x 59, x 60, x 61, x 62, x 63, x 64, x 65, x 66, x 67, x 68, x 69, x 70, x 71, x 72, x 73, x 74, x 75, x 76, x 77, x 78, x 79, x 80, x 81, x 82, x 83, x 84, x 85, x 86, x 87, x 88, x 89, x 90, x 91, x 92, x 93, x 94, x 95, x 96, x 97, x 98, x 99, x 100, x 101, x 102, x 103, x 104, x 105, x 106, x 107, x 108, x 109, x 110, x 111, x 112, x 113, x 114, x 115, x 116, x 117, x 118, x 119, x 120, x 121, x 122, x 123, x 124, x 125, x 126, x 127, x 128, x 129, x 130, x 131, x 132, x 133, x 134, x 135, x 136, x 137, x 138, x 139, x 140, x 141, x 142, x 143, x 144, x 145, x 146, x 147, x 148, x 149, x 150, x 151, x 152, x 153, x 154, x 155, x 156, x 157, x 158, x 159, x 160, x 161, x 162, x 163, x 164, x 165, x 166, x 167, x 168, x 169, x 170], defers := [] } (w.alloc (.cells #[.int .u8 109, .int .u8 111, .int .u8 114, .int .u8 101, .int .u8 10] 5)) := hKalloc _ _ ⟨⟨w.heap.size, rfl, hzz, BR.lit w bMore _ _ _ rfl⟩, w.heap.size, (0, 0), rfl, alloc_get w _⟩
      exact hk
    · -- operation 6
      simp only [List.getElem?_toArray, List.getElem?_cons_succ, List.getElem?_cons_zero, Option.some.injEq] at ho
      subst ho
      simp only [Option.some.injEq] at hd
      subst hd
      have p5 : cpPr (.slice AD lD.length cD) lD kn pk (wn : Int) w3.heap.size 5 (x 33) (undef) w := hdep 5 (List.mem_of_elem_eq_true (by kernel_rfl)) (by decide)
      clear hdep
      obtain ⟨⟨g, hv, hBg, hbr⟩, g2, f2, hv2, hh⟩ := p5
      rw [hv] at hv2
      injection hv2 with hv2 _ _
      injection hv2 with hv2
      injection hv2 with hv2 _ _
      subst hv2
      rw [hv] at hbr
      obtain ⟨w2, hcv, hmk, hbl⟩ := run_mark w g 5 5 _ _ hh
      change x 33 = .slice (some ⟨g, 0, none⟩) 5 5 at hv
      unfold cpT
      rw [hv]
      go_simp
      have hk : K { tmps := #[x 0, x 1, x 2, x 3, x 4, x 5, x 6, x 7, x 8, x 9, x 10, x 11, x 12, x 13, x 14, x 15, x 16, x 17, x 18, x 19, x 20, x 21, x 22, x 23, x 24, x 25, x 26, x 27, x 28, x 29, x 30, x 31, x 32, x 33, .slice (some ⟨g, 0, none⟩) 5 5, x 35, x 36, x 37, x 38, x 39, x 40, x 41, x 42, x 43, x 44, x 45, x 46, x 47, x 48, x 49, x 50, x 51, x 52, x 53, x 54, x 55, x 56, x 57, x 58, x 59, x 60, x 61, x 62, x 63, x 64, x 65, x 66, x 67, x 68, x 69, x 70, x 71, x 72, x 73, x 74, x 75, x 76, x 77, x 78, x 79, x 80, x 81, x 82, x 83, x 84, x 85, x 86, x 87, x 88, x 89, x 90, x 91, x 92, x 93, x 94, x 95, x 96, x 97, x 98, x 99, x 100, x 101, x 102, x 103, x 104, x 105, x 106, x 107, x 108, x 109, x 110, x 111, x 112, x 113, x 114, x 115, x 116, x 117, x 118, x 119, x 120, x 121, x 122, x 123, x 124, x 125, x 126, x 127, x 128, x 129, x 130, x 131, x 132, x 133, x 134, x 135, x 136, x 137, x 138, x 139, x 140, x 141, x 142, x 143, x 144, x 145, x 146, x 147, x 148, x 149, x 150, x 151, x 152, x 153, x 154, x 155, x 156, x 157, x 158, x 159, x 160, x 161, x 162, x 163, x 164, x 165, x 166, x 167, x 168, x 169, x 170], defers := [] } w2 := hK _ w2 (hW.trans (hbl _ hBg)) hmk ⟨g, rfl, hBg, hmk.br hbr⟩
      rw [hv] at hk
      exact hk
    · -- operation 7
      simp only [List.getElem?_toArray, List.getElem?_cons_succ, List.getElem?_cons_zero, Option.some.injEq] at ho
      subst ho
      simp only [Option.some.injEq] at hd
      subst hd
      have p6 : cpPr (.slice AD lD.length cD) lD kn pk (wn : Int) w3.heap.size 6 (x 34) (x 33) w := hdep 6 (List.mem_of_elem_eq_true (by kernel_rfl)) (by decide)
      clear hdep
      obtain ⟨g, hv, hBg, hbr⟩ := p6
      rw [hv] at hbr
      change x 34 = .slice (some ⟨g, 0, none⟩) 5 5 at hv
      unfold cpT
      rw [hv]
      go_simp
      have hk : K { tmps := #[x 0, x 1, x 2, x 3, x 4, x 5, x 6, x 7, x 8, x 9, x 10, x 11, x 12, x 13, x 14, x 15, x 16, x 17, x 18, x 19, x 20, x 21, x 22, x 23, x 24, x 25, x 26, x 27, x 28, x 29, x 30, x 31, x 32, x 33, x 34, .agg #[.int .i64 2, .string ⟨#[97]⟩, .string ⟨#[]⟩, .slice (some ⟨g, 0, none⟩) 5 5, .int .i64 0], x 36, x 37, x 38, x 39, x 40, x 41, x 42, x 43, x 44, x 45, x 46, x 47, x 48, x 49, x 50, x 51, x 52, x 53, x 54, x 55, x 56, x 57, x 58, x 59, x 60, x 61, x 62, x 63, x 64, x 65, x 66, x 67, x 68, x 69, x 70, x 71, x 72, x 73, x 74, x 75, x 76, x 77, x 78, x 79, x 80, x 81, x 82, x 83, x 84, x 85, x 86, x 87, x 88, x 89, x 90, x 91, x 92, x 93, x 94, x 95, x 96, x 97, x 98, x 99, x 100, x 101, x 102, x 103, x 104, x 105, x 106, x 107, x 108, x 109, x 110, x 111, x 112, x 113, x 114, x 115, x 116, x 117, x 118, x 119, x 120, x 121, x 122, x 123, x 124, x 125, x 126, x 127, x 128, x 129, x 130, x 131, x 132, x 133, x 134, x 135, x 136, x 137, x 138, x 139, x 140, x 141, x 142, x 143, x 144, x 145, x 146, x 147, x 148, x 149, x 150, x 151, x 152, x 153, x 154, x 155, x 156, x 157, x 158, x 159, x 160, x 161, x 162, x 163, x 164, x 165, x 166, x 167, x 168, x 169, x 170], defers := [] } w := hKsame _ ⟨⟨2, nmA, nmO, .slice (some ⟨g, 0, none⟩) 5 5, bMore, 0⟩, rfl, rfl, chOk_of hbr (by decide)⟩
      rw [hv] at hk
      exact hk
    · -- operation 8
      simp only [List.getElem?_toArray, List.getElem?_cons_succ, List.getElem?_cons_zero, Option.some.injEq] at ho
      subst ho
      simp only [Option.some.injEq] at hd
      subst hd
      clear hdep
      unfold cpT
      go_simp
      have hk : K { tmps := #[x 0, x 1, x 2, x 3, x 4, x 5, x 6, x 7, x 8, x 9, x 10, x 11, x 12, x 13, x 14, x 15, x 16, x 17, x 18, x 19, x 20, x 21, x 22, x 23, x 24, x 25, x 26, x 27, x 28, x 29, x 30, x 31, x 32, x 33, x 34, x 35, .agg #[.int .i64 7, .string ⟨#[97]⟩, .string ⟨#[]⟩, .slice none 0 0, .int .i64 0], x 37, x 38, x 39, x 40, x 41, x 42, x 43, x 44, x 45, x 46, x 47, x 48, x 49, x 50, x 51, x 52, x 53, x 54, x 55, x 56, x 57, x 58, x 59, x 60, x 61, x 62, x 63, x 64, x 65, x 66, x 67, x 68, x 69, x 70, x 71, x 72, x 73, x 74, x 75, x 76, x 77, x 78, x 79, x 80, x 81, x 82, x 83, x 84, x 85, x 86, x 87, x 88, x 89, x 90, x 91, x 92, x 93, x 94, x 95, x 96, x 97, x 98, x 99, x 100, x 101, x 102, x 103, x 104, x 105, x 106, x 107, x 108, x 109, x 110, x 111, x 112, x 113, x 114, x 115, x 116, x 117, x 118, x 119, x 120, x 121, x 122, x 123, x 124, x 125, x 126, x 127, x 128, x 129, x 130, x 131, x 132, x 133, x 134, x 135, x 136, x 137, x 138, x 139, x 140, x 141, x 142, x 143, x 144, x 145, x 146, x 147, x 148, x 149, x 150, x 151, x 152, x 153, x 154, x 155, x 156, x 157, x 158, x 159, x 160, x 161, x 162, x 163, x 164, x 165, x 166, x 167, x 168, x 169, x 170], defers := [] } w := hKsame _ ⟨⟨7, nmA, nmO, .slice none 0 0, [], 0⟩, rfl, rfl, chOk_of (BR.nil _ _ _) (by decide)⟩
      exact hk
    · -- operation 9
      simp only [List.getElem?_toArray, List.getElem?_cons_succ, List.getElem?_cons_zero, Option.some.injEq] at ho
      subst ho
      simp only [Option.some.injEq] at hd
      subst hd
      clear hdep
      unfold cpT
      go_simp
      have hk : K { tmps := #[x 0, x 1, x 2, x 3, x 4, x 5, x 6, x 7, x 8, x 9, x 10, x 11, x 12, x 13, x 14, x 15, x 16, x 17, x 18, x 19, x 20, x 21, x 22, x 23, x 24, x 25, x 26, x 27, x 28, x 29, x 30, x 31, x 32, x 33, x 34, x 35, x 36, .slice (some ⟨w.heap.size, 0, none⟩) 4 4, x 38, x 39, x 40, x 41, x 42, x 43, x 44, x 45, x 46, x 47, x 48, x 49, x 50, x 51, x 52, x 53, x 54, x 55, x 56, x 57, x 58, x 59, x 60, x 61, x 62, x 63, x 64, x 65, x 66, x 67, x 68, x 69, x 70, x 71, x 72, x 73, x 74, x 75, x 76, x 77, x 78, x 79, x 80, x 81, x 82, x 83, x 84, x 85, x 86, x 87, x 88, x 89, x 90, x 91, x 92, x 93, x 94, x 95, x 96, x 97, x 98, x 99, x 100, x 101, x 102, x 103, x 104, x 105, x 106, x 107, x 108, x 109, x 110, x 111, x 112, x 113, x 114, x 115, x 116, x 117, x 118, x 119, x 120, x 121, x 122, x 123, x 124, x 125, x 126, x 127, x 128, x 129, x 130, x 131, x 132, x 133, x 134, x 135, x 136, x 137, x 138, x 139, x 140, x 141, x 142, x 143, x 144, x 145, x 146, x 147, x 148, x 149, x 150, x 151, x 152, x 153, x 154, x 155, x 156, x 157, x 158, x 159, x 160, x 161, x 162, x 163, x 164, x 165, x 166, x 167, x 168, x 169, x 170], defers := [] } (w.alloc (.cells #[.int .u8 110, .int .u8 101, .int .u8 119, .int .u8 10] 5)) := hKalloc _ _ ⟨⟨w.heap.size, rfl, hzz, BR.lit w bNew _ _ _ rfl⟩, w.heap.size, (0, 0), rfl, alloc_get w _⟩
      exact hk
    · -- operation 10
      simp only [List.getElem?_toArray, List.getElem?_cons_succ, List.getElem?_cons_zero, Option.some.injEq] at ho
      subst ho
      simp only [Option.some.injEq] at hd
      subst hd
      have p9 : cpPr (.slice AD lD.length cD) lD kn pk (wn : Int) w3.heap.size 9 (x 37) (undef) w := hdep 9 (List.mem_of_elem_eq_true (by kernel_rfl)) (by decide)
      clear hdep
      obtain ⟨⟨g, hv, hBg, hbr⟩, g2, f2, hv2, hh⟩ := p9
      rw [hv] at hv2
      injection hv2 with hv2 _ _
      injection hv2 with hv2
      injection hv2 with hv2 _ _
      subst hv2
      rw [hv] at hbr
      obtain ⟨w2, hcv, hmk, hbl⟩ := run_mark w g 4 4 _ _ hh
      change x 37 = .slice (some ⟨g, 0, none⟩) 4 4 at hv
      unfold cpT
      rw [hv]
      go_simp
      have hk : K { tmps := #[x 0, x 1, x 2, x 3, x 4, x 5, x 6, x 7, x 8, x 9, x 10, x 11, x 12, x 13, x 14, x 15, x 16, x 17, x 18, x 19, x 20, x 21, x 22, x 23, x 24, x 25, x 26, x 27, x 28, x 29, x 30, x 31, x 32, x 33, x 34, x 35, x 36, x 37, .slice (some ⟨g, 0, none⟩) 4 4, x 39, x 40, x 41, x 42, x 43, x 44, x 45, x 46, x 47, x 48, x 49, x 50, x 51, x 52, x 53, x 54, x 55, x 56, x 57, x 58, x 59, x 60, x 61, x 62, x 63, x 64, x 65, x 66, x 67, x 68, x 69, x 70, x 71, x 72, x 73, x 74, x 75, x 76, x 77, x 78, x 79, x 80, x 81, x 82, x 83, x 84, x 85, x 86, x 87, x 88, x 89, x 90, x 91, x 92, x 93, x 94, x 95, x 96, x 97, x 98, x 99, x 100, x 101, x 102, x 103, x 104, x 105, x 106, x 107, x 108, x 109, x 110, x 111, x 112, x 113, x 114, x 115, x 116, x 117, x 118, x 119, x 120, x 121, x 122, x 123, x 124, x 125, x 126, x 127, x 128, x 129, x 130, x 131, x 132, x 133, x 134, x 135, x 136, x 137, x 138, x 139, x 140, x 141, x 142, x 143, x 144, x 145, x 146, x 147, x 148, x 149, x 150, x 151, x 152, x 153, x 154, x 155, x 156, x 157, x 158, x 159, x 160, x 161, x 162, x 163, x 164, x 165, x 166, x 167, x 168, x 169, x 170], defers := [] } w2 := hK _ w2 (hW.trans (hbl _ hBg)) hmk ⟨g, rfl, hBg, hmk.br hbr⟩
      rw [hv] at hk
      exact hk
    · -- operation 11
      simp only [List.getElem?_toArray, List.getElem?_cons_succ, List.getElem?_cons_zero, Option.some.injEq] at ho
      subst ho
      simp only [Option.some.injEq] at hd
      subst hd
      have p10 : cpPr (.slice AD lD.length cD) lD kn pk (wn : Int) w3.heap.size 10 (x 38) (x 37) w := hdep 10 (List.mem_of_elem_eq_true (by kernel_rfl)) (by decide)
      clear hdep
      obtain ⟨g, hv, hBg, hbr⟩ := p10
      rw [hv] at hbr
      change x 38 = .slice (some ⟨g, 0, none⟩) 4 4 at hv
      unfold cpT
      rw [hv]
      go_simp
      have hk : K { tmps := #[x 0, x 1, x 2, x 3, x 4, x 5, x 6, x 7, x 8, x 9, x 10, x 11, x 12, x 13, x 14, x 15, x 16, x 17, x 18, x 19, x 20, x 21, x 22, x 23, x 24, x 25, x 26, x 27, x 28, x 29, x 30, x 31, x 32, x 33, x 34, x 35, x 36, x 37, x 38, .agg #[.int .i64 8, .string ⟨#[97]⟩, .string ⟨#[]⟩, .slice (some ⟨g, 0, none⟩) 4 4, .int .i64 0], x 40, x 41, x 42, x 43, x 44, x 45, x 46, x 47, x 48, x 49, x 50, x 51, x 52, x 53, x 54, x 55, x 56, x 57, x 58, x 59, x 60, x 61, x 62, x 63, x 64, x 65, x 66, x 67, x 68, x 69, x 70, x 71, x 72, x 73, x 74, x 75, x 76, x 77, x 78, x 79, x 80, x 81, x 82, x 83, x 84, x 85, x 86, x 87, x 88, x 89, x 90, x 91, x 92, x 93, x 94, x 95, x 96, x 97, x 98, x 99, x 100, x 101, x 102, x 103, x 104, x 105, x 106, x 107, x 108, x 109, x 110, x 111, x 112, x 113, x 114, x 115, x 116, x 117, x 118, x 119, x 120, x 121, x 122, x 123, x 124, x 125, x 126, x 127, x 128, x 129, x 130, x 131, x 132, x 133, x 134, x 135, x 136, x 137, x 138, x 139, x 140, x 141, x 142, x 143, x 144, x 145, x 146, x 147, x 148, x 149, x 150, x 151, x 152, x 153, x 154, x 155, x 156, x 157, x 158, x 159, x 160, x 161, x 162, x 163, x 164, x 165, x 166, x 167, x 168, x 169, x 170], defers := [] } w := hKsame _ ⟨⟨8, nmA, nmO, .slice (some ⟨g, 0, none⟩) 4 4, bNew, 0⟩, rfl, rfl, chOk_of hbr (by decide)⟩
      rw [hv] at hk
      exact hk
    · -- operation 12
      simp only [List.getElem?_toArray, List.getElem?_cons_succ, List.getElem?_cons_zero, Option.some.injEq] at ho
      subst ho
      simp only [Option.some.injEq] at hd
      subst hd
      have p4 : cpPr (.slice AD lD.length cD) lD kn pk (wn : Int) w3.heap.size 4 (x 32) (undef) w := hdep 4 (List.mem_of_elem_eq_true (by kernel_rfl)) (by decide)
      have p7 : cpPr (.slice AD lD.length cD) lD kn pk (wn : Int) w3.heap.size 7 (x 35) (x 34) w := hdep 7 (List.mem_of_elem_eq_true (by kernel_rfl)) (by decide)
      have p8 : cpPr (.slice AD lD.length cD) lD kn pk (wn : Int) w3.heap.size 8 (x 36) (undef) w := hdep 8 (List.mem_of_elem_eq_true (by kernel_rfl)) (by decide)
      have p11 : cpPr (.slice AD lD.length cD) lD kn pk (wn : Int) w3.heap.size 11 (x 39) (x 38) w := hdep 11 (List.mem_of_elem_eq_true (by kernel_rfl)) (by decide)
      clear hdep
      obtain ⟨⟨ka, na, da, va, ba, ma⟩, ea, hpa, hoa⟩ := p4
      simp only [Ch.p, PC.mk.injEq] at hpa
      obtain ⟨rfl, rfl, rfl, rfl, rfl⟩ := hpa
      obtain ⟨Aa, ca, hva, _, _⟩ := Sl.form hoa.r
      simp only at hva
      subst hva
      simp only [chV] at ea
      obtain ⟨⟨kb, nb, db, vb, bb, mb⟩, eb, hpb, hob⟩ := p7
      simp only [Ch.p, PC.mk.injEq] at hpb
      obtain ⟨rfl, rfl, rfl, rfl, rfl⟩ := hpb
      obtain ⟨Ab, cb, hvb, _, _⟩ := Sl.form hob.r
      simp only at hvb
      subst hvb
      simp only [chV] at eb
      obtain ⟨⟨kc, nc, dc, vc, bc, mc⟩, ec, hpc, hoc⟩ := p8
      simp only [Ch.p, PC.mk.injEq] at hpc
      obtain ⟨rfl, rfl, rfl, rfl, rfl⟩ := hpc
      obtain ⟨Ac, cc, hvc, _, _⟩ := Sl.form hoc.r
      simp only at hvc
      subst hvc
      simp only [chV] at ec
      obtain ⟨⟨kd, nd, dd, vd, bd, md⟩, ed, hpd, hod⟩ := p11
      simp only [Ch.p, PC.mk.injEq] at hpd
      obtain ⟨rfl, rfl, rfl, rfl, rfl⟩ := hpd
      obtain ⟨Ad, cd, hvd, _, _⟩ := Sl.form hod.r
      simp only at hvd
      subst hvd
      simp only [chV] at ed
      unfold cpT
      rw [ea, eb, ec, ed]
      go_simp
      have hlit := ChsR.lit w ([⟨3, nmA, nmO, .slice Aa ([] : List UInt8).length ca, [], 0⟩, ⟨2, nmA, nmO, .slice Ab bMore.length cb, bMore, 0⟩, ⟨7, nmA, nmO, .slice Ac ([] : List UInt8).length cc, [], 0⟩, ⟨8, nmA, nmO, .slice Ad bNew.length cd, bNew, 0⟩] : List Ch) 37 w.heap.size rfl (by
        intro c hc
        simp only [List.mem_cons, List.not_mem_nil, or_false] at hc
        rcases hc with rfl | rfl | rfl | rfl
        · exact hoa
        · exact hob
        · exact hoc
        · exact hod)
      have hk := hKalloc _ _ ⟨w.heap.size, _, rfl, hlit, rfl⟩
      have hk2 : K { tmps := #[x 0, x 1, x 2, x 3, x 4, x 5, x 6, x 7, x 8, x 9, x 10, x 11, x 12, x 13, x 14, x 15, x 16, x 17, x 18, x 19, x 20, x 21, x 22, x 23, x 24, x 25, x 26, x 27, x 28, x 29, x 30, x 31, x 32, x 33, x 34, x 35, x 36, x 37, x 38, x 39, .slice (some ⟨w.heap.size, 0, none⟩) 4 4, x 41, x 42, x 43, x 44, x 45, x 46, x 47, x 48, x 49, x 50, x 51, x 52, x 53, x 54, x 55, x 56, x 57, x 58, x 59, x 60, x 61, x 62, x 63, x 64, x 65, x 66, x 67, x 68, x 69, x 70, x 71, x 72, x 73, x 74, x 75, x 76, x 77, x 78, x 79, x 80, x 81, x 82, x 83, x 84, x 85, x 86, x 87, x 88, x 89, x 90, x 91, x 92, x 93, x 94, x 95, x 96, x 97, x 98, x 99, x 100, x 101, x 102, x 103, x 104, x 105, x 106, x 107, x 108, x 109, x 110, x 111, x 112, x 113, x 114, x 115, x 116, x 117, x 118, x 119, x 120, x 121, x 122, x 123, x 124, x 125, x 126, x 127, x 128, x 129, x 130, x 131, x 132, x 133, x 134, x 135, x 136, x 137, x 138, x 139, x 140, x 141, x 142, x 143, x 144, x 145, x 146, x 147, x 148, x 149, x 150, x 151, x 152, x 153, x 154, x 155, x 156, x 157, x 158, x 159, x 160, x 161, x 162, x 163, x 164, x 165, x 166, x 167, x 168, x 169, x 170], defers := [] } _ := hk
      rw [ea, eb, ec, ed] at hk2
      exact hk2
    · -- operation 13
      simp only [List.getElem?_toArray, List.getElem?_cons_succ, List.getElem?_cons_zero, Option.some.injEq] at ho
      subst ho
      simp only [Option.some.injEq] at hd
      subst hd
      clear hdep
      unfold cpT
      rw [HX2.out]
      go_simp
      have hk : K { tmps := #[x 0, x 1, x 2, x 3, x 4, x 5, x 6, x 7, x 8, x 9, x 10, x 11, x 12, x 13, x 14, x 15, x 16, x 17, x 18, x 19, x 20, x 21, x 22, x 23, x 24, x 25, x 26, x 27, x 28, x 29, x 30, x 31, x 32, x 33, x 34, x 35, x 36, x 37, x 38, x 39, x 40, .int .u8 (wn : Int), x 42, x 43, x 44, x 45, x 46, x 47, x 48, x 49, x 50, x 51, x 52, x 53, x 54, x 55, x 56, x 57, x 58, x 59, x 60, x 61, x 62, x 63, x 64, x 65, x 66, x 67, x 68, x 69, x 70, x 71, x 72, x 73, x 74, x 75, x 76, x 77, x 78, x 79, x 80, x 81, x 82, x 83, x 84, x 85, x 86, x 87, x 88, x 89, x 90, x 91, x 92, x 93, x 94, x 95, x 96, x 97, x 98, x 99, x 100, x 101, x 102, x 103, x 104, x 105, x 106, x 107, x 108, x 109, x 110, x 111, x 112, x 113, x 114, x 115, x 116, x 117, x 118, x 119, x 120, x 121, x 122, x 123, x 124, x 125, x 126, x 127, x 128, x 129, x 130, x 131, x 132, x 133, x 134, x 135, x 136, x 137, x 138, x 139, x 140, x 141, x 142, x 143, x 144, x 145, x 146, x 147, x 148, x 149, x 150, x 151, x 152, x 153, x 154, x 155, x 156, x 157, x 158, x 159, x 160, x 161, x 162, x 163, x 164, x 165, x 166, x 167, x 168, x 169, x 170], defers := [] } w := hKsame _ rfl
      rw [HX2.out] at hk
      exact hk
    · -- operation 14
      simp only [List.getElem?_toArray, List.getElem?_cons_succ, List.getElem?_cons_zero, Option.some.injEq] at ho
      subst ho
      simp only [Option.some.injEq] at hd
      subst hd
      have p13 : cpPr (.slice AD lD.length cD) lD kn pk (wn : Int) w3.heap.size 13 (x 41) (undef) w := hdep 13 (List.mem_of_elem_eq_true (by kernel_rfl)) (by decide)
      clear hdep
      replace p13 : x 41 = .int .u8 (wn : Int) := p13
      unfold cpT
      rw [p13]
      go_simp
      rw [show ((wn : Int).tmod 4) = (kn : Int) by rw [← hkn]; rfl]
      have hk : K { tmps := #[x 0, x 1, x 2, x 3, x 4, x 5, x 6, x 7, x 8, x 9, x 10, x 11, x 12, x 13, x 14, x 15, x 16, x 17, x 18, x 19, x 20, x 21, x 22, x 23, x 24, x 25, x 26, x 27, x 28, x 29, x 30, x 31, x 32, x 33, x 34, x 35, x 36, x 37, x 38, x 39, x 40, x 41, .int .u8 (kn : Int), x 43, x 44, x 45, x 46, x 47, x 48, x 49, x 50, x 51, x 52, x 53, x 54, x 55, x 56, x 57, x 58, x 59, x 60, x 61, x 62, x 63, x 64, x 65, x 66, x 67, x 68, x 69, x 70, x 71, x 72, x 73, x 74, x 75, x 76, x 77, x 78, x 79, x 80, x 81, x 82, x 83, x 84, x 85, x 86, x 87, x 88, x 89, x 90, x 91, x 92, x 93, x 94, x 95, x 96, x 97, x 98, x 99, x 100, x 101, x 102, x 103, x 104, x 105, x 106, x 107, x 108, x 109, x 110, x 111, x 112, x 113, x 114, x 115, x 116, x 117, x 118, x 119, x 120, x 121, x 122, x 123, x 124, x 125, x 126, x 127, x 128, x 129, x 130, x 131, x 132, x 133, x 134, x 135, x 136, x 137, x 138, x 139, x 140, x 141, x 142, x 143, x 144, x 145, x 146, x 147, x 148, x 149, x 150, x 151, x 152, x 153, x 154, x 155, x 156, x 157, x 158, x 159, x 160, x 161, x 162, x 163, x 164, x 165, x 166, x 167, x 168, x 169, x 170], defers := [] } w := hKsame _ rfl
      rw [p13] at hk
      exact hk
    · -- operation 15
      simp only [List.getElem?_toArray, List.getElem?_cons_succ, List.getElem?_cons_zero, Option.some.injEq] at ho
      subst ho
      simp only [Option.some.injEq] at hd
      subst hd
      have p12 : cpPr (.slice AD lD.length cD) lD kn pk (wn : Int) w3.heap.size 12 (x 40) (x 32) w := hdep 12 (List.mem_of_elem_eq_true (by kernel_rfl)) (by decide)
      have p14 : cpPr (.slice AD lD.length cD) lD kn pk (wn : Int) w3.heap.size 14 (x 42) (x 41) w := hdep 14 (List.mem_of_elem_eq_true (by kernel_rfl)) (by decide)
      clear hdep
      obtain ⟨g, L, hv, hL, hLp⟩ := p12
      replace p14 : x 42 = .int .u8 (kn : Int) := p14
      rw [hv] at hL
      have hLl : L.length = 4 := by have := congrArg List.length hLp; simpa [pcs4] using this
      have hkL : kn < L.length := by omega
      have hpk2 : L[kn].p = pk := by
        have h1 : (L.map Ch.p)[kn]? = some pk := by rw [hLp]; exact hpk
        rw [List.getElem?_map, List.getElem?_eq_getElem hkL] at h1
        simpa using h1
      unfold cpT
      have hk4i : (kn : Int) < 4 := by omega
      rw [hv, p14]
      go_simp
      have hk : K { tmps := #[x 0, x 1, x 2, x 3, x 4, x 5, x 6, x 7, x 8, x 9, x 10, x 11, x 12, x 13, x 14, x 15, x 16, x 17, x 18, x 19, x 20, x 21, x 22, x 23, x 24, x 25, x 26, x 27, x 28, x 29, x 30, x 31, x 32, x 33, x 34, x 35, x 36, x 37, x 38, x 39, x 40, x 41, x 42, .pointer (some ⟨g, kn * 5, none⟩), x 44, x 45, x 46, x 47, x 48, x 49, x 50, x 51, x 52, x 53, x 54, x 55, x 56, x 57, x 58, x 59, x 60, x 61, x 62, x 63, x 64, x 65, x 66, x 67, x 68, x 69, x 70, x 71, x 72, x 73, x 74, x 75, x 76, x 77, x 78, x 79, x 80, x 81, x 82, x 83, x 84, x 85, x 86, x 87, x 88, x 89, x 90, x 91, x 92, x 93, x 94, x 95, x 96, x 97, x 98, x 99, x 100, x 101, x 102, x 103, x 104, x 105, x 106, x 107, x 108, x 109, x 110, x 111, x 112, x 113, x 114, x 115, x 116, x 117, x 118, x 119, x 120, x 121, x 122, x 123, x 124, x 125, x 126, x 127, x 128, x 129, x 130, x 131, x 132, x 133, x 134, x 135, x 136, x 137, x 138, x 139, x 140, x 141, x 142, x 143, x 144, x 145, x 146, x 147, x 148, x 149, x 150, x 151, x 152, x 153, x 154, x 155, x 156, x 157, x 158, x 159, x 160, x 161, x 162, x 163, x 164, x 165, x 166, x 167, x 168, x 169, x 170], defers := [] } w := hKsame _ (ch_ptr hL hLl hkL hpk2)
      rw [hv, p14] at hk
      exact hk
    · -- operation 16
      simp only [List.getElem?_toArray, List.getElem?_cons_succ, List.getElem?_cons_zero, Option.some.injEq] at ho
      subst ho
      simp only [Option.some.injEq] at hd
      subst hd
      have p15 : cpPr (.slice AD lD.length cD) lD kn pk (wn : Int) w3.heap.size 15 (x 43) (x 40) w := hdep 15 (List.mem_of_elem_eq_true (by kernel_rfl)) (by decide)
      clear hdep
      obtain ⟨g, o, c, hv, hcp, hco, hgl, hcell⟩ := p15
      obtain ⟨k1, n1, d1, v1, b1, m1⟩ := c
      obtain ⟨A1, c1, hv1, _, _⟩ := Sl.form hco.r
      simp only at hv1
      subst hv1
      have q0 := hcell 0 _ rfl
      have q1 := hcell 1 _ rfl
      have q2 := hcell 2 _ rfl
      have q3 := hcell 3 _ rfl
      have q4 := hcell 4 _ rfl
      rw [Nat.add_zero] at q0
      unfold cpT
      rw [hv]
      go_simp
      have hk : K { tmps := #[x 0, x 1, x 2, x 3, x 4, x 5, x 6, x 7, x 8, x 9, x 10, x 11, x 12, x 13, x 14, x 15, x 16, x 17, x 18, x 19, x 20, x 21, x 22, x 23, x 24, x 25, x 26, x 27, x 28, x 29, x 30, x 31, x 32, x 33, x 34, x 35, x 36, x 37, x 38, x 39, x 40, x 41, x 42, x 43, .agg #[.int .i64 k1, .string n1, .string d1, .slice A1 b1.length c1, .int .i64 m1], x 45, x 46, x 47, x 48, x 49, x 50, x 51, x 52, x 53, x 54, x 55, x 56, x 57, x 58, x 59, x 60, x 61, x 62, x 63, x 64, x 65, x 66, x 67, x 68, x 69, x 70, x 71, x 72, x 73, x 74, x 75, x 76, x 77, x 78, x 79, x 80, x 81, x 82, x 83, x 84, x 85, x 86, x 87, x 88, x 89, x 90, x 91, x 92, x 93, x 94, x 95, x 96, x 97, x 98, x 99, x 100, x 101, x 102, x 103, x 104, x 105, x 106, x 107, x 108, x 109, x 110, x 111, x 112, x 113, x 114, x 115, x 116, x 117, x 118, x 119, x 120, x 121, x 122, x 123, x 124, x 125, x 126, x 127, x 128, x 129, x 130, x 131, x 132, x 133, x 134, x 135, x 136, x 137, x 138, x 139, x 140, x 141, x 142, x 143, x 144, x 145, x 146, x 147, x 148, x 149, x 150, x 151, x 152, x 153, x 154, x 155, x 156, x 157, x 158, x 159, x 160, x 161, x 162, x 163, x 164, x 165, x 166, x 167, x 168, x 169, x 170], defers := [] } w := hKsame _ ⟨⟨k1, n1, d1, .slice A1 b1.length c1, b1, m1⟩, rfl, hcp, hco⟩
      rw [hv] at hk
      exact hk
    · -- operation 17
      simp only [List.getElem?_toArray, List.getElem?_cons_succ, List.getElem?_cons_zero, Option.some.injEq] at ho
      subst ho
      simp only [Option.some.injEq] at hd
      subst hd
      have p2 : cpPr (.slice AD lD.length cD) lD kn pk (wn : Int) w3.heap.size 2 (x 30) (x 29) w := hdep 2 (List.mem_of_elem_eq_true (by kernel_rfl)) (by decide)
      have p3 : cpPr (.slice AD lD.length cD) lD kn pk (wn : Int) w3.heap.size 3 (x 31) (undef) w := hdep 3 (List.mem_of_elem_eq_true (by kernel_rfl)) (by decide)
      have p16 : cpPr (.slice AD lD.length cD) lD kn pk (wn : Int) w3.heap.size 16 (x 44) (x 43) w := hdep 16 (List.mem_of_elem_eq_true (by kernel_rfl)) (by decide)
      clear hdep
      have hpk3 := hpk
      obtain ⟨⟨ka, na, da, va, ba, ma⟩, ea, hpa, hoa⟩ := p2
      simp only [Ch.p, PC.mk.injEq] at hpa
      obtain ⟨rfl, rfl, rfl, rfl, rfl⟩ := hpa
      obtain ⟨Aa, ca, hva, _, _⟩ := Sl.form hoa.r
      simp only at hva
      subst hva
      simp only [chV] at ea
      obtain ⟨⟨kb, nb, db, vb, bb, mb⟩, eb, hpb, hob⟩ := p3
      simp only [Ch.p, PC.mk.injEq] at hpb
      obtain ⟨rfl, rfl, rfl, rfl, rfl⟩ := hpb
      obtain ⟨Ab, cb, hvb, _, _⟩ := Sl.form hob.r
      simp only at hvb
      subst hvb
      simp only [chV] at eb
      obtain ⟨⟨kc, nc, dc, vc, bc, mc⟩, ec, hpc, hoc⟩ := p16
      obtain ⟨Ac, cc, hvc, _, _⟩ := Sl.form hoc.r
      simp only at hvc
      subst hvc
      simp only [chV] at ec
      unfold cpT
      rw [ea, eb, ec]
      go_simp
      have hlit := ChsR.lit w ([⟨1, nmA, nmO, .slice Aa ba.length ca, ba, 0⟩, ⟨5, nmA, nmB, .slice Ab ([] : List UInt8).length cb, [], 0⟩, ⟨kc, nc, dc, .slice Ac bc.length cc, bc, mc⟩] : List Ch) 37 w.heap.size rfl (by
        intro c hc
        simp only [List.mem_cons, List.not_mem_nil, or_false] at hc
        rcases hc with rfl | rfl | rfl
        · exact hoa
        · exact hob
        · exact hoc)
      have hk := hKalloc _ _ ⟨_, hlit, by rw [← hpc]; rfl⟩
      have hk2 : K { tmps := #[x 0, x 1, x 2, x 3, x 4, x 5, x 6, x 7, x 8, x 9, x 10, x 11, x 12, x 13, x 14, x 15, x 16, x 17, x 18, x 19, x 20, x 21, x 22, x 23, x 24, x 25, x 26, x 27, x 28, x 29, x 30, x 31, x 32, x 33, x 34, x 35, x 36, x 37, x 38, x 39, x 40, x 41, x 42, x 43, x 44, .slice (some ⟨w.heap.size, 0, none⟩) 3 3, x 46, x 47, x 48, x 49, x 50, x 51, x 52, x 53, x 54, x 55, x 56, x 57, x 58, x 59, x 60, x 61, x 62, x 63, x 64, x 65, x 66, x 67, x 68, x 69, x 70, x 71, x 72, x 73, x 74, x 75, x 76, x 77, x 78, x 79, x 80, x 81, x 82, x 83, x 84, x 85, x 86, x 87, x 88, x 89, x 90, x 91, x 92, x 93, x 94, x 95, x 96, x 97, x 98, x 99, x 100, x 101, x 102, x 103, x 104, x 105, x 106, x 107, x 108, x 109, x 110, x 111, x 112, x 113, x 114, x 115, x 116, x 117, x 118, x 119, x 120, x 121, x 122, x 123, x 124, x 125, x 126, x 127, x 128, x 129, x 130, x 131, x 132, x 133, x 134, x 135, x 136, x 137, x 138, x 139, x 140, x 141, x 142, x 143, x 144, x 145, x 146, x 147, x 148, x 149, x 150, x 151, x 152, x 153, x 154, x 155, x 156, x 157, x 158, x 159, x 160, x 161, x 162, x 163, x 164, x 165, x 166, x 167, x 168, x 169, x 170], defers := [] } _ := hk
      rw [ea, eb, ec] at hk2
      exact hk2
    · -- operation 18
      simp only [List.getElem?_toArray, List.getElem?_cons_succ, List.getElem?_cons_zero, Option.some.injEq] at ho
      subst ho
      simp only [Option.some.injEq] at hd
      subst hd
      have p0 : cpPr (.slice AD lD.length cD) lD kn pk (wn : Int) w3.heap.size 0 (x 28) (undef) w := hdep 0 (List.mem_of_elem_eq_true (by kernel_rfl)) (by decide)
      have p17 : cpPr (.slice AD lD.length cD) lD kn pk (wn : Int) w3.heap.size 17 (x 45) (x 30) w := hdep 17 (List.mem_of_elem_eq_true (by kernel_rfl)) (by decide)
      clear hdep
      replace p0 : x 28 = .agg #[.slice none 0 0, .slice none 0 0, .slice none 0 0] := p0
      obtain ⟨L, hL, hLp⟩ := p17
      have hLl : L.length = 3 := by have := congrArg List.length hLp; simpa using this
      obtain ⟨AL, cL, hv, _, _⟩ := hL.s.form
      have hL' := hL
      rw [hv, hLl] at hL'
      unfold cpT
      rw [p0, hv]
      go_simp
      refine (run_any _ _ _ _ ⟨[], [], []⟩ L _ (FsT.new _) Inv.new (by simp) hL' (by omega) (HG3.out.up hW)).mono ?_
      rintro e w2 ⟨fs, vN, vF, vO, vE, rfl, hT, hP, hI, hO, hE, hb2⟩
      rw [hLp] at hP hE
      rw [hLl] at hE
      have hk : K { tmps := #[x 0, x 1, x 2, x 3, x 4, x 5, x 6, x 7, x 8, x 9, x 10, x 11, x 12, x 13, x 14, x 15, x 16, x 17, x 18, x 19, x 20, x 21, x 22, x 23, x 24, x 25, x 26, x 27, x 28, x 29, x 30, x 31, x 32, x 33, x 34, x 35, x 36, x 37, x 38, x 39, x 40, x 41, x 42, x 43, x 44, x 45, .tuple #[.agg #[vN, vF, vO], vE], x 47, x 48, x 49, x 50, x 51, x 52, x 53, x 54, x 55, x 56, x 57, x 58, x 59, x 60, x 61, x 62, x 63, x 64, x 65, x 66, x 67, x 68, x 69, x 70, x 71, x 72, x 73, x 74, x 75, x 76, x 77, x 78, x 79, x 80, x 81, x 82, x 83, x 84, x 85, x 86, x 87, x 88, x 89, x 90, x 91, x 92, x 93, x 94, x 95, x 96, x 97, x 98, x 99, x 100, x 101, x 102, x 103, x 104, x 105, x 106, x 107, x 108, x 109, x 110, x 111, x 112, x 113, x 114, x 115, x 116, x 117, x 118, x 119, x 120, x 121, x 122, x 123, x 124, x 125, x 126, x 127, x 128, x 129, x 130, x 131, x 132, x 133, x 134, x 135, x 136, x 137, x 138, x 139, x 140, x 141, x 142, x 143, x 144, x 145, x 146, x 147, x 148, x 149, x 150, x 151, x 152, x 153, x 154, x 155, x 156, x 157, x 158, x 159, x 160, x 161, x 162, x 163, x 164, x 165, x 166, x 167, x 168, x 169, x 170], defers := [] } w2 := hKbel _ _ hb2 ⟨fs, vN, vF, vO, vE, rfl, hT, hP, hI, hO, hE⟩
      rw [p0, hv, hLl] at hk
      exact hk
    · -- operation 19
      simp only [List.getElem?_toArray, List.getElem?_cons_succ, List.getElem?_cons_zero, Option.some.injEq] at ho
      subst ho
      simp only [Option.some.injEq] at hd
      subst hd
      have p18 : cpPr (.slice AD lD.length cD) lD kn pk (wn : Int) w3.heap.size 18 (x 46) (x 28) w := hdep 18 (List.mem_of_elem_eq_true (by kernel_rfl)) (by decide)
      clear hdep
      unfold cpT
      go_simp
      have hk : K { tmps := #[x 0, x 1, x 2, x 3, x 4, x 5, x 6, x 7, x 8, x 9, x 10, x 11, x 12, x 13, x 14, x 15, x 16, x 17, x 18, x 19, x 20, x 21, x 22, x 23, x 24, x 25, x 26, x 46, x 28, x 29, x 30, x 31, x 32, x 33, x 34, x 35, x 36, x 37, x 38, x 39, x 40, x 41, x 42, x 43, x 44, x 45, x 46, x 47, x 48, x 49, x 50, x 51, x 52, x 53, x 54, x 55, x 56, x 57, x 58, x 59, x 60, x 61, x 62, x 63, x 64, x 65, x 66, x 67, x 68, x 69, x 70, x 71, x 72, x 73, x 74, x 75, x 76, x 77, x 78, x 79, x 80, x 81, x 82, x 83, x 84, x 85, x 86, x 87, x 88, x 89, x 90, x 91, x 92, x 93, x 94, x 95, x 96, x 97, x 98, x 99, x 100, x 101, x 102, x 103, x 104, x 105, x 106, x 107, x 108, x 109, x 110, x 111, x 112, x 113, x 114, x 115, x 116, x 117, x 118, x 119, x 120, x 121, x 122, x 123, x 124, x 125, x 126, x 127, x 128, x 129, x 130, x 131, x 132, x 133, x 134, x 135, x 136, x 137, x 138, x 139, x 140, x 141, x 142, x 143, x 144, x 145, x 146, x 147, x 148, x 149, x 150, x 151, x 152, x 153, x 154, x 155, x 156, x 157, x 158, x 159, x 160, x 161, x 162, x 163, x 164, x 165, x 166, x 167, x 168, x 169, x 170], defers := [] } w := hKsame _ p18
      exact hk
    · -- operation 20
      simp only [List.getElem?_toArray, List.getElem?_cons_succ, List.getElem?_cons_zero, Option.some.injEq] at ho
      subst ho
      simp only [Option.some.injEq] at hd
      subst hd
      have p19 : cpPr (.slice AD lD.length cD) lD kn pk (wn : Int) w3.heap.size 19 (x 27) (x 46) w := hdep 19 (List.mem_of_elem_eq_true (by kernel_rfl)) (by decide)
      clear hdep
      obtain ⟨fs, vN, vF, vO, vE, hv, _⟩ := p19
      unfold cpT
      rw [hv]
      go_simp
      have hk : K { tmps := #[x 0, x 1, x 2, x 3, x 4, x 5, x 6, x 7, x 8, x 9, x 10, x 11, x 12, x 13, x 14, x 15, x 16, x 17, x 18, x 19, x 20, x 21, x 22, x 23, x 24, x 25, x 26, x 27, x 28, x 29, x 30, x 31, x 32, x 33, x 34, x 35, x 36, x 37, x 38, x 39, x 40, x 41, x 42, x 43, x 44, x 45, x 46, .agg #[vN, vF, vO], x 48, x 49, x 50, x 51, x 52, x 53, x 54, x 55, x 56, x 57, x 58, x 59, x 60, x 61, x 62, x 63, x 64, x 65, x 66, x 67, x 68, x 69, x 70, x 71, x 72, x 73, x 74, x 75, x 76, x 77, x 78, x 79, x 80, x 81, x 82, x 83, x 84, x 85, x 86, x 87, x 88, x 89, x 90, x 91, x 92, x 93, x 94, x 95, x 96, x 97, x 98, x 99, x 100, x 101, x 102, x 103, x 104, x 105, x 106, x 107, x 108, x 109, x 110, x 111, x 112, x 113, x 114, x 115, x 116, x 117, x 118, x 119, x 120, x 121, x 122, x 123, x 124, x 125, x 126, x 127, x 128, x 129, x 130, x 131, x 132, x 133, x 134, x 135, x 136, x 137, x 138, x 139, x 140, x 141, x 142, x 143, x 144, x 145, x 146, x 147, x 148, x 149, x 150, x 151, x 152, x 153, x 154, x 155, x 156, x 157, x 158, x 159, x 160, x 161, x 162, x 163, x 164, x 165, x 166, x 167, x 168, x 169, x 170], defers := [] } w := hKsame (.agg #[vN, vF, vO]) (by first | exact ⟨_, hv⟩ | (show ∃ a, x 27 = _; exact ⟨_, hv⟩))
      rw [hv] at hk
      exact hk
    · -- operation 21
      simp only [List.getElem?_toArray, List.getElem?_cons_succ, List.getElem?_cons_zero, Option.some.injEq] at ho
      subst ho
      simp only [Option.some.injEq] at hd
      subst hd
      have p19 : cpPr (.slice AD lD.length cD) lD kn pk (wn : Int) w3.heap.size 19 (x 27) (x 46) w := hdep 19 (List.mem_of_elem_eq_true (by kernel_rfl)) (by decide)
      clear hdep
      obtain ⟨fs, vN, vF, vO, vE, hv, _⟩ := p19
      unfold cpT
      rw [hv]
      go_simp
      have hk : K { tmps := #[x 0, x 1, x 2, x 3, x 4, x 5, x 6, x 7, x 8, x 9, x 10, x 11, x 12, x 13, x 14, x 15, x 16, x 17, x 18, x 19, x 20, x 21, x 22, x 23, x 24, x 25, x 26, x 27, x 28, x 29, x 30, x 31, x 32, x 33, x 34, x 35, x 36, x 37, x 38, x 39, x 40, x 41, x 42, x 43, x 44, x 45, x 46, x 47, vE, x 49, x 50, x 51, x 52, x 53, x 54, x 55, x 56, x 57, x 58, x 59, x 60, x 61, x 62, x 63, x 64, x 65, x 66, x 67, x 68, x 69, x 70, x 71, x 72, x 73, x 74, x 75, x 76, x 77, x 78, x 79, x 80, x 81, x 82, x 83, x 84, x 85, x 86, x 87, x 88, x 89, x 90, x 91, x 92, x 93, x 94, x 95, x 96, x 97, x 98, x 99, x 100, x 101, x 102, x 103, x 104, x 105, x 106, x 107, x 108, x 109, x 110, x 111, x 112, x 113, x 114, x 115, x 116, x 117, x 118, x 119, x 120, x 121, x 122, x 123, x 124, x 125, x 126, x 127, x 128, x 129, x 130, x 131, x 132, x 133, x 134, x 135, x 136, x 137, x 138, x 139, x 140, x 141, x 142, x 143, x 144, x 145, x 146, x 147, x 148, x 149, x 150, x 151, x 152, x 153, x 154, x 155, x 156, x 157, x 158, x 159, x 160, x 161, x 162, x 163, x 164, x 165, x 166, x 167, x 168, x 169, x 170], defers := [] } w := hKsame (vE) (by first | exact ⟨_, hv⟩ | (show ∃ a, x 27 = _; exact ⟨_, hv⟩))
      rw [hv] at hk
      exact hk
    · -- operation 22
      simp only [List.getElem?_toArray, List.getElem?_cons_succ, List.getElem?_cons_zero, Option.some.injEq] at ho
      subst ho
      simp only [Option.some.injEq] at hd
      subst hd
      clear hdep
      unfold cpT
      go_simp
      have hk : K { tmps := #[x 0, x 1, x 2, x 3, x 4, x 5, x 6, x 7, .pointer (some ⟨w.heap.size, 0, none⟩), x 9, x 10, x 11, x 12, x 13, x 14, x 15, x 16, x 17, x 18, x 19, x 20, x 21, x 22, x 23, x 24, x 25, x 26, x 27, x 28, x 29, x 30, x 31, x 32, x 33, x 34, x 35, x 36, x 37, x 38, x 39, x 40, x 41, x 42, x 43, x 44, x 45, x 46, x 47, x 48, x 49, x 50, x 51, x 52, x 53, x 54, x 55, x 56, x 57, x 58, x 59, x 60, x 61, x 62, x 63, x 64, x 65, x 66, x 67, x 68, x 69, x 70, x 71, x 72, x 73, x 74, x 75, x 76, x 77, x 78, x 79, x 80, x 81, x 82, x 83, x 84, x 85, x 86, x 87, x 88, x 89, x 90, x 91, x 92, x 93, x 94, x 95, x 96, x 97, x 98, x 99, x 100, x 101, x 102, x 103, x 104, x 105, x 106, x 107, x 108, x 109, x 110, x 111, x 112, x 113, x 114, x 115, x 116, x 117, x 118, x 119, x 120, x 121, x 122, x 123, x 124, x 125, x 126, x 127, x 128, x 129, x 130, x 131, x 132, x 133, x 134, x 135, x 136, x 137, x 138, x 139, x 140, x 141, x 142, x 143, x 144, x 145, x 146, x 147, x 148, x 149, x 150, x 151, x 152, x 153, x 154, x 155, x 156, x 157, x 158, x 159, x 160, x 161, x 162, x 163, x 164, x 165, x 166, x 167, x 168, x 169, x 170], defers := [] } (w.alloc (.cells #[.slice none 0 0, .slice none 0 0, .slice none 0 0] 31)) := hKalloc _ _ ⟨w.heap.size, rfl, Blk.new _ _ _, hzz⟩
      exact hk
    · -- operation 24
      simp only [List.getElem?_toArray, List.getElem?_cons_succ, List.getElem?_cons_zero, Option.some.injEq] at ho
      subst ho
      simp only [Option.some.injEq] at hd
      subst hd
      have p21 : cpPr (.slice AD lD.length cD) lD kn pk (wn : Int) w3.heap.size 21 (x 48) (x 27) w := hdep 21 (List.mem_of_elem_eq_true (by kernel_rfl)) (by decide)
      clear hdep
      unfold cpT
      go_simp
      have hk : K { tmps := #[x 0, x 1, x 2, x 3, x 4, x 5, x 6, x 7, x 8, x 48, x 10, x 11, x 12, x 13, x 14, x 15, x 16, x 17, x 18, x 19, x 20, x 21, x 22, x 23, x 24, x 25, x 26, x 27, x 28, x 29, x 30, x 31, x 32, x 33, x 34, x 35, x 36, x 37, x 38, x 39, x 40, x 41, x 42, x 43, x 44, x 45, x 46, x 47, x 48, x 49, x 50, x 51, x 52, x 53, x 54, x 55, x 56, x 57, x 58, x 59, x 60, x 61, x 62, x 63, x 64, x 65, x 66, x 67, x 68, x 69, x 70, x 71, x 72, x 73, x 74, x 75, x 76, x 77, x 78, x 79, x 80, x 81, x 82, x 83, x 84, x 85, x 86, x 87, x 88, x 89, x 90, x 91, x 92, x 93, x 94, x 95, x 96, x 97, x 98, x 99, x 100, x 101, x 102, x 103, x 104, x 105, x 106, x 107, x 108, x 109, x 110, x 111, x 112, x 113, x 114, x 115, x 116, x 117, x 118, x 119, x 120, x 121, x 122, x 123, x 124, x 125, x 126, x 127, x 128, x 129, x 130, x 131, x 132, x 133, x 134, x 135, x 136, x 137, x 138, x 139, x 140, x 141, x 142, x 143, x 144, x 145, x 146, x 147, x 148, x 149, x 150, x 151, x 152, x 153, x 154, x 155, x 156, x 157, x 158, x 159, x 160, x 161, x 162, x 163, x 164, x 165, x 166, x 167, x 168, x 169, x 170], defers := [] } w := hKsame _ rfl
      exact hk
end Go.Proofs.YtldopkdjoejhbaaDoor
