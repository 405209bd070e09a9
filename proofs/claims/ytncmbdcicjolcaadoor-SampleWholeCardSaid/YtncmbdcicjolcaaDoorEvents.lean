/- Events in a row; the sampler's closure, its filter, Apply, Total. -/
import Derived.Test.YtncmbdcicjolcaaDoorEvent
import Derived.Test.YtncmbdcicjolcaaDoorSamplings
import Derived.Test.YtncmbdcicjolcaaDoorSlotsTwo
namespace Go.Proofs.YtncmbdcicjolcaaDoor
open Go.RowKit

def evV (l : List Ev) : List Value := l.flatMap Ev.vals
theorem evV_len (l : List Ev) : (evV l).length = l.length * 10 := by
  induction l with
  | nil => rfl
  | cons a l ih => rw [evV, List.flatMap_cons, List.length_append, ← evV, ih, List.length_cons, show a.vals.length = 10 from rfl]; omega
theorem evV_snoc (l : List Ev) (e : Ev) : evV (l ++ [e]) = evV l ++ e.vals := by simp [evV]
theorem evV_at (l : List Ev) (k : Nat) (h : k < l.length) (j : Nat) (hj : j < 10) : (evV l)[k * 10 + j]? = l[k].vals[j]? := by
  induction l generalizing k with
  | nil => simp at h
  | cons a l ih =>
    rw [evV, List.flatMap_cons, ← evV]
    have ha : a.vals.length = 10 := rfl
    cases k with
    | zero => rw [List.getElem?_append_left (by omega)]; simp
    | succ k =>
      rw [List.getElem?_append_right (by omega), ha, show (k + 1) * 10 + j - 10 = k * 10 + j by omega, ih k (by simpa using h)]
      simp
theorem elEv : Elem Tryd.prog 41 48 10 128 (.agg #[.int .i64 0, .int .i64 0, .int .i64 0, .int .i64 0, .slice none 0 0, .int .i64 0, .int .i64 0, .string ⟨#[]⟩, .string ⟨#[]⟩, .slice none 0 0]) := ⟨Tryd.underlying41, by kernel_rfl, rfl, by decide⟩
/-- The shapes that a store of an event asks. -/
structure EvS (e : Ev) : Prop where
  ln : ∃ A n c, e.ln = .slice A n c
  fd : ∃ A n c, e.fd = .slice A n c
  tr : e.tr.size ≤ 36

theorem below_setNew {a w : World} {B g : Nat} (h : Below B a w) (hg : B ≤ g) (i : Nat) (u : Value) : Below B a (w.setCell ⟨g, i, none⟩ u) :=
  h.trans ((Below.refl B w).setCell (by show B ≤ g; exact hg) u)
theorem results_cell_row_tmp {P : Program} {fn : Func} {p q : Tmp} {ty : TypeId} (h : fn.results = #[.cell p ty, .tmp q]) (tmps : Array Value) (w : World) (g : Nat) (t : TypeId) (cs : Array Value) (fr : Nat × Nat) (d : TypeDesc)
    (hp : tmps.getD p undef = .pointer (some ⟨g, 0, none⟩)) (hg : w.heap[g]? = some (.cells cs t fr))
    (hu : P.underlying ty = some d) (hd : (match d with | .struct _ | .array _ _ => true | _ => false) = true) (hi : (P.info? ty).map (·.size) = some cs.size) :
    (results fn tmps).run P w = .ok (.tuple #[.agg cs, tmps.getD q undef]) w := by
  have hp' : tmps[p]?.getD undef = .pointer (some ⟨g, 0, none⟩) := by simpa using hp
  simp [results, h, hp', asAddr, run_loadVar_row w g t ty cs fr d hg hu hd hi]
def kpT (x : Nat → Value) : Array Value := #[x 0, x 1, x 2, x 3, x 4, x 5, x 6, x 7, x 8, x 9, x 10, x 11, x 12, x 13, x 14, x 15, x 16, x 17]
def kp0 (a b c d e f g h i j k : Value) : Nat → Value
  | 0 => a
  | 1 => b
  | 2 => c
  | 3 => d
  | 4 => e
  | 5 => f
  | 6 => g
  | 7 => h
  | 8 => i
  | 9 => j
  | 10 => k
  | _ => undef
def kpPr (key : Int) (tr : ByteArray) (wt : Int) (r : Nat) (cs : Array Value) (i : Nat) (v : Value) (w : World) : Prop := match i with
  | 0 => v = .agg cs
  | 1 => v = .int .i64 key
  | 2 => v = .pointer (some ⟨r, 7, none⟩)
  | 3 => v = .string tr
  | 4 => v = .pointer (some ⟨r, 6, none⟩)
  | 5 => v = .int .i64 wt
  | 6 => v = .bool (keepB key tr wt)
  | 7 => Blk w (r + 1) 48 cs
  | _ => True
theorem weight_vld (l : List (ByteArray × Int)) (t : ByteArray) : vld (weightOf l t) = true := by
  unfold weightOf
  cases h : l.find? (fits t) with
  | none => rfl
  | some p =>
    have := List.find?_some h
    unfold fits at this
    simp at this
    exact this.1
set_option maxHeartbeats 8000000 in
/-- The closure of Apply. -/
theorem keepIt (b1 b2 : Nat) (lv : Value) (l : List (ByteArray × Int)) (key : Int) (e : Ev) (w : World) (B : Nat) (hE : EvS e) (hD : Divs w B) (hB : B ≤ w.heap.size)
    (h1 : Blk w b1 29 #[lv]) (h2 : Blk w b2 3 #[.int .i64 key]) (hl : Sl w (lt w.heap.size) 2 lv l.length (sam l)) (hm : l.length ≤ 1000000) :
    Calls Tryd.prog 33 #[.agg e.vals.toArray, .pointer (some ⟨b1, 0, none⟩), .pointer (some ⟨b2, 0, none⟩)] w fun x w' => x = .returned (.tuple #[.agg ({ e with wt := weightOf l e.tr } : Ev).vals.toArray, .bool (keepB key e.tr (weightOf l e.tr))]) ∧ Below w.heap.size w w' := by
  obtain ⟨vho, vfi, vfr, vto, vln, vti, vwt, vtr, vst, vfd⟩ := e
  obtain ⟨⟨lA, ln, lc, hln⟩, ⟨fA, fn, fc, hfd⟩, htr⟩ := hE
  simp only at hln hfd htr
  subst hln
  subst hfd
  obtain ⟨sA, sc, rfl, hc, hl⟩ := hl.form
  simp only [Ev.vals]
  have hwv := weight_vld l vtr
  have l1 := h1.lt
  have l2 := h2.lt
  go_enter Tryd.func33, Tryd.ntmps33
  go_upto_region 1 with fail
  have hx : Blk ((w.alloc (.cells #[.int .i64 vho, .int .i64 vfi, .int .i64 vfr, .int .i64 vto, .slice lA ln lc, .int .i64 vti, .int .i64 vwt, .string vtr, .string vst, .slice fA fn fc] 48)).alloc (.cells #[.int .i64 0, .int .i64 0, .int .i64 0, .int .i64 0, .slice none 0 0, .int .i64 0, .int .i64 0, .string ⟨#[]⟩, .string ⟨#[]⟩, .slice none 0 0] 48)) w.heap.size 48 #[.int .i64 vho, .int .i64 vfi, .int .i64 vfr, .int .i64 vto, .slice lA ln lc, .int .i64 vti, .int .i64 vwt, .string vtr, .string vst, .slice fA fn fc] := (Blk.new w _ _).alloc _
  have hz : Blk ((w.alloc (.cells #[.int .i64 vho, .int .i64 vfi, .int .i64 vfr, .int .i64 vto, .slice lA ln lc, .int .i64 vti, .int .i64 vwt, .string vtr, .string vst, .slice fA fn fc] 48)).alloc (.cells #[.int .i64 0, .int .i64 0, .int .i64 0, .int .i64 0, .slice none 0 0, .int .i64 0, .int .i64 0, .string ⟨#[]⟩, .string ⟨#[]⟩, .slice none 0 0] 48)) (w.heap.size + 1) 48 #[.int .i64 0, .int .i64 0, .int .i64 0, .int .i64 0, .slice none 0 0, .int .i64 0, .int .i64 0, .string ⟨#[]⟩, .string ⟨#[]⟩, .slice none 0 0] := by
    have := Blk.new (w.alloc (.cells #[.int .i64 vho, .int .i64 vfi, .int .i64 vfr, .int .i64 vto, .slice lA ln lc, .int .i64 vti, .int .i64 vwt, .string vtr, .string vst, .slice fA fn fc] 48)) 48 #[.int .i64 0, .int .i64 0, .int .i64 0, .int .i64 0, .slice none 0 0, .int .i64 0, .int .i64 0, .string ⟨#[]⟩, .string ⟨#[]⟩, .slice none 0 0]
    simpa using this
  have hb2 : Below w.heap.size w ((w.alloc (.cells #[.int .i64 vho, .int .i64 vfi, .int .i64 vfr, .int .i64 vto, .slice lA ln lc, .int .i64 vti, .int .i64 vwt, .string vtr, .string vst, .slice fA fn fc] 48)).alloc (.cells #[.int .i64 0, .int .i64 0, .int .i64 0, .int .i64 0, .slice none 0 0, .int .i64 0, .int .i64 0, .string ⟨#[]⟩, .string ⟨#[]⟩, .slice none 0 0] 48)) := ((Below.refl _ w).alloc (Nat.le_refl _) _).alloc (by simp) _
  generalize ((w.alloc (.cells #[.int .i64 vho, .int .i64 vfi, .int .i64 vfr, .int .i64 vto, .slice lA ln lc, .int .i64 vti, .int .i64 vwt, .string vtr, .string vst, .slice fA fn fc] 48)).alloc (.cells #[.int .i64 0, .int .i64 0, .int .i64 0, .int .i64 0, .slice none 0 0, .int .i64 0, .int .i64 0, .string ⟨#[]⟩, .string ⟨#[]⟩, .slice none 0 0] 48)) = w1 at hx hz hb2 ⊢
  have s1 := hz.lt
  have c1 : w1.cell? ⟨b1, 0, none⟩ = some (.slice sA l.length sc) := by rw [(h1.below hb2 l1).cell]; rfl
  have c7 : w1.cell? ⟨w.heap.size, 7, none⟩ = some (.string vtr) := by rw [hx.cell]; rfl
  rename_i K1 hK1
  have hK := keep hK1
  clear hK1
  go_wp2_with fail
  refine (weight_any _ l vtr w1 B (by omega) (hD.below (hb2.mono hB)) ((hl.below hb2 (Nat.le_refl _)).more hb2.size) hm).mono ?_
  rintro e w2 ⟨rfl, hbw⟩
  obtain ⟨wt, hwt⟩ : ∃ wt, weightOf l vtr = wt := ⟨_, rfl⟩
  rw [hwt] at hwv ⊢
  have hx2 := hx.below hbw (by omega)
  have hz2 := hz.below hbw (by omega)
  have c6 : w2.cell? ⟨w.heap.size, 6, none⟩ = some (.int .i64 vwt) := by rw [hx2.cell]; rfl
  have f6 := hx2.frozen 6
  go_wp2_with fail
  have hx3 := hx2.set_ 6 (.int .i64 wt)
  have hz3 := hz2.far (p := ⟨w.heap.size, 6, none⟩) (by show w.heap.size + 1 ≠ w.heap.size; omega) (.int .i64 wt)
  have hb3 : Below w.heap.size w (w2.setCell ⟨w.heap.size, 6, none⟩ (.int .i64 wt)) := below_setNew (hb2.trans (hbw.mono (by omega))) (Nat.le_refl _) 6 _
  generalize w2.setCell ⟨w.heap.size, 6, none⟩ (.int .i64 wt) = w3 at hx3 hz3 hb3 ⊢
  refine hK.out _ _ ?_
  clear hK
  go_upto_region 2 with fail
  rename_i K2 hK2
  change Code.wp _ (Code.region 2 _ true) _ { tmps := kpT (kp0 _ _ _ _ _ _ _ _ _ _ _), defers := [] } w3
  have hx0 : kp0 (.agg #[.int .i64 vho, .int .i64 vfi, .int .i64 vfr, .int .i64 vto, .slice lA ln lc, .int .i64 vti, .int .i64 vwt, .string vtr, .string vst, .slice fA fn fc]) (.pointer (some ⟨b1, 0, none⟩)) (.pointer (some ⟨b2, 0, none⟩)) (.pointer (some ⟨w.heap.size, 0, none⟩)) (.pointer (some ⟨w.heap.size + 1, 0, none⟩)) (.bool false) (.slice sA l.length sc) (.pointer (some ⟨w.heap.size, 7, none⟩)) (.string vtr) (.int .i64 wt) (.pointer (some ⟨w.heap.size, 6, none⟩)) 2 = .pointer (some ⟨b2, 0, none⟩) := rfl
  have hx1 : kp0 (.agg #[.int .i64 vho, .int .i64 vfi, .int .i64 vfr, .int .i64 vto, .slice lA ln lc, .int .i64 vti, .int .i64 vwt, .string vtr, .string vst, .slice fA fn fc]) (.pointer (some ⟨b1, 0, none⟩)) (.pointer (some ⟨b2, 0, none⟩)) (.pointer (some ⟨w.heap.size, 0, none⟩)) (.pointer (some ⟨w.heap.size + 1, 0, none⟩)) (.bool false) (.slice sA l.length sc) (.pointer (some ⟨w.heap.size, 7, none⟩)) (.string vtr) (.int .i64 wt) (.pointer (some ⟨w.heap.size, 6, none⟩)) 3 = .pointer (some ⟨w.heap.size, 0, none⟩) := rfl
  have hx4 : kp0 (.agg #[.int .i64 vho, .int .i64 vfi, .int .i64 vfr, .int .i64 vto, .slice lA ln lc, .int .i64 vti, .int .i64 vwt, .string vtr, .string vst, .slice fA fn fc]) (.pointer (some ⟨b1, 0, none⟩)) (.pointer (some ⟨b2, 0, none⟩)) (.pointer (some ⟨w.heap.size, 0, none⟩)) (.pointer (some ⟨w.heap.size + 1, 0, none⟩)) (.bool false) (.slice sA l.length sc) (.pointer (some ⟨w.heap.size, 7, none⟩)) (.string vtr) (.int .i64 wt) (.pointer (some ⟨w.heap.size, 6, none⟩)) 4 = .pointer (some ⟨w.heap.size + 1, 0, none⟩) := rfl
  generalize kp0 (.agg #[.int .i64 vho, .int .i64 vfi, .int .i64 vfr, .int .i64 vto, .slice lA ln lc, .int .i64 vti, .int .i64 vwt, .string vtr, .string vst, .slice fA fn fc]) (.pointer (some ⟨b1, 0, none⟩)) (.pointer (some ⟨b2, 0, none⟩)) (.pointer (some ⟨w.heap.size, 0, none⟩)) (.pointer (some ⟨w.heap.size + 1, 0, none⟩)) (.bool false) (.slice sA l.length sc) (.pointer (some ⟨w.heap.size, 7, none⟩)) (.string vtr) (.int .i64 wt) (.pointer (some ⟨w.heap.size, 6, none⟩)) = x0 at hx0 hx1 hx4 ⊢
  have hgr : ∀ a b : World, True := fun _ _ => trivial
  have c2 : ∀ u, Below w.heap.size w u → u.cell? ⟨b2, 0, none⟩ = some (.int .i64 key) := fun u hu => by rw [(h2.below hu l2).cell]; rfl
  refine wp_region_slots2 (by kernel_rfl) (by kernel_rfl) (by decide) kpT x0 (fun u => Below w.heap.size w u ∧ Blk u w.heap.size 48 #[.int .i64 vho, .int .i64 vfi, .int .i64 vfr, .int .i64 vto, .slice lA ln lc, .int .i64 vti, .int .i64 wt, .string vtr, .string vst, .slice fA fn fc] ∧ ∃ z0 z1 z2 z3 z4 z5 z6 z7 z8 z9, Blk u (w.heap.size + 1) 48 #[z0, z1, z2, z3, z4, z5, z6, z7, z8, z9]) (fun a b => Blk a (w.heap.size + 1) 48 #[.int .i64 vho, .int .i64 vfi, .int .i64 vfr, .int .i64 vto, .slice lA ln lc, .int .i64 vti, .int .i64 wt, .string vtr, .string vst, .slice fA fn fc] → Blk b (w.heap.size + 1) 48 #[.int .i64 vho, .int .i64 vfi, .int .i64 vfr, .int .i64 vto, .slice lA ln lc, .int .i64 vti, .int .i64 wt, .string vtr, .string vst, .slice fA fn fc]) (kpPr key vtr wt w.heap.size #[.int .i64 vho, .int .i64 vfi, .int .i64 vfr, .int .i64 vto, .slice lA ln lc, .int .i64 vti, .int .i64 wt, .string vtr, .string vst, .slice fA fn fc]) (fun x u => x 5 = .bool (keepB key vtr wt) ∧ x 4 = .pointer (some ⟨w.heap.size + 1, 0, none⟩) ∧ Blk u (w.heap.size + 1) 48 #[.int .i64 vho, .int .i64 vfi, .int .i64 vfr, .int .i64 vto, .slice lA ln lc, .int .i64 vti, .int .i64 wt, .string vtr, .string vst, .slice fA fn fc] ∧ Below w.heap.size w u) ?mono ⟨hb3.drew, hx3, _, _, _, _, _, _, _, _, _, _, hz3⟩ ?step ?last ?done
  case mono =>
    intro j v a b hab hp
    unfold kpPr at hp ⊢
    split at hp
    all_goals first | exact hp | exact hab hp
  case done =>
    rintro x u ho ⟨h5, h4, hb, hbel⟩
    refine hK2 _ _ ?_
    clear hK2 ho
    unfold kpT
    rw [h5, h4]
    clear h5 h4
    go_wp2_with fail
    refine bodyPost_ret (results_cell_row_tmp rfl _ _ _ _ _ _ _ rfl hb Tryd.underlying48 rfl (by kernel_rfl)) rfl ?_
    rw [hwt]
    exact ⟨rfl, hbel⟩
  case step =>
    intro i o hi ho x u K hW hout hdep hK
    obtain ⟨hbel, hr3, z0, z1, z2, z3, z4, z5, z6, z7, z8, z9, hr4⟩ := hW
    have e2 : x 2 = .pointer (some ⟨b2, 0, none⟩) := (hout 2 (by decide)).trans hx0
    have e3 : x 3 = .pointer (some ⟨w.heap.size, 0, none⟩) := (hout 3 (by decide)).trans hx1
    have e4 : x 4 = .pointer (some ⟨w.heap.size + 1, 0, none⟩) := (hout 4 (by decide)).trans hx4
    have cb := c2 u hbel
    have hKs : ∀ v, kpPr key vtr wt w.heap.size #[.int .i64 vho, .int .i64 vfi, .int .i64 vfr, .int .i64 vto, .slice lA ln lc, .int .i64 vti, .int .i64 wt, .string vtr, .string vst, .slice fA fn fc] i (vv o.dst v) u → K { tmps := kpT (nxt o.dst v x), defers := [] } u := fun v hp => hK v u ⟨hbel, hr3, _, _, _, _, _, _, _, _, _, _, hr4⟩ id hp
    clear hout
    have hcase : i = 0 ∨ i = 1 ∨ i = 2 ∨ i = 3 ∨ i = 4 ∨ i = 5 ∨ i = 6 ∨ i = 7 := by
      have : i < 8 := hi
      omega
    clear hi
    rcases hcase with rfl | rfl | rfl | rfl | rfl | rfl | rfl | rfl
    · -- operation 0
      simp only [List.getElem?_toArray, List.getElem?_cons_zero, Option.some.injEq] at ho
      subst ho
      have q0 : u.cell? ⟨w.heap.size, 0, none⟩ = some (.int .i64 vho) := by rw [hr3.cell]; rfl
      have q1 : u.cell? ⟨w.heap.size, 1, none⟩ = some (.int .i64 vfi) := by rw [hr3.cell]; rfl
      have q2 : u.cell? ⟨w.heap.size, 2, none⟩ = some (.int .i64 vfr) := by rw [hr3.cell]; rfl
      have q3 : u.cell? ⟨w.heap.size, 3, none⟩ = some (.int .i64 vto) := by rw [hr3.cell]; rfl
      have q4 : u.cell? ⟨w.heap.size, 4, none⟩ = some (.slice lA ln lc) := by rw [hr3.cell]; rfl
      have q5 : u.cell? ⟨w.heap.size, 5, none⟩ = some (.int .i64 vti) := by rw [hr3.cell]; rfl
      have q6 : u.cell? ⟨w.heap.size, 6, none⟩ = some (.int .i64 wt) := by rw [hr3.cell]; rfl
      have q7 : u.cell? ⟨w.heap.size, 7, none⟩ = some (.string vtr) := by rw [hr3.cell]; rfl
      have q8 : u.cell? ⟨w.heap.size, 8, none⟩ = some (.string vst) := by rw [hr3.cell]; rfl
      have q9 : u.cell? ⟨w.heap.size, 9, none⟩ = some (.slice fA fn fc) := by rw [hr3.cell]; rfl
      clear hdep hK
      unfold kpT
      rw [e3]
      go_simp
      have hk : K { tmps := #[x 0, x 1, x 2, x 3, x 4, x 5, x 6, x 7, x 8, x 9, x 10, .agg #[.int .i64 vho, .int .i64 vfi, .int .i64 vfr, .int .i64 vto, .slice lA ln lc, .int .i64 vti, .int .i64 wt, .string vtr, .string vst, .slice fA fn fc], x 12, x 13, x 14, x 15, x 16, x 17], defers := [] } u := hKs _ rfl
      rw [e2, e3, e4] at hk
      exact hk
    · -- operation 1
      simp only [List.getElem?_toArray, List.getElem?_cons_succ, List.getElem?_cons_zero, Option.some.injEq] at ho
      subst ho
      clear hdep hK
      unfold kpT
      rw [e2]
      go_simp
      have hk : K { tmps := #[x 0, x 1, x 2, x 3, x 4, x 5, x 6, x 7, x 8, x 9, x 10, x 11, .int .i64 key, x 13, x 14, x 15, x 16, x 17], defers := [] } u := hKs _ rfl
      rw [e2, e3, e4] at hk
      exact hk
    · -- operation 2
      simp only [List.getElem?_toArray, List.getElem?_cons_succ, List.getElem?_cons_zero, Option.some.injEq] at ho
      subst ho
      clear hdep hK
      unfold kpT
      rw [e3]
      go_simp
      have hk : K { tmps := #[x 0, x 1, x 2, x 3, x 4, x 5, x 6, x 7, x 8, x 9, x 10, x 11, x 12, .pointer (some ⟨w.heap.size, 7, none⟩), x 14, x 15, x 16, x 17], defers := [] } u := hKs _ rfl
      rw [e2, e3, e4] at hk
      exact hk
    · -- operation 3
      simp only [List.getElem?_toArray, List.getElem?_cons_succ, List.getElem?_cons_zero, Option.some.injEq] at ho
      subst ho
      have p0 : kpPr key vtr wt w.heap.size #[.int .i64 vho, .int .i64 vfi, .int .i64 vfr, .int .i64 vto, .slice lA ln lc, .int .i64 vti, .int .i64 wt, .string vtr, .string vst, .slice fA fn fc] 2 (x 13) u := hdep ⟨2, .data⟩ (by simp) (by rfl)
      replace p0 : x 13 = .pointer (some ⟨w.heap.size, 7, none⟩) := p0
      have q : u.cell? ⟨w.heap.size, 7, none⟩ = some (.string vtr) := by rw [hr3.cell]; rfl
      clear hdep hK
      unfold kpT
      rw [p0]
      go_simp
      have hk : K { tmps := #[x 0, x 1, x 2, x 3, x 4, x 5, x 6, x 7, x 8, x 9, x 10, x 11, x 12, x 13, .string vtr, x 15, x 16, x 17], defers := [] } u := hKs _ rfl
      rw [e2, e3, e4, p0] at hk
      exact hk
    · -- operation 4
      simp only [List.getElem?_toArray, List.getElem?_cons_succ, List.getElem?_cons_zero, Option.some.injEq] at ho
      subst ho
      clear hdep hK
      unfold kpT
      rw [e3]
      go_simp
      have hk : K { tmps := #[x 0, x 1, x 2, x 3, x 4, x 5, x 6, x 7, x 8, x 9, x 10, x 11, x 12, x 13, x 14, .pointer (some ⟨w.heap.size, 6, none⟩), x 16, x 17], defers := [] } u := hKs _ rfl
      rw [e2, e3, e4] at hk
      exact hk
    · -- operation 5
      simp only [List.getElem?_toArray, List.getElem?_cons_succ, List.getElem?_cons_zero, Option.some.injEq] at ho
      subst ho
      have p0 : kpPr key vtr wt w.heap.size #[.int .i64 vho, .int .i64 vfi, .int .i64 vfr, .int .i64 vto, .slice lA ln lc, .int .i64 vti, .int .i64 wt, .string vtr, .string vst, .slice fA fn fc] 4 (x 15) u := hdep ⟨4, .data⟩ (by simp) (by rfl)
      replace p0 : x 15 = .pointer (some ⟨w.heap.size, 6, none⟩) := p0
      have q : u.cell? ⟨w.heap.size, 6, none⟩ = some (.int .i64 wt) := by rw [hr3.cell]; rfl
      clear hdep hK
      unfold kpT
      rw [p0]
      go_simp
      have hk : K { tmps := #[x 0, x 1, x 2, x 3, x 4, x 5, x 6, x 7, x 8, x 9, x 10, x 11, x 12, x 13, x 14, x 15, .int .i64 wt, x 17], defers := [] } u := hKs _ rfl
      rw [e2, e3, e4, p0] at hk
      exact hk
    · -- operation 6
      simp only [List.getElem?_toArray, List.getElem?_cons_succ, List.getElem?_cons_zero, Option.some.injEq] at ho
      subst ho
      have p1 : kpPr key vtr wt w.heap.size #[.int .i64 vho, .int .i64 vfi, .int .i64 vfr, .int .i64 vto, .slice lA ln lc, .int .i64 vti, .int .i64 wt, .string vtr, .string vst, .slice fA fn fc] 1 (x 12) u := hdep ⟨1, .data⟩ (by simp) (by rfl)
      have p3 : kpPr key vtr wt w.heap.size #[.int .i64 vho, .int .i64 vfi, .int .i64 vfr, .int .i64 vto, .slice lA ln lc, .int .i64 vti, .int .i64 wt, .string vtr, .string vst, .slice fA fn fc] 3 (x 14) u := hdep ⟨3, .data⟩ (by simp) (by rfl)
      have p5 : kpPr key vtr wt w.heap.size #[.int .i64 vho, .int .i64 vfi, .int .i64 vfr, .int .i64 vto, .slice lA ln lc, .int .i64 vti, .int .i64 wt, .string vtr, .string vst, .slice fA fn fc] 5 (x 16) u := hdep ⟨5, .data⟩ (by simp) (by rfl)
      replace p1 : x 12 = .int .i64 key := p1
      replace p3 : x 14 = .string vtr := p3
      replace p5 : x 16 = .int .i64 wt := p5
      clear hdep hKs
      unfold kpT
      rw [p1, p3, p5]
      go_simp
      refine (keep_yes key wt vtr u B (hD.below (hbel.mono hB)) (by unfold maxLen; omega) hwv).mono ?_
      rintro e w9 ⟨rfl, hb9⟩
      have h9 := hr4.below hb9 hr4.lt
      have hk : K { tmps := #[x 0, x 1, x 2, x 3, x 4, x 5, x 6, x 7, x 8, x 9, x 10, x 11, x 12, x 13, x 14, x 15, x 16, .bool (keepB key vtr wt)], defers := [] } w9 := hK _ _ ⟨hbel.trans (hb9.mono hbel.size), hr3.below hb9 hr3.lt, _, _, _, _, _, _, _, _, _, _, h9⟩ (fun h => h.below hb9 hr4.lt) rfl
      rw [e2, e3, e4, p1, p3, p5] at hk
      exact hk
    · -- operation 7
      simp only [List.getElem?_toArray, List.getElem?_cons_succ, List.getElem?_cons_zero, Option.some.injEq] at ho
      subst ho
      have p0 : kpPr key vtr wt w.heap.size #[.int .i64 vho, .int .i64 vfi, .int .i64 vfr, .int .i64 vto, .slice lA ln lc, .int .i64 vti, .int .i64 wt, .string vtr, .string vst, .slice fA fn fc] 0 (x 11) u := hdep ⟨0, .data⟩ (by simp) (by rfl)
      replace p0 : x 11 = .agg #[.int .i64 vho, .int .i64 vfi, .int .i64 vfr, .int .i64 vto, .slice lA ln lc, .int .i64 vti, .int .i64 wt, .string vtr, .string vst, .slice fA fn fc] := p0
      have q0 : u.cell? ⟨w.heap.size + 1, 0, none⟩ = some z0 := by rw [hr4.cell]; rfl
      have f0 := hr4.frozen 0
      have q1 : u.cell? ⟨w.heap.size + 1, 1, none⟩ = some z1 := by rw [hr4.cell]; rfl
      have f1 := hr4.frozen 1
      have q2 : u.cell? ⟨w.heap.size + 1, 2, none⟩ = some z2 := by rw [hr4.cell]; rfl
      have f2 := hr4.frozen 2
      have q3 : u.cell? ⟨w.heap.size + 1, 3, none⟩ = some z3 := by rw [hr4.cell]; rfl
      have f3 := hr4.frozen 3
      have q4 : u.cell? ⟨w.heap.size + 1, 4, none⟩ = some z4 := by rw [hr4.cell]; rfl
      have f4 := hr4.frozen 4
      have q5 : u.cell? ⟨w.heap.size + 1, 5, none⟩ = some z5 := by rw [hr4.cell]; rfl
      have f5 := hr4.frozen 5
      have q6 : u.cell? ⟨w.heap.size + 1, 6, none⟩ = some z6 := by rw [hr4.cell]; rfl
      have f6 := hr4.frozen 6
      have q7 : u.cell? ⟨w.heap.size + 1, 7, none⟩ = some z7 := by rw [hr4.cell]; rfl
      have f7 := hr4.frozen 7
      have q8 : u.cell? ⟨w.heap.size + 1, 8, none⟩ = some z8 := by rw [hr4.cell]; rfl
      have f8 := hr4.frozen 8
      have q9 : u.cell? ⟨w.heap.size + 1, 9, none⟩ = some z9 := by rw [hr4.cell]; rfl
      have f9 := hr4.frozen 9
      clear hdep hKs
      unfold kpT
      rw [p0, e4]
      go_simp
      obtain ⟨hb9, hg9⟩ := ten_sets hr4 (.int .i64 vho) (.int .i64 vfi) (.int .i64 vfr) (.int .i64 vto) (.slice lA ln lc) (.int .i64 vti) (.int .i64 wt) (.string vtr) (.string vst) (.slice fA fn fc)
      have hbz : Below w.heap.size w ((((((((((u.setCell ⟨w.heap.size + 1, 0, none⟩ (.int .i64 vho)).setCell ⟨w.heap.size + 1, 1, none⟩ (.int .i64 vfi)).setCell ⟨w.heap.size + 1, 2, none⟩ (.int .i64 vfr)).setCell ⟨w.heap.size + 1, 3, none⟩ (.int .i64 vto)).setCell ⟨w.heap.size + 1, 4, none⟩ (.slice lA ln lc)).setCell ⟨w.heap.size + 1, 5, none⟩ (.int .i64 vti)).setCell ⟨w.heap.size + 1, 6, none⟩ (.int .i64 wt)).setCell ⟨w.heap.size + 1, 7, none⟩ (.string vtr)).setCell ⟨w.heap.size + 1, 8, none⟩ (.string vst)).setCell ⟨w.heap.size + 1, 9, none⟩ (.slice fA fn fc)) := by
        exact (below_setNew (below_setNew (below_setNew (below_setNew (below_setNew (below_setNew (below_setNew (below_setNew (below_setNew (below_setNew hbel (by omega) 0 _) (by omega) 1 _) (by omega) 2 _) (by omega) 3 _) (by omega) 4 _) (by omega) 5 _) (by omega) 6 _) (by omega) 7 _) (by omega) 8 _) (by omega) 9 _)
      have hk : K { tmps := #[x 0, x 1, x 2, x 3, x 4, x 5, x 6, x 7, x 8, x 9, x 10, x 11, x 12, x 13, x 14, x 15, x 16, x 17], defers := [] } ((((((((((u.setCell ⟨w.heap.size + 1, 0, none⟩ (.int .i64 vho)).setCell ⟨w.heap.size + 1, 1, none⟩ (.int .i64 vfi)).setCell ⟨w.heap.size + 1, 2, none⟩ (.int .i64 vfr)).setCell ⟨w.heap.size + 1, 3, none⟩ (.int .i64 vto)).setCell ⟨w.heap.size + 1, 4, none⟩ (.slice lA ln lc)).setCell ⟨w.heap.size + 1, 5, none⟩ (.int .i64 vti)).setCell ⟨w.heap.size + 1, 6, none⟩ (.int .i64 wt)).setCell ⟨w.heap.size + 1, 7, none⟩ (.string vtr)).setCell ⟨w.heap.size + 1, 8, none⟩ (.string vst)).setCell ⟨w.heap.size + 1, 9, none⟩ (.slice fA fn fc)) := hK undef _ ⟨hbz, hr3.grown hg9 (fun e => by injection e; omega), _, _, _, _, _, _, _, _, _, _, hb9⟩ (fun _ => hb9) hb9
      rw [e2, e3, e4, p0] at hk
      exact hk
  case last =>
    intro o ho x u K hW hout hall hK
    obtain ⟨hbel, hr3, _⟩ := hW
    have e4 : x 4 = .pointer (some ⟨w.heap.size + 1, 0, none⟩) := (hout 4 (by decide)).trans hx4
    have ho' := ho
    clear ho
    change ((#[_, _, _, _, _, _, _, _, _] : Array Oper)[8]?) = some o at ho'
    simp only [List.getElem?_toArray, List.getElem?_cons_succ, List.getElem?_cons_zero, Option.some.injEq] at ho'
    subst ho'
    have p6 : kpPr key vtr wt w.heap.size #[.int .i64 vho, .int .i64 vfi, .int .i64 vfr, .int .i64 vto, .slice lA ln lc, .int .i64 vti, .int .i64 wt, .string vtr, .string vst, .slice fA fn fc] 6 (x 17) u := hall 6 (by decide)
    have p7 : kpPr key vtr wt w.heap.size #[.int .i64 vho, .int .i64 vfi, .int .i64 vfr, .int .i64 vto, .slice lA ln lc, .int .i64 vti, .int .i64 wt, .string vtr, .string vst, .slice fA fn fc] 7 undef u := hall 7 (by decide)
    replace p6 : x 17 = .bool (keepB key vtr wt) := p6
    replace p7 : Blk u (w.heap.size + 1) 48 #[.int .i64 vho, .int .i64 vfi, .int .i64 vfr, .int .i64 vto, .slice lA ln lc, .int .i64 vti, .int .i64 wt, .string vtr, .string vst, .slice fA fn fc] := p7
    clear hall
    unfold kpT
    rw [p6]
    go_simp
    have hk : K { tmps := #[x 0, x 1, x 2, x 3, x 4, .bool (keepB key vtr wt), x 6, x 7, x 8, x 9, x 10, x 11, x 12, x 13, x 14, x 15, x 16, x 17], defers := [] } u := hK (.bool (keepB key vtr wt)) u ⟨rfl, e4, p7, hbel⟩
    rw [p6, e4] at hk
    exact hk
theorem ev_cells {w : World} {S : Nat → Prop} {A : Option Addr} {c k : Nat} {l : List Ev} (h : Sl w S 10 (.slice A l.length c) l.length (evV l)) (hk : k < l.length) :
    ∃ b o, A = some ⟨b, o, none⟩ ∧ S b ∧ w.cell? ⟨b, o + k * 10, none⟩ = some (.int .i64 l[k].ho) ∧ w.cell? ⟨b, o + k * 10 + 1, none⟩ = some (.int .i64 l[k].fi) ∧ w.cell? ⟨b, o + k * 10 + 2, none⟩ = some (.int .i64 l[k].fr) ∧ w.cell? ⟨b, o + k * 10 + 3, none⟩ = some (.int .i64 l[k].to_) ∧ w.cell? ⟨b, o + k * 10 + 4, none⟩ = some (l[k].ln) ∧ w.cell? ⟨b, o + k * 10 + 5, none⟩ = some (.int .i64 l[k].ti) ∧ w.cell? ⟨b, o + k * 10 + 6, none⟩ = some (.int .i64 l[k].wt) ∧ w.cell? ⟨b, o + k * 10 + 7, none⟩ = some (.string l[k].tr) ∧ w.cell? ⟨b, o + k * 10 + 8, none⟩ = some (.string l[k].st) ∧ w.cell? ⟨b, o + k * 10 + 9, none⟩ = some (l[k].fd) := by
  obtain ⟨b, o, hA, hb, hrow⟩ := h.row (by omega)
  have q : ∀ j, j < 10 → ∀ u, l[k].vals[j]? = some u → w.cell? ⟨b, o + k * 10 + j, none⟩ = some u := fun j hj u hu => by
    have := hrow _ _ ((evV_at l k hk j hj).trans hu)
    rwa [← Nat.add_assoc] at this
  exact ⟨b, o, hA, hb, q 0 (by omega) _ rfl, q 1 (by omega) _ rfl, q 2 (by omega) _ rfl, q 3 (by omega) _ rfl, q 4 (by omega) _ rfl, q 5 (by omega) _ rfl, q 6 (by omega) _ rfl, q 7 (by omega) _ rfl, q 8 (by omega) _ rfl, q 9 (by omega) _ rfl⟩
theorem own_belowE {w w' : World} {base e size n : Nat} {v : Value} {xs : List Value} (h : w.ownsRow base e size v n xs) (hb : Below w.heap.size w w') : w'.ownsRow base e size v n xs :=
  h.kept (row := none) ⟨hb.os, hb.tape, hb.output, hb.size, fun i hi _ => hb.block i hi⟩ (by cases v.ownBlock <;> simp)
/-- What Apply keeps, and how. -/
def smp (l : List (ByteArray × Int)) (key : Int) (E : List Ev) : List Ev := (E.filter fun e => keepB key e.tr (weightOf l e.tr)).map fun e => { e with wt := weightOf l e.tr }
theorem smp_snoc (l : List (ByteArray × Int)) (key : Int) (E : List Ev) (e : Ev) : smp l key (E ++ [e]) = smp l key E ++ (if keepB key e.tr (weightOf l e.tr) = true then [{ e with wt := weightOf l e.tr }] else []) := by
  unfold smp
  rw [List.filter_append, List.map_append]
  congr 1
  cases h : keepB key e.tr (weightOf l e.tr) <;> simp [h]
theorem smp_take_no {l : List (ByteArray × Int)} {key : Int} {E : List Ev} {k : Nat} (hk : k < E.length) (h : keepB key E[k].tr (weightOf l E[k].tr) = false) : smp l key (E.take (k + 1)) = smp l key (E.take k) := by
  rw [List.take_succ_eq_append_getElem hk, smp_snoc, if_neg (by rw [h]; decide), List.append_nil]
theorem smp_take_yes {l : List (ByteArray × Int)} {key : Int} {E : List Ev} {k : Nat} (hk : k < E.length) (h : keepB key E[k].tr (weightOf l E[k].tr) = true) : smp l key (E.take (k + 1)) = smp l key (E.take k) ++ [{ E[k] with wt := weightOf l E[k].tr }] := by
  rw [List.take_succ_eq_append_getElem hk, smp_snoc, if_pos h]
theorem smp_len (l : List (ByteArray × Int)) (key : Int) (E : List Ev) (k : Nat) : (smp l key (E.take k)).length ≤ k := by
  unfold smp
  rw [List.length_map]
  exact Nat.le_trans (List.length_filter_le _ _) (by simp; omega)
set_option maxHeartbeats 4000000 in
theorem filter_any (b1 b2 : Nat) (lv : Value) (l : List (ByteArray × Int)) (key : Int) (ev : Value) (E : List Ev) (w : World) (B : Nat) (hD : Divs w B) (hB : B ≤ w.heap.size)
    (h1 : Blk w b1 29 #[lv]) (h2 : Blk w b2 3 #[.int .i64 key]) (hl : Sl w (lt w.heap.size) 2 lv l.length (sam l)) (hm : l.length ≤ 1000000)
    (hE : ∀ e ∈ E, EvS e) (hv : Sl w (lt w.heap.size) 10 ev E.length (evV E)) (hEl : E.length ≤ 1000000) :
    Calls Tryd.prog 32 #[ev, .func (.func 33) #[] #[.pointer (some ⟨b1, 0, none⟩), .pointer (some ⟨b2, 0, none⟩)]] w
      fun x w' => ∃ v, x = .returned v ∧ w'.ownsRow w.heap.size 48 10 v (smp l key E).length (evV (smp l key E)) ∧ Below w.heap.size w w' := by
  obtain ⟨A, c, rfl, hc, hv⟩ := hv.form
  have l1 := h1.lt
  have l2 := h2.lt
  go_enter Tryd.func32, Tryd.ntmps32
  go_wp2_with fail
  go_loopw [5, 7, 8, 9, 12] (fun out _ _ _ i wr => ∃ k : Nat, k ≤ E.length ∧ i = .int .i64 k ∧ Hid (wr.ownsRow w.heap.size 48 10 out (smp l key (E.take k)).length (evV (smp l key (E.take k))) ∧ Below w.heap.size w wr)) (fun _ _ _ _ i _ => E.length - (intOf i).toNat)
  case atStart => exact ⟨0, Nat.zero_le _, rfl, keep ⟨World.ownsRow_nil _ _ _ _, Below.refl _ _⟩⟩
  case round =>
    obtain ⟨k, hk, rfl, hI⟩ := hrel
    have hbr := hI.out.2
    by_cases hlt : k < E.length
    · obtain ⟨b, o, rfl, hb, c0, c1, c2, c3, c4, c5, c6, c7, c8, c9⟩ := ev_cells (hv.below hbr (Nat.le_refl _)) hlt
      have hES := hE _ (List.getElem_mem hlt)
      have hno := smp_take_no (l := l) (key := key) hlt
      have hys := smp_take_yes (l := l) (key := key) hlt
      have hsl := smp_len l key E k
      generalize E[k] = e at c0 c1 c2 c3 c4 c5 c6 c7 c8 c9 hES hno hys
      obtain ⟨vho, vfi, vfr, vto, vln, vti, vwt, vtr, vst, vfd⟩ := e
      have hES' := hES
      obtain ⟨⟨lA, ln, lc, hln⟩, ⟨fA, fn, fc, hfd⟩, htr⟩ := hES'
      simp only at hln hfd htr c0 c1 c2 c3 c4 c5 c6 c7 c8 c9 hno hys
      subst hln
      subst hfd
      clear htr
      have i1 : (k : Int) < (E.length : Int) := by omega
      have HNO := keep hno
      have HYS := keep hys
      clear hno hys
      obtain ⟨wo, rfl⟩ : ∃ wo : World, wo = wr := ⟨_, rfl⟩
      go_wp2_with fail
      have hba : Below w.heap.size w (wo.alloc (.cells #[.int .i64 vho, .int .i64 vfi, .int .i64 vfr, .int .i64 vto, .slice lA ln lc, .int .i64 vti, .int .i64 vwt, .string vtr, .string vst, .slice fA fn fc] 48)) := hbr.alloc hbr.size _
      have hoa : (wo.alloc (.cells #[.int .i64 vho, .int .i64 vfi, .int .i64 vfr, .int .i64 vto, .slice lA ln lc, .int .i64 vti, .int .i64 vwt, .string vtr, .string vst, .slice fA fn fc] 48)).ownsRow w.heap.size 48 10 u5 (smp l key (E.take k)).length (evV (smp l key (E.take k))) := hI.out.1.alloc _
      refine (keepIt b1 b2 lv l key ⟨vho, vfi, vfr, vto, .slice lA ln lc, vti, vwt, vtr, vst, .slice fA fn fc⟩ _ B hES (hD.below (hba.mono hB)) (Nat.le_trans hB hba.size) (h1.below hba l1) (h2.below hba l2) ((hl.below hba (Nat.le_refl _)).more hba.size) hm).mono ?_
      rintro x w3 ⟨rfl, hb3⟩
      have hb4 := hba.trans (hb3.mono hba.size)
      have ho4 := own_belowE hoa hb3
      clear hoa hba hb3 c0 c1 c2 c3 c4 c5 c6 c7 c8 c9
      simp only [Ev.vals] at HNO HYS ⊢
      obtain ⟨wt, hwt⟩ : ∃ wt, weightOf l vtr = wt := ⟨_, rfl⟩
      rw [hwt] at HNO HYS ⊢
      have hk1 : (smp l key (E.take k)).length ≤ 1000000 := by omega
      have hz4 := hb4.size
      cases hkp : keepB key vtr wt
      · have HP := keep (HNO.out hkp)
        clear hkp HNO HYS
        go_wp2_with fail
        go_roundw
        case rel => exact ⟨k + 1, by omega, by go_num, keep ⟨by rw [HP.out]; exact ho4.alloc _, hb4.alloc hz4 _⟩⟩
        case measure => simp [intOf]; omega
      · have HP := keep (HYS.out hkp)
        clear hkp HNO HYS
        have ho5 := ho4.alloc (.cells #[.int .i64 vho, .int .i64 vfi, .int .i64 vfr, .int .i64 vto, .slice lA ln lc, .int .i64 vti, .int .i64 wt, .string vtr, .string vst, .slice fA fn fc] 48)
        have hb6 := hb4.alloc hz4 (.cells #[.int .i64 vho, .int .i64 vfi, .int .i64 vfr, .int .i64 vto, .slice lA ln lc, .int .i64 vti, .int .i64 wt, .string vtr, .string vst, .slice fA fn fc] 48)
        have hz6 := hb6.size
        go_wp2_with (refine wpList_push elEv rfl rfl _ _ _ rfl rfl rfl w.heap.size _ (.agg #[.int .i64 vho, .int .i64 vfi, .int .i64 vfr, .int .i64 vto, .slice lA ln lc, .int .i64 vti, .int .i64 wt, .string vtr, .string vst, .slice fA fn fc]) _ _ rfl (fun _ => rfl) (fun _ => rfl) ho5 rfl (by simp [Value.cells, Value.oneCell']) (by omega) (by unfold maxLen; omega) (by omega) hz6 ?_; intro g cap w5 hown5 hb5 hg5 _ _)
        go_roundw
        case rel => exact ⟨k + 1, by omega, by go_num, keep ⟨by rw [HP.out, evV_snoc, List.length_append]; exact hown5, hb6.trans hb5⟩⟩
        case measure => simp [intOf]; omega
    · obtain rfl : k = E.length := by omega
      have h := hI.out
      rw [List.take_length] at h
      go_wp2_with fail
      go_ret
      exact ⟨_, rfl, h.1, h.2⟩
end Go.Proofs.YtncmbdcicjolcaaDoor
