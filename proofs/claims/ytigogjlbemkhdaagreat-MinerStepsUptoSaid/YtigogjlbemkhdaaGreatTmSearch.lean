/- The place of tokens in a state: miner.search. -/
import Derived.Test.YtigogjlbemkhdaaGreatTmMath
import Derived.Test.YtigogjlbemkhdaaGreatInsTm
namespace Go.Proofs.YtigogjlbemkhdaaGreat
open Go.RowKit
variable {oB : Nat}
/-- A template: the slice of its tokens, what that reads as, the count. -/
structure Tm where
  tv : Value
  tk : List ByteArray
  ct : Int
def tmV (t : Tm) : List Value := [t.tv, .int .i64 t.ct]
def tms (L : List Tm) : List Value := L.flatMap tmV
theorem tms_len (L : List Tm) : (tms L).length = L.length * 2 := by
  unfold tms
  induction L with
  | nil => rfl
  | cons a l ih => rw [List.flatMap_cons, List.length_append, ih]; simp [tmV]; omega
theorem tms_at (L : List Tm) (k : Nat) (h : k < L.length) (j : Nat) (hj : j < 2) : (tms L)[k * 2 + j]? = (tmV L[k])[j]? := by
  unfold tms
  induction L generalizing k with
  | nil => simp at h
  | cons a l ih =>
    rw [List.flatMap_cons]
    have ha : (tmV a).length = 2 := rfl
    cases k with
    | zero => rw [List.getElem?_append_left (by omega)]; simp
    | succ k =>
      rw [List.getElem?_append_right (by omega), ha, show (k + 1) * 2 + j - 2 = k * 2 + j by omega, ih k (by simpa using h)]
      simp
/-- Blocks of strings: those that bear strings alone, and all that were there before block oB. -/
def strB (oB : Nat) (w : World) (b : Nat) : Prop := b < w.heap.size ∧ (b < oB ∨ ∃ cur f, w.heap[b]? = some (.cells cur 9 f))
theorem strB.lt_ {w : World} {b : Nat} (h : strB oB w b) : b < w.heap.size := h.1
theorem strB.same {w w' : World} {b : Nat} (h : strB oB w b) (hs : w'.heap[b]? = w.heap[b]?) : strB oB w' b := by
  obtain ⟨hl, h⟩ := h
  refine ⟨?_, h.imp id fun ⟨cur, f, h⟩ => ⟨cur, f, hs.trans h⟩⟩
  rw [Array.getElem?_eq_getElem hl] at hs
  exact (Array.getElem?_eq_some_iff.1 hs).1
theorem strB.grown {w w' : World} {b : Nat} {row : Option Nat} (h : strB oB w b) (hg : w.grownBy w' row) (hr : some b ≠ row) : strB oB w' b := h.same (hg.block b h.lt_ hr)
/-- The tokens of a template are there. -/
def TkR (oB : Nat) (w : World) (t : Tm) : Prop := Sl w (strB oB w) 1 t.tv t.tk.length (t.tk.map .string) ∧ t.tk.length ≤ 1048576
theorem Sl.upW {w w' : World} {size n : Nat} {v : Value} {xs : List Value} (h : Sl w (lt w.heap.size) size v n xs) (hb : Below w.heap.size w w') : Sl w' (lt w'.heap.size) size v n xs := (h.below hb (Nat.le_refl _)).more hb.size
theorem Sl.str {w : World} {n : Nat} {v : Value} {xs : List Value} (h : Sl w (strB oB w) 1 v n xs) : Sl w (lt w.heap.size) 1 v n xs := h.mono fun _ hb => hb.lt_
theorem Sl.strGrown {w w' : World} {n : Nat} {v : Value} {xs : List Value} {row : Option Nat} (h : Sl w (strB oB w) 1 v n xs) (hg : w.grownBy w' row) (hr : ∀ b, strB oB w b → some b ≠ row) : Sl w' (strB oB w') 1 v n xs := by
  obtain ⟨hl, A, c, hv, hc, hrr⟩ := h
  refine ⟨hl, A, c, hv, hc, fun hn => ?_⟩
  obtain ⟨b, o, hA, hb, hrow⟩ := hrr hn
  exact ⟨b, o, hA, hb.grown hg (hr b hb), hrow.keep fun p hp => World.cell?_of_block (hg.block p.block (hp ▸ hb.lt_) (hp ▸ hr b hb))⟩
theorem Sl.strUp {w w' : World} {n : Nat} {v : Value} {xs : List Value} (h : Sl w (strB oB w) 1 v n xs) (hb : Below w.heap.size w w') : Sl w' (strB oB w') 1 v n xs := h.strGrown (grownBy_of_below hb none) (by simp)
theorem TkR.up {w w' : World} {t : Tm} (h : TkR oB w t) (hb : Below w.heap.size w w') : TkR oB w' t := ⟨h.1.strUp hb, h.2⟩
theorem TkR.grown {w w' : World} {t : Tm} {row : Option Nat} (h : TkR oB w t) (hg : w.grownBy w' row) (hr : ∀ b, strB oB w b → some b ≠ row) : TkR oB w' t := ⟨h.1.strGrown hg hr, h.2⟩
theorem TkR.form {w : World} {t : Tm} (h : TkR oB w t) : ∃ A n c, t.tv = .slice A n c := by obtain ⟨A, c, hv, _⟩ := h.1.form; exact ⟨A, _, c, hv⟩
/-- A row of templates is no block of strings. -/
theorem own_noStr {w : World} {base n : Nat} {v : Value} {xs : List Value} (h : w.ownsRow base 32 2 v n xs) (ho : oB ≤ base) : ∀ b, strB oB w b → some b ≠ v.ownBlock := by
  rintro b ⟨_, hb⟩ e
  have hl := (h.lt b e.symm).1
  obtain ⟨_, cur2, _, _, h2, _⟩ := own_at h e.symm
  rcases hb with hb | ⟨cur, f, hb⟩
  · omega
  · rw [hb] at h2
    injection h2 with h2
    injection h2 with _ h2 _
    exact absurd h2 (by decide)
theorem own_str {w : World} {base n : Nat} {v : Value} {xs : List Value} (h : w.ownsRow base 9 1 v n xs) : Sl w (strB oB w) 1 v n xs := by
  refine ⟨h.1, ?_⟩
  rcases h.2 with ⟨hv, hn⟩ | ⟨g, cap, cur, hv, _, hg, hnc, _⟩
  · subst hn; exact ⟨none, 0, hv, Nat.le_refl _, fun h => absurd h (by omega)⟩
  · refine ⟨_, cap, hv, hnc, fun _ => ⟨g, 0, rfl, ⟨(Array.getElem?_eq_some_iff.1 hg).1, .inr ⟨cur, _, hg⟩⟩, fun j u hu => ?_⟩⟩
    have hc := h.cells (g := g) (by rw [hv]; rfl) j u hu
    rw [Addr.add_lit] at hc
    exact hc
theorem tm_cells {w : World} {S : Nat → Prop} {A : Option Addr} {c k : Nat} {L : List Tm} (h : Sl w S 2 (.slice A L.length c) L.length (tms L)) (hk : k < L.length) :
    ∃ b o, A = some ⟨b, o, none⟩ ∧ S b ∧ w.cell? ⟨b, o + k * 2, none⟩ = some L[k].tv ∧ w.cell? ⟨b, o + k * 2 + 1, none⟩ = some (.int .i64 L[k].ct) := by
  obtain ⟨b, o, hA, hb, hrow⟩ := h.row (by omega)
  have q : ∀ j, j < 2 → ∀ u, (tmV L[k])[j]? = some u → w.cell? ⟨b, o + k * 2 + j, none⟩ = some u := fun j hj u hu => by
    have := hrow _ _ ((tms_at L k hk j hj).trans hu)
    rwa [← Nat.add_assoc] at this
  exact ⟨b, o, hA, hb, q 0 (by omega) _ rfl, q 1 (by omega) _ rfl⟩
theorem strs_len (T : List ByteArray) : (strs T).length = T.length := by simp [strs]
theorem cmp_intQ (a b x : Int) (w : World) (h : cmpI a b = x) : Calls Tryz.prog 42 #[.int .i64 a, .int .i64 b] w fun e w' => e = .returned (.int .i64 x) ∧ w' = w := (cmp_int a b w).mono fun _ _ hh => ⟨by rw [← h]; exact hh.1, hh.2.symm⟩
set_option maxHeartbeats 4000000 in
set_option maxRecDepth 100000 in
theorem cmp_tm (t : Tm) (sv : Value) (s : List ByteArray) (w : World) (h1 : TkR oB w t) (h2 : Sl w (lt w.heap.size) 1 sv s.length (s.map .string)) :
    Calls Tryz.prog 49 #[.agg (tmV t).toArray, sv] w fun e w' => e = .returned (.int .i64 (cmpT (strs t.tk) (strs s))) ∧ Below w.heap.size w w' := by
  obtain ⟨A, n, c, hv⟩ := h1.form
  obtain ⟨tv, tk, ct⟩ := t
  simp only at hv
  subst hv
  obtain ⟨h1, htl⟩ := h1
  simp only at h1 htl
  replace h1 := h1.str
  have hn : n = tk.length := by obtain ⟨_, _, _, hv, _⟩ := h1; injection hv
  subst hn
  obtain ⟨A2, c2, rfl, hc2, h2⟩ := h2.form
  have hr : cmpT (strs tk) (strs s) = orL [cmpI tk.length s.length, cmpL (strs tk) (strs s)] := by rw [orL_two]; unfold cmpT; rw [strs_len, strs_len]
  simp only [tmV]
  rw [hr]
  obtain ⟨x, hx⟩ : ∃ x, cmpI tk.length s.length = x := ⟨_, rfl⟩
  obtain ⟨y, hy⟩ : ∃ y, cmpL (strs tk) (strs s) = y := ⟨_, rfl⟩
  rw [hx, hy]
  have HX := keep hx
  have HY := keep hy
  clear hr hx hy
  go_enter Tryz.func49, Tryz.ntmps49
  go_wp2_with fail
  have hb1 : Below w.heap.size w (w.alloc (.cells #[.slice A tk.length c, .int .i64 ct] 32)) := (Below.refl _ w).alloc (Nat.le_refl _) _
  have hB : Blk (w.alloc (.cells #[.slice A tk.length c, .int .i64 ct] 32)) w.heap.size 32 #[.slice A tk.length c, .int .i64 ct] := Blk.new w _ _
  generalize (w.alloc (.cells #[.slice A tk.length c, .int .i64 ct] 32)) = w1 at hb1 hB ⊢
  have c0 : w1.drew.cell? ⟨w.heap.size, 0, none⟩ = some (.slice A tk.length c) := (hB.cell 0).trans rfl
  have c1 : w1.cell? ⟨w.heap.size, 0, none⟩ = some (.slice A tk.length c) := (hB.cell 0).trans rfl
  have hq1 := cmp_intQ _ _ x w1.drew HX.out
  have hq2 := cmp_strs _ _ tk s w1.drew _ _ (h1.upW hb1.drew) (h2.upW hb1.drew) htl
  rw [HY.out] at hq2
  have HQ1 := keep hq1
  have HQ2 := keep hq2
  clear hq1 hq2
  refine wp_region_still_tail 10 (by kernel_rfl) (by kernel_rfl) ?_
  simp only [List.take_succ_cons, List.take_zero, List.drop_succ_cons, List.drop_zero]
  iterate 5 still_step
  still_call HQ1.out
  iterate 3 still_step
  still_call HQ2.out
  refine wpStill_nil ?_
  change wpList _ _ _ _ _ w1.drew
  have hsl : Sl (w1.drew.alloc (.cells #[.int .i64 x, .int .i64 y] 3)) (fun b => b = w1.heap.size) 1 (.slice (some ⟨w1.heap.size, 0, none⟩) 2 2) 2 ([x, y].map (.int .i64)) :=
    ⟨rfl, _, _, rfl, Nat.le_refl _, fun _ => ⟨_, 0, rfl, rfl, fun j u hu => by rw [Nat.zero_add]; exact (Blk.cell (Blk.new w1.drew 3 #[.int .i64 x, .int .i64 y]) j).trans (by simpa using hu)⟩⟩
  have HSL := keep hsl
  have hb2 : Below w.heap.size w (w1.drew.alloc (.cells #[.int .i64 x, .int .i64 y] 3)) := hb1.drew.alloc hb1.drew.size _
  clear hsl HQ1 HQ2 c0 c1 hB h1 h2
  go_wp2_with fail
  refine (or_int _ [x, y] _ _ HSL.out (by simp)).mono ?_
  rintro e w2 ⟨rfl, rfl⟩
  go_wp2_with fail
  go_ret
  exact ⟨rfl, hb2⟩
end Go.Proofs.YtigogjlbemkhdaaGreat
