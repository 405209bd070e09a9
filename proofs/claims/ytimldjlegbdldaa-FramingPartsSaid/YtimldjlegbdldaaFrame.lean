/- The contract of framing.Frame. -/
import Derived.Test.YtimldjlegbdldaaFrameIt
namespace Go.Proofs.Ytimldjlegbdldaa
open Go.RowKit Go.Shelf

attribute [local go_sem] Oper.semAt_some

theorem lines_make (a : Option Addr) (len cap : Nat) (x y : Int) (w : World) :
    Calls Try.prog 23 #[.slice a len cap, .int .i64 x, .int .i64 y] w fun e w' => e = .returned (.func (.func 32) #[] #[.pointer (some ⟨w.heap.size, 0, none⟩), .pointer (some ⟨w.heap.size + 1, 0, none⟩), .pointer (some ⟨w.heap.size + 2, 0, none⟩)]) ∧
      w' = ((w.alloc (.cells #[.slice a len cap] 22)).alloc (.cells #[.int .i64 x] 3)).alloc (.cells #[.int .i64 y] 3) := by
  go_enter Try.func23, Try.ntmps23
  go_wp2
  go_ret
  exact ⟨rfl, rfl⟩
theorem frame_no (v : Value) (l : List UInt8) (off lim : Int) (w : World) (h : BSl w (lt w.heap.size) v l) (hk : frOk l off = false) :
    Calls Try.prog 13 #[v, .int .i64 off, .int .i64 lim] w (FrameRes w l off lim) := by
  obtain ⟨A, c, rfl, hc, h⟩ := h.forms
  have he : frEnd l off = off ∧ frSp l off = [] ∧ frL l off lim = [] := by
    have e2 : frSp l off = [] := by unfold frSp; rw [hk]; rfl
    exact ⟨by unfold frEnd; rw [hk]; rfl, e2, by unfold frL; rw [e2]; rfl⟩
  have HE := keep he
  clear he
  unfold frOk at hk
  by_cases h0 : off < 0
  · have d0 : decide (off < 0) = true := by simpa using h0
    clear hk
    go_enter Try.func13, Try.ntmps13
    go_wp2
    go_ret2
    exact ⟨.slice none 0 0, by rw [HE.out.1]; rfl, by rw [HE.out.2.1, HE.out.2.2]; exact World.ownsRow_nil _ _ _ _, Below.refl _ _⟩
  · have d0 : decide (off < 0) = false := by simpa using h0
    have d1 : decide ((l.length : Int) < off) = true := by
      rw [decide_eq_true (show 0 ≤ off by omega)] at hk
      simp at hk
      simpa using hk
    clear hk
    go_enter Try.func13, Try.ntmps13
    go_wp2
    go_ret2
    exact ⟨.slice none 0 0, by rw [HE.out.1]; rfl, by rw [HE.out.2.1, HE.out.2.2]; exact World.ownsRow_nil _ _ _ _, Below.refl _ _⟩

/-- The cells of a framed line, each by itself. -/
theorem frV_form (l : List UInt8) (d : Nat) (lim : Int) (p : Nat × Nat) : ∃ (g q r : Nat) (s : ByteArray) (b : Bool), g = d + p.1 ∧ q = p.2 - p.1 ∧ frV l d lim p = [.int .i64 (g : Int), .int .i64 (q : Int), .string s, .int .i64 r, .bool b] := by
  unfold frV
  split
  · exact ⟨_, _, 0, _, true, rfl, rfl, rfl⟩
  · exact ⟨_, _, _, _, false, rfl, rfl, rfl⟩
/-- The end behind the lines that have come. -/
def endP (d : Nat) (ps : List (Nat × Nat)) (pre : List (PlAt ps.length)) : Nat := match pre.getLast? with | none => d | some x => d + (ps[x.1]'x.2).2
theorem endP_push (d : Nat) (ps : List (Nat × Nat)) (pre : List (PlAt ps.length)) (x : PlAt ps.length) : endP d ps (pre ++ [x]) = d + (ps[x.1]'x.2).2 := by unfold endP; simp
theorem cells_ne {W : World} {k t : Nat} {cs : Array Value} {fz : Nat × Nat} {row : Option Nat} (h : W.heap[k]? = some (.cells cs t fz)) (hr : ∀ r, row = some r → ∃ o : Obj, W.heap[r]? = some o ∧ o.isCells = false) : some k ≠ row := by
  intro e
  obtain ⟨o, ho, hc⟩ := hr k e.symm
  rw [h] at ho
  cases ho
  cases hc
theorem own_cellsN {w : World} {B e size k : Nat} {v : Value} {xs : List Value} (h : w.ownsRow B e size v k xs) : ∀ i, v.ownBlock = some i → ∃ cur, w.heap[i]? = some (.cells cur e (0, 0)) := by
  intro i hi
  rcases h.2 with ⟨rfl, _⟩ | ⟨g, cap, cur, rfl, _, hg, _⟩
  · cases hi
  · obtain rfl : g = i := by simpa [Value.ownBlock] using hi
    exact ⟨cur, hg⟩
/-- What the caller's boxes hold between two rounds. -/
structure LI (w : World) (l : List UInt8) (d : Nat) (lim : Int) (ps : List (Nat × Nat)) (pre : List (PlAt ps.length)) (v : Value) (W : World) : Prop where
  b : Boxed W w.heap.size 34 v
  r : W.ownsRow w.heap.size 41 5 v pre.length (pre.flatMap fun x => frV l d lim (ps[x.1]'x.2))
  e : Boxed W (w.heap.size + 1) 3 (.int .i64 (endP d ps pre : Nat))
  m : Below w.heap.size w W
section
variable {w : World} {l : List UInt8} {d : Nat} {lim : Int} {ps : List (Nat × Nat)} {pre : List (PlAt ps.length)} {v : Value} {W W' : World}
theorem LI.own {row : Option Nat} (h : LI w l d lim ps pre v W) (hg : W.grownBy W' row) (hr : ∀ r, row = some r → w.heap.size ≤ r ∧ ∃ o : Obj, W.heap[r]? = some o ∧ o.isCells = false) : LI w l d lim ps pre v W' := by
  have hr' := fun r e => (hr r e).2
  refine ⟨h.b.kept hg (cells_ne h.b hr'), h.r.kept hg ?_, h.e.kept hg (cells_ne h.e hr'), h.m.grown hg h.m.size (fun k e => (hr k e).1)⟩
  cases hv : v.ownBlock with
  | none => exact .inl rfl
  | some i =>
    obtain ⟨cur, hc⟩ := own_cellsN h.r i hv
    exact .inr (cells_ne hc hr')
end
theorem cells_new5 (W : World) (t : TypeId) (a b c d e : Value) : ∀ j u, [a, b, c, d, e][j]? = some u → (W.alloc (.cells #[a, b, c, d, e] t)).cell? ((⟨W.heap.size, 0, none⟩ : Addr).add j) = some u := by
  intro j u hu
  rw [Addr.add_lit, Nat.zero_add, (Blk.new W t #[a, b, c, d, e]).cell]
  simpa using hu
section
variable {w : World} {l : List UInt8} {d : Nat} {lim : Int} {ps : List (Nat × Nat)} {pre : List (PlAt ps.length)} {v v' : Value} {W w1 : World} {Bx : Nat} {a0 a1 a2 a3 a4 : Value} {tmp : Obj}
/-- Behind the append and the store of its value: the loop's variable and the other box lie as they lay. -/
theorem LI.after (h : LI w l d lim ps pre v W) (hx : Blk W Bx 41 #[a0, a1, a2, a3, a4]) (hne : v.ownBlock ≠ some Bx) (hB : w.heap.size + 2 ≤ Bx) (hg : (W.alloc tmp).grownBy w1 v.ownBlock) (u : Value) :
    (w1.setCell ⟨w.heap.size, 0, none⟩ u).cell? ⟨Bx, 0, none⟩ = some a0 ∧ (w1.setCell ⟨w.heap.size, 0, none⟩ u).cell? ⟨Bx, 1, none⟩ = some a1 ∧ True ∧ Boxed (w1.setCell ⟨w.heap.size, 0, none⟩ u) (w.heap.size + 1) 3 (.int .i64 (endP d ps pre : Nat)) := by
  have h1 : Blk (w1.setCell ⟨w.heap.size, 0, none⟩ u) Bx 41 #[a0, a1, a2, a3, a4] := ((hx.alloc tmp).grown hg (fun e => hne e.symm)).far (by simp; omega) u
  exact ⟨by rw [h1.cell]; rfl, by rw [h1.cell]; rfl, trivial, ((h.e.alloc tmp).kept hg (h.e.not_row (by decide) h.r)).other (by omega) u⟩
/-- .. and the store of the end. -/
theorem LI.fin {x : PlAt ps.length} {xs : List Value} (h : LI w l d lim ps pre v W) (hg : (W.alloc tmp).grownBy w1 v.ownBlock) (q2 : Boxed (w1.setCell ⟨w.heap.size, 0, none⟩ v') w.heap.size 34 v')
    (q3 : (w1.setCell ⟨w.heap.size, 0, none⟩ v').ownsRow w.heap.size 41 5 v' (pre.length + 1) ((pre.flatMap fun x => frV l d lim (ps[x.1]'x.2)) ++ xs)) (q5 : Below w.heap.size W (w1.setCell ⟨w.heap.size, 0, none⟩ v'))
    (y : Boxed (w1.setCell ⟨w.heap.size, 0, none⟩ v') (w.heap.size + 1) 3 (.int .i64 (endP d ps pre : Nat))) (k : Nat) (hk : d + (ps[x.1]'x.2).2 = k) (hxs : frV l d lim (ps[x.1]'x.2) = xs) :
    KpF w.heap.size (w.heap.size + 1) w.heap.size W ((w1.setCell ⟨w.heap.size, 0, none⟩ v').setCell ⟨w.heap.size + 1, 0, none⟩ (.int .i64 k)) ∧ LI w l d lim ps (pre ++ [x]) v' ((w1.setCell ⟨w.heap.size, 0, none⟩ v').setCell ⟨w.heap.size + 1, 0, none⟩ (.int .i64 k)) := by
  refine ⟨⟨fun i cs t fz hi ht h1 h2 => ?_, q5.setCell (p := ⟨w.heap.size + 1, 0, none⟩) (by simp) _⟩, q2.other (by omega) _, ?_, by rw [endP_push, hk]; exact y.set _, h.m.trans (q5.setCell (p := ⟨w.heap.size + 1, 0, none⟩) (by simp) _)⟩
  · have hlt := (Array.getElem?_eq_some_iff.1 hi).1
    refine (Below.heap_setCell _ ⟨w.heap.size + 1, 0, none⟩ _ i (by simpa using h2)).trans ((Below.heap_setCell _ ⟨w.heap.size, 0, none⟩ _ i (by simpa using h1)).trans ((hg.block i (by simp; omega) (fun e => ?_)).trans ((Below.heap_alloc W _ i hlt).trans hi)))
    obtain ⟨cur, hc⟩ := own_cellsN h.r i e.symm
    rw [hi] at hc
    injection hc with hc
    injection hc with _ hc _
    exact ht hc
  · have hz := (q3.kept (grownBy_setCell' _ (w.heap.size + 1) (.int .i64 k)) (.inr (fun e => y.not_row (by decide) q3 e.symm)))
    rw [List.length_append, List.flatMap_append, List.flatMap_singleton, hxs]
    exact hz
end
/-- What the assignment to the loop's variable leaves. -/
def LA (w : World) (l : List UInt8) (d : Nat) (lim : Int) (ps : List (Nat × Nat)) (t : Value → Value → Array Value) (x : PlAt ps.length) (a' : Act) (W : World) : Prop :=
  ∃ (Bx : Nat) (v : Value), Boxed W w.heap.size 34 v ∧ v.ownBlock ≠ some Bx ∧ Blk W Bx 41 (frV l d lim (ps[x.1]'x.2)).toArray ∧ w.heap.size + 2 ≤ Bx ∧
    a' = { tmps := t (.pointer (some ⟨Bx, 0, none⟩)) (.agg (frV l d lim (ps[x.1]'x.2)).toArray), defers := [] }

set_option maxRecDepth 100000 in
set_option maxHeartbeats 4000000 in
theorem frame_yes (v : Value) (l : List UInt8) (d : Nat) (lim : Int) (w : World) (h : BSl w (lt w.heap.size) v l) (hm : l.length ≤ 1000000000) (hk : d ≤ l.length) :
    Calls Try.prog 13 #[v, .int .i64 d, .int .i64 lim] w (FrameRes w l d lim) := by
  obtain ⟨A, c, rfl, hc, h⟩ := h.forms
  have he := frEnd_eq hk
  have d0 : decide ((d : Int) < 0) = false := by simp
  have d1 : decide (l.length < d) = false := by simp; omega
  obtain ⟨ps, hps⟩ : ∃ ps, spans (l.drop d) = ps := ⟨_, rfl⟩
  have hin : ∀ p ∈ ps, p.1 < p.2 ∧ d + p.2 ≤ l.length := by rw [← hps]; exact fun p hp => span_in hk hp
  have hpl : ps.length ≤ 1000000000 := by rw [← hps]; have := spans_len (l.drop d); rw [List.length_drop] at this; omega
  have hend : endK d ps ps.length = d + spEnd (l.drop d) := by rw [← hps]; exact endK_all
  rw [hps] at he
  have HE := keep (And.intro he hend)
  have HPS := keep hps
  have HIN := keep hin
  clear he hend hps hin
  refine (callsIn_wide (n := 6)).1 ?_
  refine callsIn_of_wp_marks Try.func13 rfl trivial ?_ rfl
  simp only [Try.ntmps13, List.size_toArray, List.length_cons, List.length_nil, Nat.reduceAdd, Nat.reduceSub, Array.replicate_succ, Array.replicate_zero, List.push_toArray, List.append_toArray, List.nil_append, List.cons_append]
  refine wpIn_wide.2 ?_
  go_wp2_with fail
  refine (lines_make A l.length c _ _ _).mono ?_
  rintro e w' ⟨rfl, rfl⟩
  go_wp2_with fail
  have b0 := Boxed.new w 34 (.slice none 0 0)
  have b1 := Boxed.new (w.alloc (.cells #[.slice none 0 0] 34)) 3 (.int .i64 d)
  have b2 := Boxed.new ((w.alloc (.cells #[.slice none 0 0] 34)).alloc (.cells #[.int .i64 d] 3)) 22 (.slice A l.length c)
  have b3 := Boxed.new (((w.alloc (.cells #[.slice none 0 0] 34)).alloc (.cells #[.int .i64 d] 3)).alloc (.cells #[.slice A l.length c] 22)) 3 (.int .i64 d)
  have b4 := Boxed.new ((((w.alloc (.cells #[.slice none 0 0] 34)).alloc (.cells #[.int .i64 d] 3)).alloc (.cells #[.slice A l.length c] 22)).alloc (.cells #[.int .i64 d] 3)) 3 (.int .i64 lim)
  simp only [World.size_alloc] at b1 b2 b3 b4
  have c0 := (((b0.alloc (.cells #[.int .i64 d] 3)).alloc (.cells #[.slice A l.length c] 22)).alloc (.cells #[.int .i64 d] 3)).alloc (.cells #[.int .i64 lim] 3)
  have c1 := ((b1.alloc (.cells #[.slice A l.length c] 22)).alloc (.cells #[.int .i64 d] 3)).alloc (.cells #[.int .i64 lim] 3)
  have c2 := (b2.alloc (.cells #[.int .i64 d] 3)).alloc (.cells #[.int .i64 lim] 3)
  have c3 := b3.alloc (.cells #[.int .i64 lim] 3)
  have hbw : Below w.heap.size w (((((w.alloc (.cells #[.slice none 0 0] 34)).alloc (.cells #[.int .i64 d] 3)).alloc (.cells #[.slice A l.length c] 22)).alloc (.cells #[.int .i64 d] 3)).alloc (.cells #[.int .i64 lim] 3)) :=
    (((((Below.refl _ w).alloc (Nat.le_refl _) _).alloc (by simp) _).alloc (by simp; omega) _).alloc (by simp; omega) _).alloc (by simp; omega) _
  obtain ⟨W0, hW0⟩ : ∃ W0, ((((w.alloc (.cells #[.slice none 0 0] 34)).alloc (.cells #[.int .i64 d] 3)).alloc (.cells #[.slice A l.length c] 22)).alloc (.cells #[.int .i64 d] 3)).alloc (.cells #[.int .i64 lim] 3) = W0 := ⟨_, rfl⟩
  have hsz : W0.heap.size = w.heap.size + 5 := by rw [← hW0]; simp
  rw [hW0] at c0 c1 c2 c3 b4 hbw ⊢
  clear hW0 b0 b1 b2 b3
  have hI0 : LI w l d lim ps [] (.slice none 0 0) W0 := ⟨c0, World.ownsRow_nil _ _ _ _, c1, hbw⟩
  have HI0 := keep hI0
  have HC := keep (And.intro c2 (And.intro c3 b4))
  have HBW := keep hbw
  clear hI0 c0 c1 c2 c3 b4 hbw
  go_wp2_with fail
  refine (wpIn_wide (n := 6)).1 ?_
  refine wpIn_rangeFunc_ownH (F := Fence.wide) (n := 6) rfl (by omega) (gf := 32) (lb := #[.pointer (some ⟨w.heap.size + 1 + 1, 0, none⟩), .pointer (some ⟨w.heap.size + 1 + 1 + 1, 0, none⟩), .pointer (some ⟨w.heap.size + 1 + 1 + 2, 0, none⟩)]) rfl trivial (enters_of Try.func32 (by kernel_rfl) rfl)
    (encs := frE l d lim ps) (Kp := KpF w.heap.size (w.heap.size + 1) w.heap.size) (S := fun ys => ys.map (·.1) = List.range ps.length) (Sp := fun pre => pre.map (·.1) = List.range pre.length) (N := ps.length) (w0 := W0)
    (fun lp J Jx W hW hJ _ hY h0 => linesIt_in 5 (by omega) lp (w.heap.size + 1 + 1) (w.heap.size + 1 + 1 + 1) (w.heap.size + 1 + 1 + 2) w.heap.size (w.heap.size + 1) w.heap.size l (.slice A l.length c) d lim hm hk ps HPS.out
      ⟨⟨by omega, by omega⟩, ⟨by omega, by omega⟩, ⟨by omega, by omega⟩⟩ J Jx W hJ hY (h.below (HBW.out.trans (hW.mono (by omega))) (Nat.le_refl _)) ((hW.block _ HC.out.1.lt).trans HC.out.1) ((hW.block _ HC.out.2.1.lt).trans HC.out.2.1) ((hW.block _ HC.out.2.2.lt).trans HC.out.2.2) ⟨by have := hW.size; omega, by have := hW.size; omega⟩ (by have := hW.size; omega) h0)
    (fun h k => h.trans k)
    (fun W l o o' hl h ho hw => ⟨fun k cs t fz hk _ _ _ => (World.putObj_heap_other (by rintro rfl; rw [h] at hk; cases hk; cases ho)).trans hk, belowK_b (w := w) (Nat.le_refl _) W l o o' (by omega) h ho hw⟩)
    (Below.refl _ _) (fun _ => rfl)
    (fun pre W => ∃ v, LI w l d lim ps pre v W) (fun _ _ _ => False)
    (fun s X Y row hs hg hr => by obtain ⟨v, hs⟩ := hs; exact ⟨v, hs.own hg (fun r e => ⟨by have := (hr r e).1; omega, (hr r e).2⟩)⟩) (fun _ _ _ _ _ hs _ _ => hs) ⟨_, HI0.out⟩
    (LA w l d lim ps fun px ag => #[.slice A l.length c, .int .i64 d, .int .i64 lim, undef, undef, undef, .slice none 0 0, .int .i64 0, .pointer (some ⟨w.heap.size, 0, none⟩), .pointer (some ⟨w.heap.size + 1, 0, none⟩), px, .int .i64 d, .bool false, .bool false, .int .i64 d, .slice A l.length c, .int .i64 l.length, .bool false, .bool false, undef, .int .i64 d, .slice A l.length c, .int .i64 d, .int .i64 lim,
      .func (.func 32) #[] #[.pointer (some ⟨w.heap.size + 1 + 1, 0, none⟩), .pointer (some ⟨w.heap.size + 1 + 1 + 1, 0, none⟩), .pointer (some ⟨w.heap.size + 1 + 1 + 2, 0, none⟩)], ag, undef, undef, undef, undef, undef, undef, undef, undef, undef, undef, undef])
    (fun x a' s X Y row hs hg hr => by
      obtain ⟨Bx, v, h1, h2, h3, h4, h5⟩ := hs
      exact ⟨Bx, v, h1.kept hg (cells_ne h1 (fun r e => (hr r e).2)), h2, (hg.block _ h3.lt (cells_ne h3 (fun r e => (hr r e).2))).trans h3, h4, h5⟩)
    ?assign ?body ?done ?stop
  case assign =>
    rintro lp pre x W K ⟨v, hi⟩ hK
    obtain ⟨g, q, r, s, b, -, -, hf⟩ := frV_form l d lim (ps[x.1]'x.2)
    have hz2 := hi.e.lt
    have hne : v.ownBlock ≠ some W.heap.size := fun e => by have := (hi.r.lt _ e).2; omega
    have HK := keep hK
    have HF := keep hf
    have HI := keep hi
    unfold frE
    rw [hf]
    clear hK hf hi
    gi_wp2
    exact HK.out _ _ ((KeepsOthers.alloc _ _).from _) ⟨fun k cs' t fz hk _ _ _ => (Below.heap_alloc W _ k (Array.getElem?_eq_some_iff.1 hk).1).trans hk, (Below.refl _ W).alloc (by omega) _⟩
      ⟨v, HI.out.own (World.grownBy_alloc W _ none) (fun r e => by cases e)⟩ ⟨W.heap.size, v, HI.out.b.alloc _, hne, by rw [HF.out]; exact Blk.new W _ _, by omega, by rw [HF.out]⟩
  case body =>
    rintro lp pre ⟨x, hx⟩ a' W hl ⟨rr, hrr⟩ ⟨v, hI⟩ ⟨Bx, v', hv', hne, hBx, hBx2, rfl⟩ hlt
    obtain rfl : v' = v := by
      have := (show W.heap[w.heap.size]? = _ from hv').symm.trans hI.b
      simpa using this
    dsimp only at hBx hlt ⊢
    obtain ⟨g, q, r, s, bb, hg, hq, hf⟩ := frV_form l d lim (ps[x]'hx)
    obtain ⟨p1, p2⟩ := HIN.out (ps[x]'hx) (List.getElem_mem _)
    have hgq : d + (ps[x]'hx).2 = g + q := by omega
    have hgb : (g : Int) ≤ 1000000000 := by omega
    have hqb : (q : Int) ≤ 1000000000 := by omega
    rw [hf] at hBx ⊢
    obtain ⟨i0, hi, hz0, hz1, hz3⟩ := info_parts elFramed.hi
    have hcv := hI.b.cell
    have hce := hI.e.cell
    have hfe := hI.e.frozen
    have x0 : W.cell? ⟨Bx, 0, none⟩ = some (.int .i64 (g : Int)) := by rw [hBx.cell]; rfl
    have x1 : W.cell? ⟨Bx, 1, none⟩ = some (.int .i64 (q : Int)) := by rw [hBx.cell]; rfl
    have x2 : W.cell? ⟨Bx, 2, none⟩ = some (.string s) := by rw [hBx.cell]; rfl
    have x3 : W.cell? ⟨Bx, 3, none⟩ = some (.int .i64 r) := by rw [hBx.cell]; rfl
    have x4 : W.cell? ⟨Bx, 4, none⟩ = some (.bool bb) := by rw [hBx.cell]; rfl
    have hbd1 : pre.length + 1 ≤ maxLen := by unfold maxLen; omega
    have hbd2 : (pre.length + 1) * 48 ≤ 140737488355328 := by omega
    have HBD := keep (And.intro hbd1 hbd2)
    have HI := keep hI
    have HF := keep (And.intro hf hgq)
    have HBXX := keep hBx
    have hwz : w.heap.size ≤ (W.alloc (.cells #[.int .i64 (g : Int), .int .i64 (q : Int), .string s, .int .i64 r, .bool bb] 41)).heap.size := by have := hI.m.size; simp; omega
    clear hbd1 hbd2 hI hBx hf hgq hg hq hv'
    gi_wp2_with (gi_at_builtin; refine wpListIn_append_own _ rfl _ _ 34 rfl w.heap.size 41 i0 (.agg #[.int .i64 0, .int .i64 0, .string ⟨#[]⟩, .int .i64 0, .bool false]) 5 48 Try.underlying34 hi hz0 hz1 hz3 rfl (by decide) _ _ _ rfl (HI.out.r.alloc _) ⟨W.heap.size, 0, none⟩ 1 1 [.int .i64 (g : Int), .int .i64 (q : Int), .string s, .int .i64 r, .bool bb] rfl rfl (cells_new5 W _ _ _ _ _ _) (by simp [Value.oneCell']) HBD.out.1 HBD.out.2 hwz ?_; intro v1 w1 hown' hgrow _; obtain ⟨g', cap', rfl⟩ := ownsRow_succ hown'; obtain ⟨q1, q2, q3, q4, q5⟩ := HI.out.b.appended (by decide) HI.out.r HI.out.m.size (Nat.le_refl _) hown' hgrow; have qc := q1.cell; have qf := q1.frozen; obtain ⟨y0, y1, y2, y3⟩ := LI.after HI.out HBXX.out hne hBx2 hgrow (.slice (some ⟨g', 0, none⟩) (pre.length + 1) cap'); have yc := y3.cell; have yf := y3.frozen)
    have hfin := LI.fin (x := ⟨x, hx⟩) HI.out hgrow q2 q3 q5 y3 (g + q) (show d + (ps[x]'hx).2 = g + q from HF.out.2) HF.out.1
    exact ⟨(q4.trans (KeepsOthers.setCell _ _ _)).from _, hfin.1, _, by simpa using hfin.2⟩
  case done =>
    rintro D ys W hD hAll ⟨v, hI⟩ hK
    have hyl : ys.length = ps.length := by have := congrArg List.length hAll; simpa using this
    have hrow := hI.r
    have hall : ys.flatMap (fun x => frV l d lim (ps[x.1]'x.2)) = ps.flatMap (frV l d lim) := by
      have e1 : ys.map (fun x => ps[x.1]'x.2) = ps := by
        refine List.ext_getElem (by rw [List.length_map, hyl]) (fun i h1 h2 => ?_)
        have hi : (ys[i]'(by rw [hyl]; exact h2)).1 = i := by
          have := congrArg (fun L => L[i]?) hAll
          simpa [List.getElem?_eq_getElem (show i < ys.length by rw [hyl]; exact h2), h2] using this
        rw [List.getElem_map]
        simp only [hi]
      conv => rhs; rw [← e1]
      rw [List.flatMap_map]
    have hend : endP d ps ys = endK d ps ps.length := by
      unfold endP endK
      rcases Nat.eq_zero_or_pos ps.length with h0 | h0
      · obtain rfl : ys = [] := List.eq_nil_of_length_eq_zero (by omega)
        rw [if_pos h0]; rfl
      · have hi : (ys[ps.length - 1]'(by omega)).1 = ps.length - 1 := by
          have := congrArg (fun L => L[ps.length - 1]?) hAll
          simpa [List.getElem?_eq_getElem (show ps.length - 1 < ys.length by omega), List.getElem?_range (show ps.length - 1 < ps.length by omega)] using this
        rw [if_neg (by omega), List.getLast?_eq_getElem?, hyl, List.getElem?_eq_getElem (by omega)]
        simp only [hi]
        rw [List.getD_eq_getElem?_getD, List.getElem?_eq_getElem (by omega), Option.getD_some]
    rw [hyl, hall] at hrow
    have hcb := hI.b.cell
    have hce := hI.e.cell
    rw [hend, HE.out.2] at hce
    obtain ⟨k, hkk⟩ : ∃ k, d + spEnd (l.drop d) = k := ⟨_, rfl⟩
    rw [hkk] at hce
    have HK := keep hK
    have HI := keep hI.m
    have HR := keep hrow
    have HKK := keep hkk
    clear hK hI hrow hkk hend hall hyl hAll
    go_wp2
    go_quiet (fail)
    go_wp2
    refine ⟨by simp, .inl ⟨_, _, rfl, run_takeDeferred HK.out, ?_⟩⟩
    refine ⟨.tuple #[v, .int .i64 k], by simp [results, Try.results13, go_sem], v, by rw [HE.out.1.1, HKK.out], ?_, ?_⟩
    · rw [HE.out.1.2]
      unfold frL
      rw [HE.out.1.2, Int.toNat_natCast]
      exact ownsRow_putObj HR.out _ HK.out rfl
    · exact (below_drewN HI.out _).trans (belowK_b (w := w) (Nat.le_refl _) (W.drewN nq) D _ _ (by omega) HK.out rfl rfl)
  case stop =>
    rintro D cc pre W _ _ h _
    exact h.elim
theorem frame_any (v : Value) (l : List UInt8) (off lim : Int) (w : World) (h : BSl w (lt w.heap.size) v l) (hm : l.length ≤ 1000000000) :
    Calls Try.prog 13 #[v, .int .i64 off, .int .i64 lim] w (FrameRes w l off lim) := by
  by_cases hk : frOk l off = true
  · have hk' := hk
    simp [frOk] at hk'
    obtain ⟨d, rfl⟩ := Int.eq_ofNat_of_zero_le hk'.1
    exact frame_yes v l d lim w h hm (by omega)
  · exact frame_no v l off lim w h (by simpa using hk)
end Go.Proofs.Ytimldjlegbdldaa
