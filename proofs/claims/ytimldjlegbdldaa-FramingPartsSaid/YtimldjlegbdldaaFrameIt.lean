/- The iterator of framing.lines. -/
import Derived.Test.YtimldjlegbdldaaFrameRef
import Derived.Outline
namespace Go.Proofs.Ytimldjlegbdldaa
open Go.RowKit Go.Shelf

attribute [local go_sem] Oper.semAt_some

section
variable {F : Fence} {n : Nat} {P : Program} {ops : Array Oper} {rest : List Oper} {o : Oper} {a : Act} {w : World} {Q : Exit → Act → World → Prop} {t e bytes : Nat} {z : Value}
theorem wpListIn_subB (E : Elem P t e 1 bytes z) (hg : o.guard = none) (x lo hi : Operand) (ho : o.op = .slice t x (some lo) (some hi) none) {S : Nat → Prop} {v : Value} {l : List UInt8} (i j : Nat) {I J : Int} (hx : a.eval x = v) (h : BSl w S v l)
    (hlo : a.eval lo = .int .i64 I) (hhi : a.eval hi = .int .i64 J) (hI : I = (i : Int)) (hJ : J = (j : Int)) (h1 : i ≤ j) (h2 : j ≤ l.length)
    (hK : ∀ v', BSl w S v' ((l.drop i).take (j - i)) → wpListIn F n P ops Q rest (a.put o.dst v') w) : wpListIn F n P ops Q (o :: rest) a w := by
  subst hI hJ
  refine wpListIn_plain hg fun K hK' => ?_
  obtain ⟨v', hr, hs⟩ := run_subB E h i j h1 h2
  unfold Oper.wpIn
  refine ⟨by simp [Oper.about, ho], ?_⟩
  rw [Oper.semAt_plain F _ _ (by rw [ho]; intro c hc'; cases hc')]
  unfold execOp
  simp only [ho, hx, Option.map_some, Option.map_none, hlo, hhi, run_sliceAt_slice _ _ _ _ _ _ (show P.underlying t = some (.slice (P.elem t)) by rw [elem_of E.ht]; exact E.ht), Sem.run_bind, Sem.run_pure, hr, Result.andThen_ok]
  exact hK' _ _ (hK v' hs)
theorem wpListIn_fromB (E : Elem P t e 1 bytes z) (hg : o.guard = none) (x lo : Operand) (ho : o.op = .slice t x (some lo) none none) {S : Nat → Prop} {v : Value} {l : List UInt8} (i : Nat) {I : Int} (hx : a.eval x = v) (h : BSl w S v l)
    (hlo : a.eval lo = .int .i64 I) (hI : I = (i : Int)) (h1 : i ≤ l.length) (hK : ∀ v', BSl w S v' (l.drop i) → wpListIn F n P ops Q rest (a.put o.dst v') w) : wpListIn F n P ops Q (o :: rest) a w := by
  subst hI
  refine wpListIn_plain hg fun K hK' => ?_
  obtain ⟨v', hr, hs⟩ := run_fromB E h i h1
  unfold Oper.wpIn
  refine ⟨by simp [Oper.about, ho], ?_⟩
  rw [Oper.semAt_plain F _ _ (by rw [ho]; intro c hc'; cases hc')]
  unfold execOp
  simp only [ho, hx, Option.map_some, Option.map_none, hlo, run_sliceAt_slice _ _ _ _ _ _ (show P.underlying t = some (.slice (P.elem t)) by rw [elem_of E.ht]; exact E.ht), Sem.run_bind, Sem.run_pure, hr, Result.andThen_ok]
  exact hK' _ _ (hK v' hs)
end

/-- What a round must keep: all cells but the caller's two boxes and rows of framed lines; whatever lay below n₀. -/
structure KpF (bo be n₀ : Nat) (W W' : World) : Prop where
  c : ∀ k cs t fz, W.heap[k]? = some (.cells cs t fz) → t ≠ 41 → k ≠ bo → k ≠ be → W'.heap[k]? = some (.cells cs t fz)
  b : Below n₀ W W'
theorem KpF.refl (bo be n₀ : Nat) (W : World) : KpF bo be n₀ W W := ⟨fun _ _ _ _ h _ _ _ => h, Below.refl _ _⟩
theorem KpF.trans {bo be n₀ : Nat} {X Y Z : World} (h : KpF bo be n₀ X Y) (k : KpF bo be n₀ Y Z) : KpF bo be n₀ X Z :=
  ⟨fun i cs t fz hi ht h1 h2 => k.c i cs t fz (h.c i cs t fz hi ht h1 h2) ht h1 h2, h.b.trans k.b⟩
theorem KpF.boxed {bo be n₀ k t : Nat} {W W' : World} {u : Value} (h : KpF bo be n₀ W W') (hk : Boxed W k t u) (ht : t ≠ 41) (h1 : k ≠ bo) (h2 : k ≠ be) : Boxed W' k t u := h.c k _ t _ hk ht h1 h2
theorem own_same {w w' : World} {B e size n : Nat} {v : Value} {xs : List Value} (h : w.ownsRow B e size v n xs) (hk : ∀ i cs, w.heap[i]? = some (.cells cs e (0, 0)) → v.ownBlock = some i → w'.heap[i]? = some (.cells cs e (0, 0))) : w'.ownsRow B e size v n xs :=
  ⟨h.1, h.2.imp id (fun ⟨g, cap, cur, hv, hb, hg, r⟩ => ⟨g, cap, cur, hv, hb, hk g cur hg (by rw [hv]; rfl), r⟩)⟩
theorem KpF.row {bo be n₀ B size n : Nat} {W W' : World} {v : Value} {xs : List Value} (h : KpF bo be n₀ W W') (hr : W.ownsRow B 56 size v n xs) (h1 : v.ownBlock ≠ some bo) (h2 : v.ownBlock ≠ some be) : W'.ownsRow B 56 size v n xs :=
  own_same hr (fun i cs hi hv => h.c i cs _ _ hi (by decide) (fun e => h1 (e ▸ hv)) (fun e => h2 (e ▸ hv)))
/-- The value that the iterator hands over. -/
def frE (l : List UInt8) (d : Nat) (lim : Int) (ps : List (Nat × Nat)) (x : PlAt ps.length) : Array Value := #[.agg (frV l d lim (ps[x.1]'x.2)).toArray]

set_option maxRecDepth 100000 in
set_option maxHeartbeats 4000000 in
theorem linesIt_in (n : Nat) (hn : 1 ≤ n) (lp Bd Bf Bl bo be n₀ : Nat) (l : List UInt8) (vl : Value) (d : Nat) (lim : Int) (hm : l.length ≤ 1000000000) (hk : d ≤ l.length) (ps : List (Nat × Nat)) (hps : spans (l.drop d) = ps)
    (hne : (Bd ≠ bo ∧ Bd ≠ be) ∧ (Bf ≠ bo ∧ Bf ≠ be) ∧ (Bl ≠ bo ∧ Bl ≠ be)) (J Jx : List (PlAt ps.length) → World → Prop)
    (W : World) (hJ : AbidesFrom W.heap.size J)
    (hY : ∀ pre (x : PlAt ps.length) X, J pre X → pre.length < ps.length → YieldAt Fence.wide (n - 1) Try.prog lp (frE l d lim ps x) X fun e X' =>
      (e = .returned (.bool true) ∧ J (pre ++ [x]) X' ∧ KpF bo be n₀ X X') ∨ (e = .returned (.bool false) ∧ Jx (pre ++ [x]) X'))
    (hS : BSl W (lt n₀) vl l) (hB1 : Boxed W Bd 22 vl) (hB2 : Boxed W Bf 3 (.int .i64 d)) (hB3 : Boxed W Bl 3 (.int .i64 lim)) (hlo : bo < W.heap.size ∧ be < W.heap.size) (hn0 : n₀ ≤ W.heap.size) (h0 : J [] W) :
    CallsIn Fence.wide n Try.prog 32 #[.func (.yield lp) #[] #[], .pointer (some ⟨Bd, 0, none⟩), .pointer (some ⟨Bf, 0, none⟩), .pointer (some ⟨Bl, 0, none⟩)] W fun e W' => (∃ v, e = .returned v) ∧
      ((∃ ys : List (PlAt ps.length), ys.map (·.1) = List.range ps.length ∧ J ys W') ∨ (∃ pre : List (PlAt ps.length), pre.map (·.1) = List.range pre.length ∧ Jx pre W')) := by
  refine callsIn_of_wp Try.func32 rfl trivial ?_ rfl
  simp only [Try.ntmps32, List.size_toArray, List.length_cons, List.length_nil, Nat.reduceAdd, Nat.reduceSub, Array.replicate_succ, Array.replicate_zero, List.push_toArray, List.append_toArray, List.nil_append, List.cons_append]
  have hpsl : ps.length ≤ 1000000000 := by rw [← hps]; have := spans_len (l.drop d); rw [List.length_drop] at this; omega
  have HPS := keep hps
  have c1 := hB1.cell
  have c2 := hB2.cell
  clear hps
  gi_wp2_with (refine wpListIn_fromB elB rfl _ _ rfl d rfl hS rfl rfl hk ?_; intro v1 h1)
  refine ⟨trivial, ?_⟩
  refine (callsIn_wide.2 (lines_any _ _ _ (h1.up hn0) (by rw [List.length_drop]; omega))).mono ?_
  rintro e w1 ⟨vS, rfl, hSp, hb1⟩
  rw [HPS.out] at hSp
  obtain ⟨AS, cS, rfl, _, _⟩ := (Sl.of_own hSp).form
  have hbx : ∀ {k t : Nat} {u : Value}, Boxed W k t u → Boxed w1 k t u := fun {k t u} h => (hb1.block k h.lt).trans h
  have hJ1 : J [] w1 := hJ _ _ _ none h0 (grownBy_of_below hb1 none) (fun r e => by cases e)
  have hB1' := hbx hB1
  have hB2' := hbx hB2
  have hB3' := hbx hB3
  have HS := keep hS
  have HHJ := keep hJ
  have HHY := keep hY
  clear h1 c1 c2 hB1 hB2 hB3 hbx h0 hJ hY hS
  gi_wp2
  gi_loopw [6, 7, 13] (fun _ _ i wr => ∃ (k : Nat) (pre : List (PlAt ps.length)), i = .int .i64 k ∧ Hid (pre.length = k ∧ k ≤ ps.length ∧ pre.map (·.1) = List.range k) ∧ J pre wr ∧ Boxed wr Bd 22 vl ∧ Boxed wr Bf 3 (.int .i64 d) ∧ Boxed wr Bl 3 (.int .i64 lim) ∧
      wr.ownsRow W.heap.size 56 2 (.slice AS ps.length cS) ps.length (ps.flatMap spV) ∧ Below n₀ W wr ∧ Hid (W.heap.size ≤ wr.heap.size))
    (fun _ _ i _ => ps.length - (intOf i).toNat)
  case atStart => exact ⟨0, [], rfl, keep ⟨rfl, Nat.zero_le _, rfl⟩, hJ1, hB1', hB2', hB3', hSp, hb1.mono hn0, keep hb1.size⟩
  case round =>
    clear hSp hJ1 hB1' hB2' hB3' hb1
    obtain ⟨k, pre, rfl, hpre, hJr, hB1, hB2, hB3, hSp, hb, hzw⟩ := hrel
    by_cases hlt : k < ps.length
    · obtain ⟨b, o, rfl, hbb, e0, e1⟩ := sp_cells (Sl.of_own hSp) hlt
      obtain ⟨p, hp⟩ : ∃ p, ps[k] = p := ⟨_, rfl⟩
      have hpin := span_in hk (p := p) (by rw [HPS.out, ← hp]; exact List.getElem_mem _)
      rw [hp] at e0 e1
      have HP := keep hp
      clear hp
      have a0 : (0 : Int) ≤ (k : Int) := by omega
      have a1 : (k : Int) < (ps.length : Int) := by omega
      obtain ⟨f, t⟩ := p
      dsimp only at e0 e1 hpin
      obtain ⟨p1, p2⟩ := hpin
      obtain ⟨g, hg⟩ : ∃ g, d + f = g := ⟨_, rfl⟩
      obtain ⟨q, hq⟩ : ∃ q, t - f = q := ⟨_, rfl⟩
      have hw1 : (d : Int) + (f : Int) = (g : Int) := by omega
      have hw2 : (t : Int) - (f : Int) = (q : Int) := by omega
      have hdb : (d : Int) ≤ 1000000000 := by omega
      have hfb : (f : Int) ≤ 1000000000 := by omega
      have htb : (t : Int) ≤ 1000000000 := by omega
      have HG := keep (And.intro hg hq)
      have c1a := fun o o' => ((hB1.alloc o).alloc o').cell
      have c2a := fun o => (hB2.alloc o).cell
      have c3a := fun o o' => ((hB3.alloc o).alloc o').cell
      clear hg hq
      have HJR := keep hJr
      clear hJr
      have HPN : Hid ((pre ++ [(⟨k, hlt⟩ : PlAt ps.length)]).length = k + 1 ∧ k + 1 ≤ ps.length ∧ (pre ++ [(⟨k, hlt⟩ : PlAt ps.length)]).map (·.1) = List.range (k + 1)) := keep ⟨by rw [List.length_append, hpre.out.1]; rfl, hlt, by
        rw [List.map_append, List.map_singleton, hpre.out.2.2, List.range_succ]⟩
      have HNB : Hid ((Value.slice (some ⟨b, o, none⟩) ps.length cS).ownBlock ≠ some bo ∧ (Value.slice (some ⟨b, o, none⟩) ps.length cS).ownBlock ≠ some be) := keep ⟨fun e => by have := (hSp.lt _ e).1; omega, fun e => by have := (hSp.lt _ e).1; omega⟩
      have hpl : pre.length < ps.length := by rw [hpre.out.1]; exact hlt
      have HPL := keep hpl
      clear hpl
      have HZ := keep hzw.out
      by_cases hlim : lim < (q : Int)
      · have HV : frE l d lim ps ⟨k, hlt⟩ = #[.agg #[.int .i64 (g : Int), .int .i64 (q : Int), .string ⟨#[]⟩, .int .i64 0, .bool true]] := by
          unfold frE frV
          dsimp only
          rw [HP.out]
          dsimp only
          rw [HG.out.1, HG.out.2, if_pos hlim]
        have hbA : Below wr.heap.size wr ((wr.alloc (.cells #[.int .i64 (f : Int), .int .i64 (t : Int)] 56)).alloc (.cells #[.int .i64 (g : Int), .int .i64 (q : Int), .string ⟨#[]⟩, .int .i64 0, .bool true] 41)) := ((Below.refl _ wr).alloc (Nat.le_refl _) _).alloc (by simp) _
        have hJA := HHJ.out _ _ _ none HJR.out (grownBy_of_below hbA none) (fun r e => by cases e)
        obtain ⟨fn, tmps, assign, body, hy, hR⟩ := HHY.out pre ⟨k, hlt⟩ _ hJA HPL.out
        rw [HV] at hy
        have HBN := keep (hb.trans (hbA.mono (Nat.le_trans hn0 HZ.out)))
        have HZN := keep (Nat.le_trans HZ.out hbA.size)
        have hSpA := (hSp.alloc (.cells #[.int .i64 (f : Int), .int .i64 (t : Int)] 56)).alloc (.cells #[.int .i64 (g : Int), .int .i64 (q : Int), .string ⟨#[]⟩, .int .i64 0, .bool true] 41)
        have HSA := keep hSpA
        have HBX := keep (And.intro hB1 (And.intro hB2 hB3))
        clear HV hbA hJA hSpA hSp hB1 hB2 hB3 hb
        gi_wp2
        refine hR.mono ?_
        rintro e W4 (⟨rfl, hJ4, hk4⟩ | ⟨rfl, hJx4⟩)
        · have hB1n := (hk4.boxed ((HBX.out.1.alloc _).alloc _) (by decide) hne.1.1 hne.1.2)
          have hB2n := (hk4.boxed ((HBX.out.2.1.alloc _).alloc _) (by decide) hne.2.1.1 hne.2.1.2)
          have hB3n := (hk4.boxed ((HBX.out.2.2.alloc _).alloc _) (by decide) hne.2.2.1 hne.2.2.2)
          have hSpn := hk4.row HSA.out HNB.out.1 HNB.out.2
          have hbn := HBN.out.trans hk4.b
          have HJ4 := keep hJ4
          have HN := keep (And.intro hB1n (And.intro hB2n (And.intro hB3n (And.intro hSpn hbn))))
          have hz4 : W.heap.size ≤ W4.heap.size := Nat.le_trans HZN.out hk4.b.size
          clear hB1n hB2n hB3n hSpn hbn hJ4 hk4
          gi_wp2
          go_roundw
          case rel => exact ⟨k + 1, pre ++ [⟨k, hlt⟩], by go_num, HPN, HJ4.out, HN.out.1, HN.out.2.1, HN.out.2.2.1, HN.out.2.2.2.1, HN.out.2.2.2.2, keep hz4⟩
          case measure => simp [intOf]; omega
        · gi_wp2
          refine bodyPost_ret (results_none rfl _ _ _) rfl ?_
          exact ⟨⟨_, rfl⟩, .inr ⟨pre ++ [⟨k, hlt⟩], by rw [HPN.out.1]; exact HPN.out.2.2, hJx4⟩⟩
      · obtain ⟨sg, hsgd⟩ : ∃ sg, (l.drop g).take (g + q - g) = sg := ⟨_, rfl⟩
        have hsg : sg.length ≤ 1000000000 := by rw [← hsgd, List.length_take, List.length_drop]; omega
        obtain ⟨r1, hr1⟩ : ∃ r1, (rep (stripB sg)).1 = r1 := ⟨_, rfl⟩
        obtain ⟨r2, hr2⟩ : ∃ r2, (rep (stripB sg)).2 = r2 := ⟨_, rfl⟩
        have HV : frE l d lim ps ⟨k, hlt⟩ = #[.agg #[.int .i64 (g : Int), .int .i64 (q : Int), .string ⟨r1.toArray⟩, .int .i64 r2, .bool false]] := by
          have e : segB l d (f, t) = sg := by
            unfold segB
            dsimp only
            rw [HG.out.1, HG.out.2, ← hsgd, Nat.add_sub_cancel_left]
          unfold frE frV
          dsimp only
          rw [HP.out, e]
          dsimp only
          rw [HG.out.1, HG.out.2, if_neg hlim, hr1, hr2]
        have HV := keep HV
        have HR := keep (And.intro hr1 hr2)
        have HSG := keep hsgd
        have hbA : Below wr.heap.size wr ((wr.alloc (.cells #[.int .i64 (f : Int), .int .i64 (t : Int)] 56)).alloc (.cells #[.int .i64 (g : Int), .int .i64 (q : Int), .string ⟨#[]⟩, .int .i64 0, .bool false] 41)) := ((Below.refl _ wr).alloc (Nat.le_refl _) _).alloc (by simp) _
        have hxA : Blk ((wr.alloc (.cells #[.int .i64 (f : Int), .int .i64 (t : Int)] 56)).alloc (.cells #[.int .i64 (g : Int), .int .i64 (q : Int), .string ⟨#[]⟩, .int .i64 0, .bool false] 41)) (wr.heap.size + 1) 41 #[.int .i64 (g : Int), .int .i64 (q : Int), .string ⟨#[]⟩, .int .i64 0, .bool false] := by
          have := Blk.new (wr.alloc (.cells #[.int .i64 (f : Int), .int .i64 (t : Int)] 56)) 41 #[.int .i64 (g : Int), .int .i64 (q : Int), .string ⟨#[]⟩, .int .i64 0, .bool false]
          rwa [World.size_alloc] at this
        have hgb : g + q ≤ l.length := by have := HG.out; omega
        have hSA : BSl ((wr.alloc (.cells #[.int .i64 (f : Int), .int .i64 (t : Int)] 56)).alloc (.cells #[.int .i64 (g : Int), .int .i64 (q : Int), .string ⟨#[]⟩, .int .i64 0, .bool false] 41)) (lt n₀) vl l := HS.out.below (hb.trans (hbA.mono (Nat.le_trans hn0 HZ.out))) (Nat.le_refl _)
        obtain ⟨WA, hWA⟩ : ∃ WA, (wr.alloc (.cells #[.int .i64 (f : Int), .int .i64 (t : Int)] 56)).alloc (.cells #[.int .i64 (g : Int), .int .i64 (q : Int), .string ⟨#[]⟩, .int .i64 0, .bool false] 41) = WA := ⟨_, rfl⟩
        have c3b := c3a (.cells #[.int .i64 (f : Int), .int .i64 (t : Int)] 56) (.cells #[.int .i64 (g : Int), .int .i64 (q : Int), .string ⟨#[]⟩, .int .i64 0, .bool false] 41)
        have c1b := c1a (.cells #[.int .i64 (f : Int), .int .i64 (t : Int)] 56) (.cells #[.int .i64 (g : Int), .int .i64 (q : Int), .string ⟨#[]⟩, .int .i64 0, .bool false] 41)
        have hSA' := hSA
        rw [hWA] at hbA hxA hSA'
        have HWA := keep hWA
        have x0 : WA.cell? ⟨wr.heap.size + 1, 0, none⟩ = some (.int .i64 (g : Int)) := by rw [hxA.cell]; rfl
        have x1 : WA.cell? ⟨wr.heap.size + 1, 1, none⟩ = some (.int .i64 (q : Int)) := by rw [hxA.cell]; rfl
        have hzA : n₀ ≤ WA.heap.size := Nat.le_trans hn0 (Nat.le_trans HZ.out hbA.size)
        have hSp2 := hSp.kept (grownBy_of_below hbA none) (.inr (by simp [Value.ownBlock]))
        have hBX := And.intro ((hbA.block _ hB1.lt).trans hB1) (And.intro ((hbA.block _ hB2.lt).trans hB2) ((hbA.block _ hB3.lt).trans hB3))
        have HBX := keep hBX
        have hB1l := hB1.lt
        have hB2l := hB2.lt
        have hB3l := hB3.lt
        have HSA := keep hSp2
        have HB := keep hb
        have HBA := keep hbA
        have HXA := keep hxA
        clear hSp hB1 hB2 hB3 hb hsgd hr1 hr2 hSp2 hBX hbA hxA hWA x0 x1 hSA'
        gi_wp2_with (refine wpListIn_subB elB rfl _ _ _ rfl g (g + q) rfl hSA rfl rfl rfl (by omega) (by omega) hgb ?_; intro v8 hs8; rw [HSG.out] at hs8)
        refine ⟨trivial, ?_⟩
        refine (callsIn_wide.2 (text_any _ _ _ (hs8.up (by rw [HWA.out]; exact hzA)) hsg)).mono ?_
        rintro e w5 ⟨rfl, hb5⟩
        rw [HR.out.1, HR.out.2]
        rw [HWA.out] at hb5
        have hgx : wr.heap.size + 1 < WA.heap.size := HXA.out.lt
        have hx5 := HXA.out.below hb5 hgx
        have q2 : w5.cell? ⟨wr.heap.size + 1, 2, none⟩ = some (.string ⟨#[]⟩) := by rw [hx5.cell]; rfl
        have q3 : w5.cell? ⟨wr.heap.size + 1, 3, none⟩ = some (.int .i64 0) := by rw [hx5.cell]; rfl
        have f2 := hx5.frozen 2
        have f3 := hx5.frozen 3
        have hx3 : Blk ((w5.setCell ⟨wr.heap.size + 1, 2, none⟩ (.string ⟨r1.toArray⟩)).setCell ⟨wr.heap.size + 1, 3, none⟩ (.int .i64 r2)) (wr.heap.size + 1) 41 #[.int .i64 (g : Int), .int .i64 (q : Int), .string ⟨r1.toArray⟩, .int .i64 r2, .bool false] := by simpa using (hx5.set_ 2 (.string ⟨r1.toArray⟩)).set_ 3 (.int .i64 r2)
        have hb3 : Below wr.heap.size wr ((w5.setCell ⟨wr.heap.size + 1, 2, none⟩ (.string ⟨r1.toArray⟩)).setCell ⟨wr.heap.size + 1, 3, none⟩ (.int .i64 r2)) := ((HBA.out.trans (hb5.mono HBA.out.size)).setCell (p := ⟨wr.heap.size + 1, 2, none⟩) (Nat.le_succ _) _).setCell (p := ⟨wr.heap.size + 1, 3, none⟩) (Nat.le_succ _) _
        have hb5' : Below WA.heap.size WA ((w5.setCell ⟨wr.heap.size + 1, 2, none⟩ (.string ⟨r1.toArray⟩)).setCell ⟨wr.heap.size + 1, 3, none⟩ (.int .i64 r2)) → True := fun _ => trivial
        clear hb5'
        obtain ⟨W3, hW3⟩ : ∃ W3, (w5.setCell ⟨wr.heap.size + 1, 2, none⟩ (.string ⟨r1.toArray⟩)).setCell ⟨wr.heap.size + 1, 3, none⟩ (.int .i64 r2) = W3 := ⟨_, rfl⟩
        have keepB : ∀ {j u : Nat} {v : Value}, Boxed WA j u v → j ≠ wr.heap.size + 1 → Boxed W3 j u v := fun {j u v} hj hne => by
          rw [← hW3]
          exact (Below.heap_setCell _ ⟨wr.heap.size + 1, 3, none⟩ _ j (by simpa using hne)).trans ((Below.heap_setCell _ ⟨wr.heap.size + 1, 2, none⟩ _ j (by simpa using hne)).trans ((hb5.block j hj.lt).trans hj))
        have hSp3 : W3.ownsRow W.heap.size 56 2 (.slice (some ⟨b, o, none⟩) ps.length cS) ps.length (ps.flatMap spV) := own_same HSA.out (fun i cs hi hv => by
          have hne : i ≠ wr.heap.size + 1 := by
            intro e
            rw [e, show WA.heap[wr.heap.size + 1]? = _ from HXA.out] at hi
            injection hi with hi
            injection hi with _ h2 _
            exact absurd h2 (by decide)
          rw [← hW3]
          exact (Below.heap_setCell _ ⟨wr.heap.size + 1, 3, none⟩ _ i (by simpa using hne)).trans ((Below.heap_setCell _ ⟨wr.heap.size + 1, 2, none⟩ _ i (by simpa using hne)).trans ((hb5.block i (Array.getElem?_eq_some_iff.1 hi).1).trans hi)))
        rw [hW3] at hx3 hb3
        have y0 : W3.cell? ⟨wr.heap.size + 1, 0, none⟩ = some (.int .i64 (g : Int)) := by rw [hx3.cell]; rfl
        have y1 : W3.cell? ⟨wr.heap.size + 1, 1, none⟩ = some (.int .i64 (q : Int)) := by rw [hx3.cell]; rfl
        have y2 : W3.cell? ⟨wr.heap.size + 1, 2, none⟩ = some (.string ⟨r1.toArray⟩) := by rw [hx3.cell]; rfl
        have y3 : W3.cell? ⟨wr.heap.size + 1, 3, none⟩ = some (.int .i64 r2) := by rw [hx3.cell]; rfl
        have y4 : W3.cell? ⟨wr.heap.size + 1, 4, none⟩ = some (.bool false) := by rw [hx3.cell]; rfl
        have hJA := HHJ.out _ _ _ none HJR.out (grownBy_of_below hb3 none) (fun r e => by cases e)
        obtain ⟨fn, tmps, assign, body, hy, hR⟩ := HHY.out pre ⟨k, hlt⟩ _ hJA HPL.out
        rw [HV.out] at hy
        have HBX3 := keep (And.intro (keepB HBX.out.1 (by have := hB1l; omega)) (And.intro (keepB HBX.out.2.1 (by have := hB2l; omega)) (keepB HBX.out.2.2 (by have := hB3l; omega))))
        have HBN := keep (HB.out.trans (hb3.mono (Nat.le_trans hn0 HZ.out)))
        have HZN := keep (Nat.le_trans HZ.out hb3.size)
        have HSP3 := keep hSp3
        clear hx3 hb3 hJA hSp3 keepB hx5 hSA hb5 c3b c1b
        gi_wp2
        refine hR.mono ?_
        rintro e W4 (⟨rfl, hJ4, hk4⟩ | ⟨rfl, hJx4⟩)
        · have hB1n := (hk4.boxed HBX3.out.1 (by decide) hne.1.1 hne.1.2)
          have hB2n := (hk4.boxed HBX3.out.2.1 (by decide) hne.2.1.1 hne.2.1.2)
          have hB3n := (hk4.boxed HBX3.out.2.2 (by decide) hne.2.2.1 hne.2.2.2)
          have hSpn := hk4.row HSP3.out HNB.out.1 HNB.out.2
          have hbn := HBN.out.trans hk4.b
          have HJ4 := keep hJ4
          have HN := keep (And.intro hB1n (And.intro hB2n (And.intro hB3n (And.intro hSpn hbn))))
          have hz4 : W.heap.size ≤ W4.heap.size := Nat.le_trans HZN.out hk4.b.size
          clear hB1n hB2n hB3n hSpn hbn hJ4 hk4
          gi_wp2
          go_roundw
          case rel => exact ⟨k + 1, pre ++ [⟨k, hlt⟩], by go_num, HPN, HJ4.out, HN.out.1, HN.out.2.1, HN.out.2.2.1, HN.out.2.2.2.1, HN.out.2.2.2.2, keep hz4⟩
          case measure => simp [intOf]; omega
        · gi_wp2
          refine bodyPost_ret (results_none rfl _ _ _) rfl ?_
          exact ⟨⟨_, rfl⟩, .inr ⟨pre ++ [⟨k, hlt⟩], by rw [HPN.out.1]; exact HPN.out.2.2, hJx4⟩⟩
    · obtain rfl : k = ps.length := by have := hpre.out; omega
      gi_wp2
      go_end0
      exact ⟨⟨_, rfl⟩, .inl ⟨pre, hpre.out.2.2, hJr⟩⟩
end Go.Proofs.Ytimldjlegbdldaa
