/- FingerprintNumbers: the walk of the statement. -/
import Derived.Test.YtgegmefnbkcdkaaLawPremise
import Derived.Test.YtgegmefnbkcdkaaKeep
namespace Go.Proofs.Ytgegmefnbkcdkaa
open Go.RowKit

theorem el26 : Elem Try.prog 26 22 1 24 (.slice none 0 0) := ⟨Try.underlying26, by kernel_rfl, rfl, by decide⟩

theorem bsl_of_ints {w : World} {S : Nat → Prop} {v : Value} {bs : List Int} (h : Sl w S 1 v bs.length (bs.map (.int .u8))) (hr : ∀ x ∈ bs, 0 ≤ x ∧ x ≤ 255) : ∃ l : List UInt8, l.length = bs.length ∧ BSl w S v l := by
  refine ⟨bs.map fun x => UInt8.ofNat x.toNat, by simp, ?_⟩
  have e : (bs.map fun x => UInt8.ofNat x.toNat).map ub = bs.map (.int .u8) := by
    rw [List.map_map]
    exact List.map_congr_left fun x hx => ub_ofNat x (hr x hx).1 (hr x hx).2
  unfold BSl
  rw [e, List.length_map]
  exact h

/-- A slice of slices of bytes of the call's own. -/
def OwnVs (w : World) (base : Nat) (v : Value) (vs : List Value) (L : List (List UInt8)) : Prop := vs.length = L.length ∧ w.ownsRow base 22 1 v L.length vs ∧ ∀ (i : Nat) (u : Value) (l : List UInt8), vs[i]? = some u → L[i]? = some l → OwnB w base u l
theorem own_ne {w : World} {base base' n : Nat} {u v : Value} {l : List UInt8} {xs : List Value} (hu : OwnB w base u l) (hv : w.ownsRow base' 22 1 v n xs) : u.ownBlock = none ∨ u.ownBlock ≠ v.ownBlock := by
  rcases hu with ⟨rfl, _⟩ | ⟨g, cap, cur, fz, rfl, hb, hg, _⟩
  · exact .inl rfl
  · right
    intro he
    rcases hv.2 with ⟨rfl, _⟩ | ⟨g', cap', cur', rfl, hb', hg', _⟩
    · cases he
    · have : g = g' := by simpa [Value.ownBlock] using he
      subst this
      rw [hg] at hg'
      injection hg' with hg'
      injection hg' with _ ht
      exact absurd ht (by decide)
theorem OwnVs.nil (w : World) (base : Nat) : OwnVs w base (.slice none 0 0) [] [] := ⟨rfl, World.ownsRow_nil _ _ _ _, fun i u l h => by simp at h⟩
theorem OwnVs.grown {w w' : World} {base g : Nat} {v : Value} {vs : List Value} {L : List (List UInt8)} (h : OwnVs w base v vs L) (hg : w.grownBy w' (some g)) (hgb : g < base) : OwnVs w' base v vs L :=
  ⟨h.1, own_grown h.2.1 hg hgb, fun i u l hu hl => (h.2.2 i u l hu hl).grown hg hgb⟩
theorem OwnVs.alloc {w : World} {base : Nat} {v : Value} {vs : List Value} {L : List (List UInt8)} (h : OwnVs w base v vs L) (o : Obj) : OwnVs (w.alloc o) base v vs L :=
  ⟨h.1, h.2.1.alloc o, fun i u l hu hl => (h.2.2 i u l hu hl).alloc o⟩
theorem OwnVs.drew {w : World} {base : Nat} {v : Value} {vs : List Value} {L : List (List UInt8)} (h : OwnVs w base v vs L) : OwnVs w.drew base v vs L :=
  ⟨h.1, h.2.1.drew, fun i u l hu hl => (h.2.2 i u l hu hl).drew⟩
/-- The old slices behind an append onto the row. -/
theorem OwnVs.after {w w' : World} {base : Nat} {v : Value} {vs : List Value} {L : List (List UInt8)} (h : OwnVs w base v vs L) (hg : w.grownBy w' v.ownBlock) (hr : w'.ownsRow base 22 1 v L.length vs) : OwnVs w' base v vs L :=
  ⟨h.1, hr, fun i u l hu hl => (h.2.2 i u l hu hl).kept hg (own_ne (h.2.2 i u l hu hl) h.2.1)⟩
theorem snoc_at {α : Type} {xs : List α} {x u : α} {i : Nat} (h : (xs ++ [x])[i]? = some u) : (i < xs.length ∧ xs[i]? = some u) ∨ (i = xs.length ∧ u = x) := by
  by_cases hi : i < xs.length
  · rw [List.getElem?_append_left hi] at h
    exact .inl ⟨hi, h⟩
  · have hl := (List.getElem?_eq_some_iff.1 h).1
    simp at hl
    have : i = xs.length := by omega
    subst this
    simp at h
    exact .inr ⟨rfl, h.symm⟩
/-- One slice more. -/
theorem OwnVs.push {w w' : World} {base : Nat} {v v' u : Value} {vs : List Value} {L : List (List UInt8)} {l : List UInt8} (h : OwnVs w base v vs L) (hu : OwnB w base u l) (hg : w.grownBy w' v.ownBlock) (hr : w'.ownsRow base 22 1 v' (L.length + 1) (vs ++ [u])) :
    OwnVs w' base v' (vs ++ [u]) (L ++ [l]) := by
  refine ⟨by simp [h.1], by simpa using hr, fun i x y hx hy => ?_⟩
  rcases snoc_at hx with ⟨hi, hx⟩ | ⟨hi, rfl⟩ <;> rcases snoc_at hy with ⟨hj, hy⟩ | ⟨hj, rfl⟩
  · exact (h.2.2 i x y hx hy).kept hg (own_ne (h.2.2 i x y hx hy) h.2.1)
  · have := h.1; omega
  · have := h.1; omega
  · exact hu.kept hg (own_ne hu h.2.1)
theorem OwnVs.sl {w : World} {base : Nat} {v : Value} {vs : List Value} {L : List (List UInt8)} (h : OwnVs w base v vs L) : BBs w (lt w.heap.size) v L :=
  ⟨vs, h.1, Sl.of_own h.2.1, fun i hi => (h.2.2 i _ _ (List.getElem?_eq_getElem (by have := h.1; omega)) (List.getElem?_eq_getElem hi)).slt⟩
theorem OwnVs.slPush {w : World} {base : Nat} {v v' u : Value} {vs : List Value} {L : List (List UInt8)} {l : List UInt8} (h : OwnVs w base v vs L) (hu : BSl w (lt w.heap.size) u l) (hr : w.ownsRow base 22 1 v' (L.length + 1) (vs ++ [u])) : BBs w (lt w.heap.size) v' (L ++ [l]) := by
  refine ⟨vs ++ [u], by simp [h.1], by simpa using Sl.of_own hr, fun i hi => ?_⟩
  have hvl := h.1
  by_cases hi' : i < L.length
  · rw [List.getElem_append_left (by omega), List.getElem_append_left hi']
    exact (h.2.2 i _ _ (List.getElem?_eq_getElem (by omega)) (List.getElem?_eq_getElem hi')).slt
  · have hiL : i = L.length := by simp at hi; omega
    subst hiL
    rw [List.getElem_append_right (by omega), List.getElem_append_right (by omega)]
    simpa [hvl] using hu

theorem l0_any (v : Value) (L : List (List UInt8)) (w : World) (S : Nat → Prop) (h : BBs w S v L) (hm : L.length ≤ 1000) :
    Calls Try.prog 15 #[v] w fun e w' => ∃ v0, e = .returned v0 ∧ BSl w' S v0 (L.headD []) ∧ w = w' := by
  obtain ⟨A, c, rfl, hc, h⟩ := h.form
  by_cases h0 : L.length = 0
  · have hL : L = [] := List.eq_nil_of_length_eq_zero h0
    subst hL
    go_enter Try.func15, Try.ntmps15
    go_wp2
    go_ret
    exact ⟨_, rfl, Sl.nil _ _ _ _ _, rfl⟩
  · obtain ⟨b, o, u, rfl, hb, hcell, hu⟩ := h.at_ (k := 0) (by omega)
    have d : ((L.length : Int) == 0) = false := beq_eq_false_iff_ne.2 (by omega)
    simp only [Nat.add_zero] at hcell
    have i0 : (0 : Int) < (L.length : Int) := by omega
    have i1 : 0 < L.length := by omega
    have hh : L.headD [] = L[0] := by cases L <;> simp_all
    rw [hh]
    go_enter Try.func15, Try.ntmps15
    go_wp2
    go_ret
    exact ⟨_, rfl, hu, rfl⟩

/-- What is kept over the statement that appends a part of the first content. -/
def PkN (w2 : World) (gc : Nat) (v : Value) (vs : List Value) (L : List (List UInt8)) (w' : World) : Prop := OwnVs w' w2.heap.size v vs L ∧ Codes w' gc ∧ w2.grownBy w' (some gc)
abbrev SN (w2 : World) (gc g n cap : Nat) (u : Value) (vs : List Value) (L : List (List UInt8)) (w' : World) : Prop := w'.cell? ⟨g, 0, none⟩ = some u ∧ PkN w2 gc (.slice (some ⟨g, 0, none⟩) n cap) (u :: vs) L w'
section
variable {w2 w w' : World} {gc g n cap : Nat} {u : Value} {vs : List Value} {L : List (List UInt8)}
theorem SN.mk_ (h : PkN w2 gc (.slice (some ⟨g, 0, none⟩) n cap) (u :: vs) L w') : SN w2 gc g n cap u vs L w' := by
  refine ⟨?_, h⟩
  have := h.1.2.1.cells (g := g) rfl 0 u rfl
  rw [Addr.add_lit] at this
  exact this
theorem SN.codes (h : SN w2 gc g n cap u vs L w) : Codes w gc := h.2.2.1
theorem SN.row (h : SN w2 gc g n cap u vs L w) (hn : L.length = n) : w.ownsRow w2.heap.size 22 1 (.slice (some ⟨g, 0, none⟩) n cap) n (u :: vs) := by subst hn; exact h.2.1.2.1
theorem SN.size (h : SN w2 gc g n cap u vs L w) : w2.heap.size ≤ w.heap.size := h.2.2.2.size
theorem SN.start (h : PkN w2 gc (.slice (some ⟨g, 0, none⟩) n cap) (u :: vs) L w) : SN w2 gc g n cap u vs L w.drew := SN.mk_ ⟨h.1.drew, h.2.1.drewN 1, grownBy_drew h.2.2⟩
theorem SN.next (h : SN w2 gc g n cap u vs L w) (hC : Codes w' gc) (hg : w.grownBy w' (some gc)) (hgl : gc < w2.heap.size) : SN w2 gc g n cap u vs L w' :=
  SN.mk_ ⟨h.2.1.grown hg hgl, hC, grownBy_trans h.2.2.2 hg⟩
theorem SN.alloc (h : SN w2 gc g n cap u vs L w) (o : Obj) : SN w2 gc g n cap u vs L (w.alloc o) := SN.mk_ ⟨h.2.1.alloc o, h.2.2.1.alloc o, grownBy_trans h.2.2.2 (World.grownBy_alloc _ _ _)⟩
theorem SN.push (h : SN w2 gc g n cap u vs L w) (hb : Below w2.heap.size w w') (hg : w.grownBy w' (some g)) (hr : w'.ownsRow w2.heap.size 22 1 (.slice (some ⟨g, 0, none⟩) n cap) n (u :: vs)) (hn : L.length = n) (hgl : gc < w2.heap.size) : SN w2 gc g n cap u vs L w' :=
  SN.mk_ ⟨h.2.1.after hg (by subst hn; exact hr), h.2.2.1.under hb hgl, grownBy_below h.2.2.2 hb⟩
end

def NextLen (w : World) (gc n : Nat) (e : Ending) (w' : World) : Prop := ∃ t : Nat, e = .returned (.int .i64 (t : Int)) ∧ t ≤ n ∧ Codes w' gc ∧ w.grownBy w' (some gc)
theorem next_len (gc n : Nat) (w : World) (h : Codes w gc) (hn : n ≤ 3000) : Calls Try.prog 8 #[.pointer (some ⟨gc, 0, none⟩), .int .i64 ((n : Int) + 1)] w (NextLen w gc n) := by
  refine (drawNext gc _ _ h (by omega) (by omega)).mono ?_
  rintro e w' ⟨r, rfl, r0, r1, _, hC, hg⟩
  have r2 := r1 (by omega)
  obtain ⟨t, rfl⟩ := Int.eq_ofNat_of_zero_le r0
  exact ⟨t, rfl, by omega, hC, hg⟩
theorem small1 {n : Nat} (h : n ≤ 10) : n + 1 ≤ maxLen := by unfold maxLen; omega
theorem small2 {n : Nat} (h : n ≤ 10) : (n + 1) * 24 ≤ 140737488355328 := by omega
theorem oneSlice (A : Option Addr) (n c : Nat) : ∀ u ∈ [Value.slice A n c], u.oneCell' = true := by simp [Value.oneCell']
theorem number_any (v : Value) (l : List UInt8) (k : Int) (w : World) (S : Nat → Prop) (h : BSl w S v l) :
    Calls Try.prog 11 #[v, .int .i64 k] w fun e w' => e = .returned (.tuple #[.int .i64 (numOf l k), .bool (numOk l k)]) ∧ w = w' := by
  cases hn : numOk l k
  · exact (number_no v l k w S h hn).mono fun e w' ⟨he, hw⟩ => ⟨by rw [he, numOf, hn]; rfl, hw⟩
  · exact (number_ok v l k w S h hn).mono fun e w' ⟨he, hw⟩ => ⟨by rw [he, numOf, hn]; rfl, hw⟩
theorem refNumber_any (v : Value) (l : List UInt8) (k : Int) (w : World) (S : Nat → Prop) (h : BSl w S v l) :
    Calls Try.prog 12 #[v, .int .i64 k] w fun e w' => e = .returned (.tuple #[.int .i64 (numOf l k), .bool (numOk l k)]) ∧ w = w' := by
  cases hn : numOk l k
  · exact (refNumber_no v l k w S h hn).mono fun e w' ⟨he, hw⟩ => ⟨by rw [he, numOf, hn]; rfl, hw⟩
  · exact (refNumber_ok v l k w S h hn).mono fun e w' ⟨he, hw⟩ => ⟨by rw [he, numOf, hn]; rfl, hw⟩

set_option maxHeartbeats 2000000 in
set_option maxRecDepth 100000 in
theorem law_numbers (vb vc : Value) (bl : List UInt8) (bs : List Int) (size : Int) (w : World) (hsb : BSl w (lt w.heap.size) vb bl)
    (hsc : Sl w (lt w.heap.size) 1 vc bs.length (bs.map (.int .u8))) (hr : ∀ x ∈ bs, 0 ≤ x ∧ x ≤ 255) (hm : bs.length ≤ maxLen) :
    Calls Try.prog 3 #[vb, .int .i64 size, vc] w fun e w' => e = .returned (.bool true) ∧ Below w.heap.size w w' := by
  obtain ⟨Ab, cb, rfl, hcb, hsb⟩ := hsb.form
  go_enter Try.func3, Try.ntmps3
  go_wp2_with fail
  refine (awake_true _).mono ?_
  rintro e w1 ⟨rfl, hb1⟩
  have hS1 := (hsc.below hb1 (Nat.le_refl _)).more hb1.size
  clear hsc
  go_wp2_with fail
  refine (drawNew _ bs 200 _ hS1 hr (by omega) hm).mono ?_
  rintro e w2 ⟨gc, rfl, hgc, hC2, hb2⟩
  have hbw2 := bchain hb1 hb2
  have hgl := hC2.lt_
  have hz1 := hb1.size
  clear hS1 hb1 hb2
  go_wp2_with fail
  refine (drawNext gc _ _ hC2 (by omega) (by omega)).mono ?_
  rintro e w3 ⟨r, rfl, r0, r1, _, hC3, hg3⟩
  have r2 := r1 (by omega)
  clear r1
  go_wp2_with fail
  go_loopw [8, 9] (fun v n wr => ∃ (m : Int) (L : List (List UInt8)) (vs : List Value), n = .int .i64 m ∧ 0 ≤ m ∧ m + L.length = r ∧ OwnVs wr w2.heap.size v vs L ∧ (∀ l ∈ L, l.length ≤ 3000) ∧ Codes wr gc ∧ w2.grownBy wr (some gc)) (fun _ n _ => (intOf n).toNat)
  case atStart => exact ⟨r, [], [], rfl, r0, by simp, OwnVs.nil _ _, by simp, hC3, hg3⟩
  case round =>
    clear hC3 hg3 hC2
    obtain ⟨m, L, vs, rfl, hm0, hmL, hown, hll, hC, hG⟩ := hrel
    have hLr : (L.length : Int) ≤ 5 := by omega
    have hm5 : m ≤ 5 := by omega
    have HML := keep hmL
    have HLL := keep hll
    clear hmL hll
    by_cases hp : 0 < m
    · have hd : decide (0 < m) = true := by simpa using hp
      go_wp2_with fail
      refine (drawNext gc _ _ hC (by omega) (by omega)).mono ?_
      rintro e w4 ⟨q, rfl, q0, q1, _, hC4, hg4⟩
      replace hown := hown.grown hg4 hgl
      replace hG := grownBy_trans hG hg4
      clear q1 hC hg4
      go_wp2_with fail
      refine (makeData gc _ 2 _ hC4 (by omega) (by omega)).mono ?_
      rintro e w5 ⟨v5, l5, rfl, hown5, l15, lmax, hC5, hg5⟩
      have hz4 := hG.size
      replace hown := hown.grown hg5 hgl
      replace hG := grownBy_trans hG hg5
      clear hC4 hg5
      have hrow := hown.2.1
      have HO := keep hown
      clear hown
      obtain ⟨A5, c5, rfl, hc5, hown5⟩ := hown5.form
      have hown5' := hown5.base_ hz4
      clear hown5
      go_wp2_with (refine wpList_push1 el26 rfl rfl _ _ _ rfl rfl rfl w2.heap.size _ _ _ _ rfl (fun _ => rfl) (fun _ => rfl) hrow rfl (by unfold maxLen; omega) (by omega) hG.size ?_; intro g cap w6 hown6 hb6 hg6 _ _)
      go_roundw
      case rel =>
        refine ⟨m - 1, L ++ [l5], vs ++ [_], by go_num, by omega, by have := HML.out; simp; omega, HO.out.push hown5' hg6 hown6, ?_, hC5.under hb6 hgl, grownBy_below hG hb6⟩
        intro l hl'
        rcases List.mem_append.1 hl' with h | h
        · exact HLL.out l h
        · simp at h; subst h; omega
      case measure => simp [intOf]; omega
    · have hd : decide (0 < m) = false := by simpa using hp
      have hz2 := hG.size
      have hG2 : Below w.heap.size w wr := below_grown hbw2 hG hbw2.size (by omega)
      obtain ⟨A, c, rfl, hcL, _⟩ := hown.sl.form
      go_upto_if 35 with fail
      go_cut [8] (fun s8 wc => ∃ L' : List (List UInt8), BBs wc (lt wc.heap.size) s8 L' ∧ L'.length ≤ 10 ∧ Below w.heap.size w wc ∧ w2.grownBy wc (some gc))
      case first =>
        by_cases hne : L.length = 0
        · have hL0 : L = [] := List.eq_nil_of_length_eq_zero hne
          subst hL0
          go_wp2_with fail
          go_meet
          exact ⟨[], hown.sl, by simp, hG2, hG⟩
        · obtain ⟨g, cp, hv, hg1, hg2⟩ := hown.2.1.form (by omega)
          injection hv with hv1 _ hv3
          subst hv1 hv3
          obtain ⟨l0, Lr, rfl⟩ : ∃ l0 Lr, L = l0 :: Lr := by cases L with | nil => simp at hne | cons a b => exact ⟨a, b, rfl⟩
          obtain ⟨u0, vr, rfl⟩ : ∃ u0 vr, vs = u0 :: vr := by cases vs with | nil => have := hown.1; simp at this | cons a b => exact ⟨a, b, rfl⟩
          obtain ⟨A0, c0, rfl, hc0, _⟩ := (hown.2.2 0 u0 l0 rfl rfl).form
          have hl0 : l0.length ≤ 3000 := HLL.out l0 (by simp)
          have hP : PkN w2 gc _ _ _ wr := ⟨hown, hC, hG⟩
          have hne' : (0 : Int) < ((l0 :: Lr).length : Int) := by omega
          have hne1 : 0 < (l0 :: Lr).length := by omega
          have dne : decide ((0 : Int) < ((l0 :: Lr).length : Int)) = true := by simp
          generalize hLn : (l0 :: Lr).length = ln at *
          have HLn := keep hLn
          clear hLn hown hC hG
          have hb1' : ln ≤ 10 := by omega
          have hwr : IntKind.i64.wrap ((l0.length : Int) + 1) = (l0.length : Int) + 1 := IntWalk.i64_in _ (by omega)
          go_wp2_with fail
          go_region_held3 (SN w2 gc g ln c (.slice A0 l0.length c0) vr (l0 :: Lr))
            (first | exact SN.start (by assumption) | exact SN.next (by assumption) (by assumption) (by assumption) hgl | exact SN.alloc (by assumption) _ | exact SN.push (by assumption) (by assumption) (by assumption) (by assumption) HLn.out hgl | assumption)
            (first
              | (go_at_call 8; refine (next_len gc _ _ (SN.codes (by assumption)) hl0).mono ?_; rintro e w5 ⟨tn, rfl, t3, hC5, hg5⟩; have t2 : (tn : Int) ≤ (c0 : Int) := by omega)
              | (refine step_append_keep el26 (by rfl) _ _ (by rfl) w2.heap.size g _ _ _ (by rfl) (SN.row (by assumption) HLn.out) _ _ 1 _ (by rfl) (sl_one _ _ _) Nat.one_pos (oneSlice _ _ _) (small1 hb1') (small2 hb1') (SN.size (by assumption)) ?_; intro v6 w6 hr6 hb6 hg6 hk6))
          go_wp2_with fail
          go_meet
          have hS6 : SN w2 gc g ln c (.slice A0 l0.length c0) vr (l0 :: Lr) w6 := by assumption
          have hln := HLn.out
          have hz6 := hS6.size
          refine ⟨(l0 :: Lr) ++ [l0.take tn], hS6.2.1.slPush ((hS6.2.1.2.2 0 _ l0 rfl rfl).slt.take (by omega)) (by rw [hln]; exact hr6), by simp at hln ⊢; omega, below_grown hbw2 hS6.2.2.2 hbw2.size (by omega), hS6.2.2.2⟩
      case rest =>
        obtain ⟨L', hL, hL10, hbw, hGc⟩ := hcut
        clear hbw2 hG2 hG hown hC
        obtain ⟨A', c', rfl, hcL', hL⟩ := hL.form
        obtain ⟨wo, rfl⟩ : ∃ wo : World, wo = wc := ⟨_, rfl⟩
        have hsb' : BSl wo (lt wo.heap.size) (.slice Ab bl.length cb) bl := hsb.up hbw
        clear hsb
        go_wp2_with fail
        refine (makeMod _ 66 _ (by omega)).mono ?_
        rintro e w' ⟨q, rfl, q0, q1, rfl⟩
        clear q1
        go_wp2_with fail
        obtain ⟨W, hW⟩ : ∃ W, W = wo.alloc (.cells #[.int .i64 size, .int .i64 q] 3) := ⟨_, rfl⟩
        have hBk : Blk W wo.heap.size 3 #[.int .i64 size, .int .i64 q] := hW ▸ Blk.new _ _ _
        have hbW : Below wo.heap.size wo W := hW ▸ (Below.refl _ wo).alloc (Nat.le_refl _) _
        rw [← hW]
        clear hW
        replace hL := hL.up hbW
        replace hsb' := hsb'.up hbW
        replace hbw := bchain hbw hbW
        have hlb := hBk.lt
        go_loopw [11, 12, 13, 14, 15, 55] (fun _ _ _ _ _ i wr => ∃ j : Nat, j ≤ 2 ∧ i = .int .i64 j ∧ Below W.heap.size W wr) (fun _ _ _ _ _ i _ => 2 - (intOf i).toNat)
        case atStart => exact ⟨0, Nat.zero_le _, rfl, Below.refl _ _⟩
        case round =>
          obtain ⟨j, hj, rfl, hbr⟩ := hrel
          obtain ⟨wx, rfl⟩ : ∃ wx : World, wx = wr := ⟨_, rfl⟩
          by_cases hj2 : j < 2
          · have hc0 : ∃ k, wx.cell? ⟨wo.heap.size, j, none⟩ = some (.int .i64 k) := by
              have hB := hBk.below hbr hlb
              match j, hj2 with
              | 0, _ => exact ⟨_, (hB.cell 0).trans rfl⟩
              | 1, _ => exact ⟨_, (hB.cell 1).trans rfl⟩
            obtain ⟨k, hcell⟩ := hc0
            have hLx := hL.up hbr
            have hsx := hsb'.up hbr
            go_wp2_with fail
            refine (number_any _ _ _ _ _ hsx).mono ?_
            rintro e w' ⟨rfl, rfl⟩
            go_wp2_with fail
            refine (refNumber_any _ _ _ _ _ hsx).mono ?_
            rintro e w' ⟨rfl, rfl⟩
            generalize numOf bl k = x
            generalize numOk bl k = ok
            have d1 : (x != x) = false := by simp
            have d2 : (ok != ok) = false := by simp
            go_wp2_with fail
            refine (consistent_any _ _ _ _ _ hLx (by omega)).mono ?_
            rintro e w' ⟨rfl, rfl⟩
            go_wp2_with fail
            refine (refConsistent_any _ _ _ _ hLx (by omega)).mono ?_
            rintro e w5 ⟨rfl, hb5⟩
            generalize consOf L' k = co
            have d3 : (co != co) = false := by simp
            have hL5 := hLx.up hb5
            have hs5 := hsx.up hb5
            go_wp2_with fail
            refine (l0_any _ _ _ _ hL5 (by omega)).mono ?_
            rintro e w' ⟨v0, rfl, hv0, rfl⟩
            generalize hlh : L'.headD [] = lh at *
            have HLH := keep hlh
            clear hlh
            obtain ⟨A0, c0, rfl, _, hv0⟩ := hv0.form
            go_wp2_with fail
            refine (consistent_any _ [bl, lh] _ _ _ (litBB w5 [_, _] [bl, lh] rfl (fun i hi => ?_)) (by simp)).mono ?_
            · have hi2 : i < 2 := by simpa using hi
              match i, hi2 with
              | 0, _ => exact hs5
              | 1, _ => exact hv0
            rintro e w' ⟨rfl, rfl⟩
            have hb6 := (Below.refl w5.heap.size w5).alloc (Nat.le_refl _) (.cells #[.slice Ab bl.length cb, .slice A0 lh.length c0] 22)
            have hL6 := hL5.up hb6
            have hs6 := hs5.up hb6
            go_wp2_with fail
            refine (l0_any _ _ _ _ hL6 (by omega)).mono ?_
            rintro e w' ⟨v1, rfl, hv1, rfl⟩
            rw [HLH.out] at hv1
            obtain ⟨A1, c1, rfl, _, hv1⟩ := hv1.form
            go_wp2_with fail
            refine (refConsistent_any _ [bl, lh] _ _ (litBB' _ (w5.heap.size + 1) [_, _] [bl, lh] (by simp) rfl (fun i hi => ?_)) (by simp)).mono ?_
            · have hi2 : i < 2 := by simpa using hi
              match i, hi2 with
              | 0, _ => exact hs6
              | 1, _ => exact hv1
            rintro e w7 ⟨rfl, hb7⟩
            generalize consOf [bl, lh] k = cp
            have d4 : (cp != cp) = false := by simp
            go_wp2_with fail
            go_roundw
            case rel => exact ⟨j + 1, by omega, by go_num, bchain (bchain (bchain (bchain hbr hb5) hb6) ((Below.refl _ _).alloc (Nat.le_refl _) _)) hb7⟩
            case measure => simp [intOf]; omega
          · go_wp2_with fail
            go_ret
            exact ⟨rfl, bchain hbw hbr⟩
theorem law_numbers_row (vb vc : Value) (ks bs : List Int) (size : Int) (w : World) (hsb : Sl w (lt w.heap.size) 1 vb ks.length (ks.map (.int .u8))) (hra : ∀ x ∈ ks, 0 ≤ x ∧ x ≤ 255)
    (hsc : Sl w (lt w.heap.size) 1 vc bs.length (bs.map (.int .u8))) (hr : ∀ x ∈ bs, 0 ≤ x ∧ x ≤ 255) (hm : bs.length ≤ maxLen) :
    Calls Try.prog 3 #[vb, .int .i64 size, vc] w fun e w' => e = .returned (.bool true) ∧ Below w.heap.size w w' := by
  obtain ⟨bl, _, h⟩ := bsl_of_ints hsb hra
  exact law_numbers vb vc bl bs size w h hsc hr hm
end Go.Proofs.Ytgegmefnbkcdkaa
