/- The contract of ascii.Repair. -/
import Derived.Test.YtimldjlegbdldaaRepair
namespace Go.Proofs.Ytimldjlegbdldaa
open Go.RowKit Go.Shelf

attribute [local go_sem] Oper.semAt_some

/-- What the caller's boxes hold between two rounds. -/
structure MI (w : World) (l : List UInt8) (pre : List (PlAt l.length)) (W : World) : Prop where
  b : Bld W w.heap.size w.heap.size (outL l (pre.map (·.1)))
  n : Boxed W (w.heap.size + 1) 3 (.int .i64 (badsL l (pre.map (·.1)) : Nat))
  s : ∃ u, Boxed W (w.heap.size + 1 + 1) 22 u
  m : Below w.heap.size w W
section
variable {w : World} {l : List UInt8} {pre : List (PlAt l.length)} {W W' : World}
theorem MI.own {row : Option Nat} (h : MI w l pre W) (hg : W.grownBy W' row) (hr : ∀ r, row = some r → w.heap.size ≤ r ∧ ∃ o : Obj, W.heap[r]? = some o ∧ o.isCells = false) : MI w l pre W' := by
  have hr' := fun r e => (hr r e).2
  obtain ⟨u, hs⟩ := h.s
  have boxk : ∀ {k t : Nat} {u : Value}, Boxed W k t u → Boxed W' k t u := fun {k t u} hk => hk.kept hg (fun e => by
    obtain ⟨o, ho, hc⟩ := hr' _ e.symm
    rw [show W.heap[k]? = _ from hk] at ho
    cases ho
    cases hc)
  exact ⟨h.b.row hg hr', boxk h.n, ⟨u, boxk hs⟩, h.m.grown hg h.m.size (fun k e => (hr k e).1)⟩
theorem MI.step (h : MI w l pre W) (ht : TS (w.heap.size + 1 + 1) W W') : MI w l pre W' := by
  obtain ⟨u, u0, hb, rfl⟩ := ht
  exact ⟨h.b.store hb (by omega) (by decide), h.n.other (by omega) u, ⟨u, hb.set u⟩, h.m.setCell (p := ⟨w.heap.size + 1 + 1, 0, none⟩) (by simp; omega) u⟩
/-- Behind a writer. -/
theorem MI.wr (h : MI w l pre W) (k : WrB w.heap.size w.heap.size W W') :
    Boxed W' (w.heap.size + 1) 3 (.int .i64 (badsL l (pre.map (·.1)) : Nat)) ∧ KeepsOthers W W' ∧ KpS (w.heap.size + 1 + 1) w.heap.size W W' ∧ (∃ u, Boxed W' (w.heap.size + 1 + 1) 22 u) ∧ Below w.heap.size w W' := by
  obtain ⟨u, hs⟩ := h.s
  exact ⟨k.boxed h.n (by omega) (by decide), k.others h.b, ⟨fun u hu => k.boxed hu (by omega) (by decide), k.below⟩, ⟨u, k.boxed hs (by omega) (by decide)⟩, h.m.trans k.below⟩
end

set_option maxRecDepth 100000 in
set_option maxHeartbeats 4000000 in
theorem repair_any (v : Value) (l : List UInt8) (w : World) (h : BSl w (lt w.heap.size) v l) (hm : l.length ≤ 1000000000) :
    Calls Try.prog 21 #[v] w (RepairRes w l) := by
  obtain ⟨A, c, rfl, hc, h⟩ := h.forms
  have hA : ∃ b o, 0 < l.length → A = some ⟨b, o, none⟩ ∧ b < w.heap.size := by
    by_cases h0 : 0 < l.length
    · obtain ⟨b, o, e1, e2, _⟩ := h.byte h0
      exact ⟨b, o, fun _ => ⟨e1, e2⟩⟩
    · exact ⟨0, 0, fun h' => absurd h' h0⟩
  obtain ⟨b, o, hA⟩ := hA
  refine (callsIn_wide (n := 6)).1 ?_
  refine callsIn_of_wp_marks Try.func21 rfl trivial ?_ rfl
  simp only [Try.ntmps21, List.size_toArray, List.length_cons, List.length_nil, Nat.reduceAdd, Nat.reduceSub, Array.replicate_succ, Array.replicate_zero, List.push_toArray, List.append_toArray, List.nil_append, List.cons_append]
  refine wpIn_wide.2 ?_
  have HA := keep hA
  clear hA
  go_wp2_with fail
  refine (seq_make A l.length c _).mono ?_
  rintro e w' ⟨rfl, rfl⟩
  have b0 := Bld.new w w.heap.size (Nat.le_refl _)
  have b1 := Boxed.new (w.alloc (.cells #[.pointer none, .slice none 0 0] 62)) 3 (.int .i64 0)
  have b2 := Boxed.new ((w.alloc (.cells #[.pointer none, .slice none 0 0] 62)).alloc (.cells #[.int .i64 0] 3)) 22 (.slice A l.length c)
  have hbw : Below w.heap.size w (((w.alloc (.cells #[.pointer none, .slice none 0 0] 62)).alloc (.cells #[.int .i64 0] 3)).alloc (.cells #[.slice A l.length c] 22)) := (((Below.refl _ w).alloc (Nat.le_refl _) _).alloc (by simp) _).alloc (by simp; omega) _
  have hsz : (((w.alloc (.cells #[.pointer none, .slice none 0 0] 62)).alloc (.cells #[.int .i64 0] 3)).alloc (.cells #[.slice A l.length c] 22)).heap.size = w.heap.size + 3 := by simp
  simp only [World.size_alloc] at b1 b2
  have b0' := (b0.row (World.grownBy_alloc _ (.cells #[.int .i64 0] 3) none) (fun r e => by cases e)).row (World.grownBy_alloc _ (.cells #[.slice A l.length c] 22) none) (fun r e => by cases e)
  have b1' := b1.alloc (.cells #[.slice A l.length c] 22)
  have hI0 : MI w l [] (((w.alloc (.cells #[.pointer none, .slice none 0 0] 62)).alloc (.cells #[.int .i64 0] 3)).alloc (.cells #[.slice A l.length c] 22)) := ⟨b0', b1', ⟨_, b2⟩, hbw⟩
  obtain ⟨W0, hW0⟩ : ∃ W0, ((w.alloc (.cells #[.pointer none, .slice none 0 0] 62)).alloc (.cells #[.int .i64 0] 3)).alloc (.cells #[.slice A l.length c] 22) = W0 := ⟨_, rfl⟩
  rw [hW0] at hI0 hsz hbw b2
  rw [hW0]
  have HI0 := keep hI0
  have HB2 := keep b2
  have HBW := keep hbw
  clear b0 b1 b0' b1' hI0 hW0 b2 hbw
  go_wp2_with fail
  refine (wpIn_wide (n := 6)).1 ?_
  refine wpIn_rangeFunc_ownT (F := Fence.wide) (n := 6) rfl (by omega) (gf := 35) (lb := #[.pointer (some ⟨w.heap.size + 1 + 1, 0, none⟩)]) rfl trivial (enters_of Try.func35 (by kernel_rfl) rfl)
    (seq_stops 5 (by omega) (w.heap.size + 1 + 1) b o w.heap.size c A l hm HA.out hc (by omega) W0 (h.below HBW.out (Nat.le_refl _)) HB2.out)
    (fun X Y ⟨u, u0, _, e⟩ => e ▸ KeepsOthers.setCell _ _ _) (fun h k => ⟨fun u hu => k.1 u (h.1 u hu), h.2.trans k.2⟩)
    (fun W l o o' hl h _ hw => ⟨fun u hu => (World.putObj_heap_other (by rintro rfl; omega)).trans hu, belowK_b (w := w) (Nat.le_refl _) W l o o' (by omega) h (by assumption) hw⟩)
    (Below.refl _ _) (fun _ => rfl) (MI w l)
    (fun s X Y row hs hg hr => hs.own hg (fun r e => ⟨by have := (hr r e).1; omega, (hr r e).2⟩)) (fun _ _ _ hs ht => hs.step ht) HI0.out
    (fun x => { tmps := #[.slice A l.length c, undef, .string ⟨#[]⟩, .int .i64 0, .pointer (some ⟨w.heap.size, 0, none⟩), .pointer (some ⟨w.heap.size + 1, 0, none⟩), .slice (some ⟨b, o + x.1, none⟩) (stepL (l.drop x.1)) (c - x.1), .bool (decide (0 < seqL (l.drop x.1))),
      .slice A l.length c, .func (.func 35) #[] #[.pointer (some ⟨w.heap.size + 1 + 1, 0, none⟩)], .slice (some ⟨b, o + x.1, none⟩) (stepL (l.drop x.1)) (c - x.1), .bool (decide (0 < seqL (l.drop x.1))), undef, undef, undef, undef, undef, undef, undef, undef, undef], defers := [] }) ?assign ?body ?done
  case assign =>
    intro lp x W K hK
    gi_wp2
    exact hK
  case body =>
    rintro lp pre ⟨x, hx⟩ W hI hlt
    dsimp only
    have hmap : (pre ++ [(⟨x, hx⟩ : PlAt l.length)]).map (·.1) = pre.map (·.1) ++ [x] := by rw [List.map_append, List.map_singleton]
    have hol := outL_le l (pre.map (·.1))
    have hbl := badsL_le l (pre.map (·.1))
    rw [List.length_map] at hol hbl
    have hpl := pieceL_le4 (l.drop x)
    by_cases h0 : seqL (l.drop x) = 0
    · have e2 : pieceL (l.drop x) = [63] := by unfold pieceL; rw [if_pos h0]
      have e3 : badL (l.drop x) = 1 := by unfold badL; rw [if_pos h0]
      have hok : decide (0 < seqL (l.drop x)) = false := by rw [h0]; rfl
      rw [hok]
      have HP := keep (outL_push l (pre.map (·.1)) x)
      have HQ := keep (badsL_push l (pre.map (·.1)) x)
      rw [e2] at HP
      rw [e3] at HQ
      have hw := writeByte_any w.heap.size w.heap.size (outL l (pre.map (·.1))) 63 63 rfl W hI.b (by omega)
      obtain ⟨O, hO⟩ : ∃ O, outL l (pre.map (·.1)) = O := ⟨_, rfl⟩
      obtain ⟨k, hk⟩ : ∃ k, badsL l (pre.map (·.1)) = k := ⟨_, rfl⟩
      rw [hO] at hw HP
      have HK := keep hk
      have HI := keep hI
      have HM := keep hmap
      have hkb : (k : Int) ≤ 1000000000 := by omega
      rw [hk] at HQ
      clear e2 e3 hok hI h0 hmap hO hk hol hbl
      gi_wp2
      refine ⟨trivial, ?_⟩
      refine (CallsIn.inRound lp (callsIn_wide.2 hw)).mono ?_
      rintro e w5 ⟨rfl, hb5, hk5⟩
      obtain ⟨n5, k5, p5, s5, m5⟩ := HI.out.wr hk5
      rw [HK.out] at n5
      have hc5 := n5.cell
      have hf5 := n5.frozen
      have HN := keep n5
      clear n5
      gi_wp2
      obtain ⟨u5, s5⟩ := s5
      exact ⟨(k5.trans (KeepsOthers.setCell _ _ _)).from _, ⟨fun u hu => (p5.1 u hu).other (by omega) _, p5.2.setCell (p := ⟨w.heap.size + 1, 0, none⟩) (by simp) _⟩, by rw [HM.out, HP.out]; exact hb5.store HN.out (by omega) (by decide), by rw [HM.out, HQ.out]; exact HN.out.set _, ⟨u5, s5.other (by omega) _⟩, m5.setCell (p := ⟨w.heap.size + 1, 0, none⟩) (by simp) _⟩
    · have e2 : pieceL (l.drop x) = (l.drop x).take (seqL (l.drop x)) := by unfold pieceL; rw [if_neg h0]
      have e3 : badL (l.drop x) = 0 := by unfold badL; rw [if_neg h0]
      have hok : decide (0 < seqL (l.drop x)) = true := by simp; omega
      have hstp : stepL (l.drop x) = seqL (l.drop x) := by unfold stepL; omega
      have hne : l.drop x ≠ [] := by intro e; have := congrArg List.length e; simp at this; omega
      have hsl := seqL_le (l.drop x) hne
      rw [List.length_drop] at hsl
      rw [hok, hstp]
      have HP := keep (outL_push l (pre.map (·.1)) x)
      have HQ := keep (badsL_push l (pre.map (·.1)) x)
      rw [e3, Nat.add_zero] at HQ
      have hsrc : BSl W (lt w.heap.size) (.slice (some ⟨b, o + x, none⟩) (seqL (l.drop x)) (c - x)) (pieceL (l.drop x)) := by
        have h1 := (h.below hI.m (Nat.le_refl _)).drop (k := x) (by omega)
        rw [if_neg (by omega), (HA.out (by omega)).1, Option.map_some, Addr.add_lit] at h1
        have h2 := h1.take (k := seqL (l.drop x)) (by simp) hsl
        rw [e2]
        exact h2
      have hw := write_any w.heap.size w.heap.size (outL l (pre.map (·.1))) (pieceL (l.drop x)) _ W hI.b hsrc (by omega)
      obtain ⟨O, hO⟩ : ∃ O, outL l (pre.map (·.1)) = O := ⟨_, rfl⟩
      obtain ⟨q, hq⟩ : ∃ q, seqL (l.drop x) = q := ⟨_, rfl⟩
      rw [hO] at hw HP
      rw [hq] at hw
      rw [hq]
      have HI := keep hI
      have HM := keep hmap
      clear e2 e3 hok hI h0 hmap hO hol hbl hsrc hq hstp hsl
      gi_wp2
      refine ⟨trivial, ?_⟩
      refine (CallsIn.inRound lp (callsIn_wide.2 hw)).mono ?_
      rintro e w5 ⟨rfl, hb5, hk5⟩
      obtain ⟨n5, k5, p5, s5, m5⟩ := HI.out.wr hk5
      have HN := keep n5
      clear n5
      gi_wp2
      exact ⟨k5.from _, p5, by rw [HM.out, HP.out]; exact hb5, by rw [HM.out, HQ.out]; exact HN.out, s5, m5⟩
  case done =>
    rintro D ys W hD hAll hI hK
    obtain ⟨r1, r2⟩ := hAll.rep
    have hn := hI.n
    have hb := hI.b
    rw [r1] at hb
    rw [r2] at hn
    obtain ⟨o1, ho1⟩ : ∃ o1, (rep l).1 = o1 := ⟨_, rfl⟩
    obtain ⟨o2, ho2⟩ : ∃ o2, (rep l).2 = o2 := ⟨_, rfl⟩
    rw [ho1] at hb
    rw [ho2] at hn
    have HO := keep (And.intro ho1 ho2)
    clear ho1 ho2 r1 r2 hAll
    have hst := string_any w.heap.size w.heap.size o1 W.drew (hb.row (grownBy_drew (World.grownBy.refl W none)) (fun r e => by cases e)) hI.m.size
    have hcn := hn.cell
    have HM := keep hI.m
    have HK := keep hK
    have HN := keep hn
    have HB := keep hb
    clear hI hK hn hb
    have HS := keep hst
    clear hst
    have hlt : w.heap.size < W.heap.size := HB.out.lt
    go_wp2
    go_region_held3 (fun w' : World => w'.cell? ⟨w.heap.size + 1, 0, none⟩ = some (.int .i64 (o2 : Int)) ∧ WrB w.heap.size w.heap.size W w') (first | exact ⟨hcn, WrB.drew _ _ _⟩ | exact ⟨hc5, hk6⟩ | assumption)
      (first | (go_at_call 30; (with_reducible refine HS.out.mono ?_); rintro e w5 ⟨rfl, hk5⟩; have hc5 := (hk5.boxed (u := .int .i64 (o2 : Int)) HN.out (by omega) (by decide)).cell; have hk6 := (WrB.drew _ _ _).trans hk5))
    all_goals
      go_wp2
      have hK5 := (hk6.others HB.out).same D _ HK.out rfl
      refine ⟨by simp, .inl ⟨_, _, rfl, run_takeDeferred hK5, ?_⟩⟩
      refine ⟨.tuple #[.string ⟨o1.toArray⟩, .int .i64 o2], by simp [results, Try.results21, go_sem], tuple_str HO.out.1.symm (by rw [HO.out.2]), ?_⟩
      exact (HM.out.trans hk6.below).trans (belowK_b (w := w) (Nat.le_refl _) _ D _ _ (by omega) hK5 rfl rfl)
end Go.Proofs.Ytimldjlegbdldaa
