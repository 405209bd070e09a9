/- Add of the filter and its reference. -/
import Derived.Test.YtfainbgbeojcpaaHasTwo
namespace Go.Proofs.Ytfainbgbeojcpaa
open Go.RowKit

/-- What both Adds leave. -/
def AddRes (w : World) (k : Int) (l : List Int) (e : Ending) (w' : World) : Prop :=
  ∃ v, e = .returned (.agg #[.int .i64 k, v]) ∧ Sl w' (btw w.heap.size w'.heap.size) 1 v l.length (l.map (.int .u64)) ∧ Below w.heap.size w w'
theorem pos_sl {w : World} {b : Nat} {v : Value} {s : ByteArray} {k n : Nat} (h : w.ownsRow b 3 1 v k ((poss s k n).map (.int .i64))) : Sl w (lt w.heap.size) 1 v (poss s k n).length ((poss s k n).map (.int .i64)) := by
  rw [poss_len]; exact Sl.of_own h
theorem poss_small (s : ByteArray) (k n : Nat) (h : k ≤ 8) : (poss s k n).length ≤ 100000 := by rw [poss_len]; omega

set_option maxHeartbeats 1000000 in
theorem add_any (k : Nat) (v : Value) (l : List Int) (s : ByteArray) (w : World) (hs : Sl w (lt w.heap.size) 1 v l.length (l.map (.int .u64))) (h1 : 1 ≤ l.length) (h2 : l.length ≤ 1024) (hk : k ≤ 8) (hm : s.size ≤ maxLen) :
    Calls Try.prog 34 #[.agg #[.int .i64 k, v], .string s] w (AddRes w k (setBits l (poss s k l.length))) := by
  obtain ⟨A, c, rfl, hc, hs⟩ := hs.form
  obtain ⟨W, hW⟩ : ∃ W, W = (w.alloc (.cells #[.int .i64 k, .slice A l.length c] 27)).alloc (.cells #[.int .i64 0, .slice none 0 0] 27) := ⟨_, rfl⟩
  have hbW : Below w.heap.size w W := hW ▸ ((Below.refl _ w).alloc (Nat.le_refl _) _).alloc (by simp) _
  have hB : Blk W w.heap.size 27 #[.int .i64 k, .slice A l.length c] := hW ▸ (Blk.new _ _ _).alloc _
  have hR : Blk W (w.heap.size + 1) 27 #[.int .i64 0, .slice none 0 0] := by
    have := Blk.new (w.alloc (.cells #[.int .i64 k, .slice A l.length c] 27)) 27 #[.int .i64 0, .slice none 0 0]
    rw [← hW] at this
    simpa using this
  have hsW := hs.below hbW (Nat.le_refl _)
  have hzR := hR.lt
  have hslA := keep (fun (a : World) (h : Held (w.heap.size + 1) W a) => (hsW.under h.2.2 (fun b hb => by have hb' : b < w.heap.size := hb; omega)).mono (S' := lt a.heap.size) (fun b hb => by have hb' : b < w.heap.size := hb; have := h.2.2.size; show b < _; omega))
  obtain ⟨q0, q1⟩ := hB.cell2
  obtain ⟨q2, q3⟩ := hR.cell2
  have HPB := keep (poss_bd s k l.length h1)
  have HPS := keep (poss_small s k l.length hk)
  have hlB : w.heap.size < w.heap.size + 1 := by omega
  have hRf0 : W.frozen? ⟨w.heap.size + 1, 0, none⟩ = false := hR.frozen 0
  have hRf1 : W.frozen? ⟨w.heap.size + 1, 1, none⟩ = false := hR.frozen 1
  clear hs hsW hB
  go_enter Try.func34, Try.ntmps34
  go_wp2_with fail
  rw [← hW]
  have hW' := keep hW
  clear hW
  go_region_held3 (Held (w.heap.size + 1) W) (first | exact Held.start _ _ | exact Held.call (by assumption) (by assumption) (Nat.le_of_lt hzR) | ((repeat refine Held.set_ ?_ (by simp) _); assumption) | assumption)
    (first
      | (go_at_call 11; refine (positions_any k _ _ _ _ _ hm hk h1 h2).mono ?_; rintro e w1 ⟨vp, rfl, hown1, hb1⟩)
      | (go_at_call 44; refine (with_any _ _ l _ _ (hslA.out _ (by assumption)) (pos_sl hown1) h1 h2 HPS.out HPB.out).mono ?_; rintro e w2 ⟨v2, rfl, hown2, hb2⟩; obtain ⟨g2, cap2, rfl, hg21, hg22⟩ := hown2.form h1
         have hR2 := (Blk.below (w := W.drew) hR hb1 hzR).below hb2 (Nat.lt_of_lt_of_le hzR hb1.size)
         obtain ⟨u2, u3⟩ := hR2.cell2
         have f2 : w2.frozen? ⟨w.heap.size + 1, 0, none⟩ = false := hR2.frozen 0
         have f3 : w2.frozen? ⟨w.heap.size + 1, 1, none⟩ = false := hR2.frozen 1))
  have hz1 := hb1.size
  simp only [World.size_drew] at hz1
  have hz2 := hb2.size
  have hb1' : Below W.heap.size W w1 := ⟨hb1.os, hb1.tape, hb1.output, hb1.size, hb1.block⟩
  have hbf : Below w.heap.size w w2 := bchain (bchain hbW hb1') hb2
  have hlen : (setBits l (poss s k l.length)).length = l.length := setBits_len _ _
  have hfin : AddRes w k (setBits l (poss s k l.length)) (.returned (.agg #[.int .i64 k, .slice (some ⟨g2, 0, none⟩) l.length cap2]))
      ((w2.setCell ⟨w.heap.size + 1, 0, none⟩ (.int .i64 k)).setCell ⟨w.heap.size + 1, 1, none⟩ (.slice (some ⟨g2, 0, none⟩) l.length cap2)) := by
    refine ⟨_, rfl, ?_, (hbf.setCell (by simp) _).setCell (by simp) _⟩
    rw [hlen]
    have h3 := ownsRow_setCell_below (ownsRow_setCell_below hown2 (a := ⟨w.heap.size + 1, 0, none⟩) (by simp; omega) (.int .i64 k)) (a := ⟨w.heap.size + 1, 1, none⟩) (by simp; omega) (.slice (some ⟨g2, 0, none⟩) l.length cap2)
    exact (Sl.of_own_btw h3).mono (fun b hb => ⟨by have := hb.1; omega, hb.2⟩)
  have HF := keep hfin
  clear hfin hlen hbf hb1' hown1 hown2 hb1 hb2
  go_wp2_with fail
  exact bodyPost_ret (v := .agg #[.int .i64 k, .slice (some ⟨g2, 0, none⟩) l.length cap2]) (by simp [results, Try.results34, go_sem, u2, u3]) rfl HF.out

set_option maxHeartbeats 1000000 in
theorem refAdd_any (k : Nat) (v : Value) (l : List Int) (s : ByteArray) (w : World) (hs : Sl w (lt w.heap.size) 1 v l.length (l.map (.int .u64))) (h1 : 1 ≤ l.length) (h2 : l.length ≤ 1024) (hk : k ≤ 8) (hm : s.size ≤ maxLen) :
    Calls Try.prog 35 #[.agg #[.int .i64 k, v], .string s] w (AddRes w k (setBits l (poss s k l.length))) := by
  obtain ⟨A, c, rfl, hc, hs⟩ := hs.form
  obtain ⟨W, hW⟩ : ∃ W, W = (w.alloc (.cells #[.int .i64 k, .slice A l.length c] 27)).alloc (.cells #[.int .i64 0, .slice none 0 0] 27) := ⟨_, rfl⟩
  have hbW : Below w.heap.size w W := hW ▸ ((Below.refl _ w).alloc (Nat.le_refl _) _).alloc (by simp) _
  have hB : Blk W w.heap.size 27 #[.int .i64 k, .slice A l.length c] := hW ▸ (Blk.new _ _ _).alloc _
  have hR : Blk W (w.heap.size + 1) 27 #[.int .i64 0, .slice none 0 0] := by
    have := Blk.new (w.alloc (.cells #[.int .i64 k, .slice A l.length c] 27)) 27 #[.int .i64 0, .slice none 0 0]
    rw [← hW] at this
    simpa using this
  have hsW := hs.below hbW (Nat.le_refl _)
  have hzR := hR.lt
  have hzB := hB.lt
  obtain ⟨q0, q1⟩ := hB.cell2
  have HPB := keep (poss_bd s k l.length h1)
  have hslA := keep (fun (a : World) (h : Held W.heap.size W a) => (hsW.under h.2.2 (fun b hb => by have hb' : b < w.heap.size := hb; omega)).mono (S' := lt a.heap.size) (fun b hb => by have hb' : b < w.heap.size := hb; have := h.2.2.size; show b < _; omega))
  go_enter Try.func35, Try.ntmps35
  go_upto_region 1 with fail
  rw [← hW]
  clear hW
  go_cut [5] (fun s5 wc => ∃ g b cp, s5 = .pointer (some ⟨b, 0, none⟩) ∧ Blk wc b 27 #[.int .i64 k, .slice (some ⟨g, 0, none⟩) l.length cp] ∧ wc.ownsRow W.heap.size 67 1 (.slice (some ⟨g, 0, none⟩) l.length cp) l.length (l.map (.int .u64)) ∧ W.heap.size ≤ b ∧ b ≠ g ∧ Below W.heap.size W wc)
  case first =>
    go_region_held3 (Held W.heap.size W) (first | exact Held.start _ _ | exact Held.call (by assumption) (by assumption) (Nat.le_refl _) | exact Held.alloc (by assumption) _ (Nat.le_refl _) | ((repeat refine Held.set_ ?_ (by simp) _); assumption) | exact Held.realloc (by assumption) _ (by have h := hb3.size; simp at h; omega))
      (first | (refine step_appendS el25 (by rfl) _ _ (by rfl) _ _ 0 [] (by rfl) (World.ownsRow_nil _ _ _ _) _ _ _ _ (by rfl) (hslA.out _ (by assumption)) (oneCells _ (fun _ => rfl) _) (by unfold maxLen; omega) (by omega) (Nat.le_refl _) ?_; intro v3 w3 hown3 hb3x hg3; have hb3 := below_of_none hg3; rw [Nat.zero_add, List.nil_append] at hown3; obtain ⟨g, cp, rfl, hg1, hg2⟩ := hown3.form (by omega); obtain ⟨hc3, hf3⟩ := bcell hb3; (try simp only [World.size_alloc, World.size_drew] at hc3 hf3 hg1)))
    all_goals go_wp2_with fail
    all_goals go_meet
    · have hz3 := hb3.size
      simp only [World.size_drew] at hz3
      exact ⟨g, _, cp, rfl, Blk.new _ _ _, hown3.alloc _, hz3, by omega, (by assumption : Held W.heap.size W _).2.2⟩
    · have hBn := (Blk.new W.drew 27 #[.int .i64 0, .slice none 0 0]).below hb3 (by simp)
      simp only [World.size_drew] at hBn
      have hB2 := (hBn.set_ 0 (.int .i64 k)).set_ 1 (.slice (some ⟨g, 0, none⟩) l.length cp)
      refine ⟨g, _, cp, rfl, hB2, ?_, Nat.le_refl _, by omega, (by assumption : Held W.heap.size W _).2.2⟩
      refine own_base (base := W.heap.size + 1) ?_ (by omega)
      exact ownsRow_setCell_below (ownsRow_setCell_below (by simpa using hown3) (by simp) _) (by simp) _
  case rest =>
    obtain ⟨g, b, cp, rfl, hBk, hOwn, hb0, hne, hbc⟩ := hcut
    obtain ⟨wo, rfl⟩ : ∃ wo : World, wo = wc := ⟨_, rfl⟩
    have hBc := hB.below hbc hzB
    have hRc := hR.below hbc hzR
    obtain ⟨t0, t1⟩ := hBc.cell2
    have hbl := hBk.lt
    obtain ⟨hgl, hgu⟩ := hOwn.lt g rfl
    have hbw := bchain hbW hbc
    clear hB hR q0 q1 hsW hslA hBc hs
    go_wp2_with fail
    refine (refPositions_any k _ _ _ _ _ hm hk h1 h2).mono ?_
    rintro e w2 ⟨vp, rfl, hown2, hb2⟩
    have hP := pos_sl hown2
    have hPb := Sl.of_own_btw hown2
    have hz2 := hb2.size
    have hBk2 := hBk.below hb2 hbl
    have hRc2 := hRc.below hb2 (by omega)
    have hOwn2 := own_below hOwn hb2
    have hbw2 := bchain hbw hb2
    have hP' : Sl w2 (btw wo.heap.size w2.heap.size) 1 vp (poss s k l.length).length ((poss s k l.length).map (.int .i64)) := by rw [poss_len]; exact hPb
    have hpl : (poss s k l.length).length ≤ 100000 := poss_small s k l.length hk
    obtain ⟨Ap, cp', rfl, _, hP'⟩ := hP'.form
    clear hown2 hP hPb hOwn hBk hRc hbw hbc hb2
    generalize poss s k l.length = ps at *
    go_wp2_with fail
    go_loopw [7] (fun i wr => ∃ j : Nat, j ≤ ps.length ∧ i = .int .i64 j ∧ wr.ownsRow W.heap.size 67 1 (.slice (some ⟨g, 0, none⟩) l.length cp) l.length ((setBits l (ps.take j)).map (.int .u64)) ∧ w2.grownBy wr (some g)) (fun i _ => ps.length - (intOf i).toNat)
    case atStart => exact ⟨0, Nat.zero_le _, rfl, by simpa [setBits] using hOwn2, World.grownBy.refl _ _⟩
    case round =>
      clear hOwn2
      obtain ⟨j, hj, rfl, hOwn, hgi⟩ := hrel
      have hBr := hBk2.grown hgi (fun e => by injection e; omega)
      obtain ⟨u0, u1⟩ := hBr.cell2
      by_cases hlj : j < ps.length
      · obtain ⟨b3, o3, u3, rfl, hb3, hx3, hc3⟩ := (hP'.grown hgi (fun b hb => ⟨hb.2, fun e => by have := hb.1; injection e; omega⟩)).at_ hlj
        have hu : u3 = .int .i64 ps[j] := by simpa [hlj] using hx3.symm
        subst hu
        have hpb := HPB.out ps[j] (List.getElem_mem _)
        have hps' : ps.take (j + 1) = ps.take j ++ [ps[j]] := List.take_succ_eq_append_getElem hlj
        have hblen : (setBits l (ps.take j)).length = l.length := setBits_len _ _
        generalize ps[j] = p at *
        generalize hbs : setBits l (ps.take j) = bs at *
        have hBS := keep hbs
        have hPS := keep hps'
        clear hbs hps'
        obtain ⟨q, r, hpq, hr64⟩ : ∃ q r : Nat, p = 64 * (q : Int) + (r : Int) ∧ r < 64 := ⟨(p / 64).toNat, (p % 64).toNat, by omega, by omega⟩
        have hqn : q < l.length := by omega
        have hcg : wr.cell? ⟨g, q, none⟩ = some (.int .u64 (bs.getD q 0)) := by
          rw [hOwn.cellAt _ (by omega)]; simp [hblen, hqn]
        have hfg : wr.frozen? ⟨g, q, none⟩ = false := hOwn.frozenAt _
        have i2 : (0 : Int) ≤ (j : Int) := by omega
        have i3 : (j : Int) < (ps.length : Int) := by omega
        have i4 : (0 : Int) ≤ (q : Int) := by omega
        have i5 : (q : Int) < (l.length : Int) := by omega
        have i6 : (0 : Int) ≤ (r : Int) := by omega
        have i7 : (r : Int) < 64 := by omega
        have e1 : p.tdiv 64 = (q : Int) := by rw [Int.tdiv_eq_ediv_of_nonneg hpb.1]; omega
        have e2 : p.tmod 64 = (r : Int) := by rw [Int.tmod_eq_emod_of_nonneg hpb.1]; omega
        have e3 : IntKind.i64.wrap (q : Int) = q := IntWalk.i64_in _ (by omega)
        have hPQ := keep hpq
        clear hx3 hblen hpq hBr
        go_wp2_with fail
        go_still_tail 17, (by kernel_rfl)
        change wpList _ _ _ _ _ wr.drew
        clear e1 e2 e3
        go_wp2
        go_roundw
        case rel =>
          refine ⟨j + 1, by omega, by go_num, ?_, grownBy_drew (grownBy_set hgi _ _)⟩
          have hst := (hOwn.stored q (.int .u64 (bits .or .u64 (bs[q]?.getD 0) (IntKind.u64.wrap (2 ^ r))))).1
          have hpq := hPQ.out
          have e1 : (p / 64).toNat = q := by omega
          have e2 : (p % 64).toNat = r := by omega
          rw [hPS.out, setBits_snoc, hBS.out, setBit, orBit, e1, e2, List.map_set]
          exact hst.drew
        case measure => simp [intOf]; omega
      · obtain rfl : j = ps.length := by omega
        rw [List.take_length] at hOwn
        have hRr := hRc2.grown hgi (fun e => by injection e; omega)
        obtain ⟨x0, x1⟩ := hRr.cell2
        have f0 : wr.frozen? ⟨w.heap.size + 1, 0, none⟩ = false := hRr.frozen 0
        have f1 : wr.frozen? ⟨w.heap.size + 1, 1, none⟩ = false := hRr.frozen 1
        have hbf : Below w.heap.size w wr := below_grown hbw2 hgi hbw2.size (by omega)
        have hlen : (setBits l ps).length = l.length := setBits_len _ _
        have hfin : AddRes w k (setBits l ps) (.returned (.agg #[.int .i64 k, .slice (some ⟨g, 0, none⟩) l.length cp]))
            ((wr.setCell ⟨w.heap.size + 1, 0, none⟩ (.int .i64 k)).setCell ⟨w.heap.size + 1, 1, none⟩ (.slice (some ⟨g, 0, none⟩) l.length cp)) := by
          refine ⟨_, rfl, ?_, (hbf.setCell (by simp) _).setCell (by simp) _⟩
          rw [hlen]
          have h3 := ownsRow_setCell_below (ownsRow_setCell_below hOwn (a := ⟨w.heap.size + 1, 0, none⟩) (by simp; omega) (.int .i64 k)) (a := ⟨w.heap.size + 1, 1, none⟩) (by simp; omega) (.slice (some ⟨g, 0, none⟩) l.length cp)
          exact (Sl.of_own_btw h3).mono (fun b hb => ⟨by have := hb.1; omega, hb.2⟩)
        have HF := keep hfin
        clear hfin hlen hbf hOwn hRr hBr
        go_wp2_with fail
        refine bodyPost_ret (v := .agg #[.int .i64 k, .slice (some ⟨g, 0, none⟩) l.length cp]) (by simp [results, Try.results35, go_sem, x0, x1]) rfl HF.out
end Go.Proofs.Ytfainbgbeojcpaa
