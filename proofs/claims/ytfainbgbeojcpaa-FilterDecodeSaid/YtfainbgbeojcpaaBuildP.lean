/- The filter package's own Build: the method with, the clone of a set. -/
import Derived.Test.YtfainbgbeojcpaaUnion
import Derived.Test.YtfainbgbeojcpaaBuild
namespace Go.Proofs.Ytfainbgbeojcpaa
open Go.RowKit

theorem el62 : Elem Try.prog 62 67 1 8 (.int .u64 0) := ⟨Try.underlying62, by kernel_rfl, rfl, by decide⟩

theorem cloneSet_any (v : Value) (l : List Int) (w : World) (hs : Sl w (lt w.heap.size) 1 v l.length (l.map (.int .u64))) (h1 : 1 ≤ l.length) (h2 : l.length ≤ 100000) :
    Calls Try.prog 52 #[v] w fun e w' => ∃ v', e = .returned v' ∧ w'.ownsRow w.heap.size 67 1 v' l.length (l.map (.int .u64)) ∧ Below w.heap.size w w' := by
  obtain ⟨A, c, rfl, hc, hs⟩ := hs.form
  obtain ⟨b, o, rfl, hb, hrow⟩ := hs.row (by omega)
  have hn : ∀ W : World, (binOp .eql 62 (.slice (some ⟨b, o, none⟩) l.length c) (.slice none 0 0)).run Try.prog W = .ok (.bool false) W := fun W => Lib.run_eql_slice_nil W 62 67 _ _ _ _ _ Try.underlying62
  have hown := own_empty w 67 1
  have hs' := hs.below ((Below.refl _ w).alloc (Nat.le_refl _) (.cells #[] 67)) (Nat.le_refl _)
  go_enter Try.func52, Try.ntmps52
  go_wp2_with (refine wpList_appendS el62 rfl _ _ rfl w.heap.size _ _ _ rfl hown (lt w.heap.size) _ _ _ rfl hs' (oneCells _ (fun _ => rfl) _) (by unfold maxLen; omega) (by omega) (by simp) ?_; intro v' w' hown' hb' _)
  go_ret
  refine ⟨_, rfl, by simpa using hown', ((Below.refl _ w).alloc (Nat.le_refl _) _).trans hb'⟩

/-- What the method with leaves. -/
def WithRes (w : World) (l ps : List Int) (e : Ending) (w' : World) : Prop :=
  ∃ v, e = .returned v ∧ w'.ownsRow w.heap.size 67 1 v l.length ((setBits l ps).map (.int .u64)) ∧ Below w.heap.size w w'

set_option maxHeartbeats 1000000 in
theorem with_any (v vp : Value) (l ps : List Int) (w : World) (hs : Sl w (lt w.heap.size) 1 v l.length (l.map (.int .u64))) (hp : Sl w (lt w.heap.size) 1 vp ps.length (ps.map (.int .i64)))
    (h1 : 1 ≤ l.length) (h2 : l.length ≤ 1024) (hps : ps.length ≤ 100000) (hpb : ∀ p ∈ ps, 0 ≤ p ∧ p < 64 * l.length) :
    Calls Try.prog 44 #[v, vp] w (WithRes w l ps) := by
  obtain ⟨Ap, cp, rfl, hcp, hp⟩ := hp.form
  go_enter Try.func44, Try.ntmps44
  go_wp2_with fail
  refine (cloneSet_any _ l _ hs h1 (by omega)).mono ?_
  rintro e w1 ⟨v1, rfl, hown, hb1⟩
  obtain ⟨g, cap, rfl, hg1, hg2⟩ := hown.form (by omega)
  have hp1 := hp.below hb1 (Nat.le_refl _)
  have HPB := keep hpb
  clear hs hp hpb
  go_wp2_with fail
  go_loopw [6, 11] (fun _ i wr => ∃ k : Nat, k ≤ ps.length ∧ i = .int .i64 k ∧ wr.ownsRow w.heap.size 67 1 (.slice (some ⟨g, 0, none⟩) l.length cap) l.length ((setBits l (ps.take k)).map (.int .u64)) ∧ w1.grownBy wr (some g)) (fun _ i _ => ps.length - (intOf i).toNat)
  case atStart => exact ⟨0, Nat.zero_le _, rfl, by simpa [setBits] using hown, World.grownBy.refl _ _⟩
  case round =>
    obtain ⟨k, hk, rfl, hOwn, hgr⟩ := hrel
    clear hown
    by_cases hlt : k < ps.length
    · obtain ⟨b3, o3, u3, rfl, hb3, hx3, hc3⟩ := (hp1.grown hgr (fun b hb => ⟨by have hb' : b < w.heap.size := hb; have := hb1.size; omega, fun e => by have hb' : b < w.heap.size := hb; injection e; omega⟩)).at_ hlt
      have hu : u3 = .int .i64 ps[k] := by simpa [hlt] using hx3.symm
      subst hu
      have hpb := HPB.out ps[k] (List.getElem_mem _)
      have hps' : ps.take (k + 1) = ps.take k ++ [ps[k]] := List.take_succ_eq_append_getElem hlt
      have hblen : (setBits l (ps.take k)).length = l.length := setBits_len _ _
      generalize ps[k] = p at *
      generalize hbs : setBits l (ps.take k) = bs at *
      have hBS := keep hbs
      have hPS := keep hps'
      clear hbs hps'
      obtain ⟨q, r, hpq, hr64⟩ : ∃ q r : Nat, p = 64 * (q : Int) + (r : Int) ∧ r < 64 := ⟨(p / 64).toNat, (p % 64).toNat, by omega, by omega⟩
      have hqn : q < l.length := by omega
      have hcg : wr.cell? ⟨g, q, none⟩ = some (.int .u64 (bs.getD q 0)) := by
        rw [hOwn.cellAt _ (by omega)]; simp [hblen, hqn]
      have hfg : wr.frozen? ⟨g, q, none⟩ = false := hOwn.frozenAt _
      have i2 : (0 : Int) ≤ (k : Int) := by omega
      have i3 : (k : Int) < (ps.length : Int) := by omega
      have i4 : (0 : Int) ≤ (q : Int) := by omega
      have i5 : (q : Int) < (l.length : Int) := by omega
      have i6 : (0 : Int) ≤ (r : Int) := by omega
      have i7 : (r : Int) < 64 := by omega
      have e1 : p.tdiv 64 = (q : Int) := by rw [Int.tdiv_eq_ediv_of_nonneg hpb.1]; omega
      have e2 : p.tmod 64 = (r : Int) := by rw [Int.tmod_eq_emod_of_nonneg hpb.1]; omega
      have e3 : IntKind.i64.wrap (q : Int) = q := IntWalk.i64_in _ (by omega)
      have hBL := keep hblen
      have hPQ := keep hpq
      clear hx3 hblen hpq
      go_wp2_with fail
      go_still_tail 10, (by kernel_rfl)
      change wpList _ _ _ _ _ wr.drew
      clear e1 e2 e3
      go_wp2
      go_roundw
      case rel =>
        refine ⟨k + 1, by omega, by go_num, ?_, grownBy_drew (grownBy_set hgr _ _)⟩
        have hst := (hOwn.stored q (.int .u64 (bits .or .u64 (bs[q]?.getD 0) (IntKind.u64.wrap (2 ^ r))))).1
        have hpq := hPQ.out
        have e1 : (p / 64).toNat = q := by omega
        have e2 : (p % 64).toNat = r := by omega
        rw [hPS.out, setBits_snoc, hBS.out, setBit, orBit, e1, e2, List.map_set]
        exact hst.drew
      case measure => simp [intOf]; omega
    · obtain rfl : k = ps.length := by omega
      rw [List.take_length] at hOwn
      have hbf : Below w.heap.size w wr := below_grown hb1 hgr hb1.size hg1
      go_wp2
      go_ret
      exact ⟨_, rfl, hOwn, hbf⟩

theorem own_below {w w' : World} {base e size n : Nat} {v : Value} {xs : List Value} (h : w.ownsRow base e size v n xs) (hb : Below w.heap.size w w') : w'.ownsRow base e size v n xs :=
  h.kept (grownBy_of_below hb none) (by cases hv : v.ownBlock <;> simp)
theorem setBits_append (bs a b : List Int) : setBits bs (a ++ b) = setBits (setBits bs a) b := by simp [setBits]
/-- All positions of some words. -/
def allPos (n k : Nat) (l : List ByteArray) : List Int := l.flatMap fun s => poss s k n
theorem allPos_len (n k : Nat) (l : List ByteArray) : (allPos n k l).length = k * l.length := by
  induction l with
  | nil => simp [allPos]
  | cons s l ih => simp only [allPos, List.flatMap_cons, List.length_append, poss_len] at ih ⊢; rw [ih, List.length_cons, Nat.mul_add]; omega
theorem allPos_succ (n k : Nat) (l : List ByteArray) (j : Nat) (h : j < l.length) : allPos n k (l.take (j + 1)) = allPos n k (l.take j) ++ poss l[j] k n := by
  rw [take_succ_map l j h, allPos, List.flatMap_append]; simp [allPos]
theorem built_all (n k : Nat) (l : List ByteArray) : built n k l = setBits (zeros n) (allPos n k l) := by
  suffices h : ∀ bs : List Int, l.foldl (fun bs s => setBits bs (poss s k n)) bs = setBits bs (allPos n k l) by exact h _
  induction l with
  | nil => intro bs; rfl
  | cons s l ih =>
    intro bs
    rw [List.foldl_cons, ih]
    simp only [allPos, List.flatMap_cons]
    rw [setBits_append]
theorem allPos_bd (n k : Nat) (l : List ByteArray) (hn : 1 ≤ n) : ∀ p ∈ allPos n k l, 0 ≤ p ∧ p < 64 * n := by
  intro p hp
  simp only [allPos, List.mem_flatMap, poss, List.mem_map] at hp
  obtain ⟨s, _, i, _, rfl⟩ := hp
  exact pos_bd _ _ _ _ hn

set_option maxHeartbeats 2000000 in
theorem build_ok (v : Value) (l : List ByteArray) (pw : Int) (w : World) (hs : Sl w (lt w.heap.size) 1 v l.length (l.map .string)) (hl : l.length ≤ 1000) (hll : ∀ s ∈ l, s.size ≤ maxLen) (h1 : 1 ≤ pw) (h2 : pw ≤ 64) :
    Calls Try.prog 24 #[v, .int .i64 pw] w (BuildRes w l pw) := by
  obtain ⟨A, c, rfl, hc, hs⟩ := hs.form
  have a1 : decide (pw < 1) = false := by simp; omega
  have a2 : decide (64 < pw) = false := by simp; omega
  obtain ⟨p1, p2⟩ := bprod_bd l.length pw hl h1 h2
  have hM : (if (l.length : Int) < 1 then (1 : Int) else l.length) = bmax l.length := by unfold bmax; split <;> split <;> omega
  obtain ⟨n1, n2⟩ := fwords_bd p1 (by omega)
  have HLL := keep hll
  clear hll
  go_enter Try.func24, Try.ntmps24
  go_wp2_with fail
  refine (new_ok _ _ _ p1 (by omega) (by omega) (by omega)).mono ?_
  rintro e w1 ⟨g, rfl, hown, hb⟩
  clear hM
  generalize hFW : fwords (bmax l.length * pw) = n at *
  have hFw := keep hFW
  clear hFW
  simp only [World.size_alloc] at hown
  obtain ⟨hg0, hg1⟩ := hown.lt g rfl
  have hB4 : Blk w1 w.heap.size 27 #[.int .i64 0, .slice none 0 0] := (Blk.new w 27 _).below hb (by simp)
  have hbw : Below w.heap.size w w1 := ((Below.refl _ w).alloc (Nat.le_refl _) _).trans (hb.mono (by simp))
  go_wp2_with fail
  obtain ⟨W1, hW1⟩ : ∃ W1, W1 = w1.alloc (.cells #[.int .i64 3, .slice (some ⟨g, 0, none⟩) n n] 27) := ⟨_, rfl⟩
  rw [← hW1]
  have hBox : Blk W1 w1.heap.size 27 #[.int .i64 3, .slice (some ⟨g, 0, none⟩) n n] := hW1 ▸ Blk.new _ _ _
  have hRes : Blk W1 w.heap.size 27 #[.int .i64 0, .slice none 0 0] := hW1 ▸ hB4.alloc _
  have hZ : Sl W1 (btw (w.heap.size + 1) W1.heap.size) 1 (.slice (some ⟨g, 0, none⟩) n n) n ((zeros n).map (.int .u64)) := by
    subst hW1
    have := Sl.of_own_btw (hown.alloc (.cells #[.int .i64 3, .slice (some ⟨g, 0, none⟩) n n] 27))
    simpa [zeros] using this
  have hbW : Below w.heap.size w W1 := hW1 ▸ hbw.alloc hbw.size _
  have hSW := hs.below hbW (Nat.le_refl _)
  have hz1 : W1.heap.size = w1.heap.size + 1 := by rw [hW1]; simp
  have hzw : w.heap.size < w1.heap.size := hB4.lt
  have hz1' : w1.heap.size < W1.heap.size := by omega
  have hz1'' : W1.heap.size ≤ w1.heap.size + 1 := by omega
  clear hW1 hown hB4 hbw hb hs hz1
  go_loopw [8, 10, 30] (fun v _ i wr => ∃ k : Nat, k ≤ l.length ∧ i = .int .i64 k ∧ wr.ownsRow W1.heap.size 3 1 v (3 * k) ((allPos n 3 (l.take k)).map (.int .i64)) ∧ Below W1.heap.size W1 wr) (fun _ _ i _ => l.length - (intOf i).toNat)
  case atStart => exact ⟨0, Nat.zero_le _, rfl, World.ownsRow_nil _ _ _ _, Below.refl _ _⟩
  case round =>
    obtain ⟨k, hk, rfl, hOwn, hbr⟩ := hrel
    obtain ⟨wo, rfl⟩ : ∃ wo : World, wo = wr := ⟨_, rfl⟩
    have hBox' := hBox.below hbr hz1'
    obtain ⟨q0, q1⟩ := hBox'.cell2
    have hzr := hbr.size
    by_cases hlt : k < l.length
    · obtain ⟨b1, o1, u1, rfl, hb1, hx1, hc1⟩ := (hSW.below hbr (by omega)).at_ hlt
      have hu : u1 = .string l[k] := by simpa [hlt] using hx1.symm
      subst hu
      have hsk : l[k].size ≤ maxLen := HLL.out _ (List.getElem_mem _)
      have i1 : (k : Int) < (l.length : Int) := by omega
      have hal := keep (allPos_succ n 3 l k hlt)
      clear hx1 hBox'
      go_wp2_with fail
      refine (positions_any 3 _ _ _ _ _ hsk (by omega) n1 n2).mono ?_
      rintro e w2 ⟨v2, rfl, hown2, hb2⟩
      replace hOwn := own_below hOwn hb2
      have hbn := hbr.trans (hb2.mono hzr)
      have hSp := Sl.of_own hown2
      clear hown2 q0 q1
      go_wp2_with (refine wpList_appendS el31 rfl _ _ rfl W1.heap.size _ _ _ rfl hOwn _ _ _ _ rfl hSp (oneCells _ (fun _ => rfl) _) (by unfold maxLen; omega) (by omega) hbn.size ?_; intro v3 w3 hown3 hb3 _)
      go_roundw
      case rel =>
        refine ⟨k + 1, by omega, by go_num, ?_, hbn.trans hb3⟩
        rw [hal.out, List.map_append, show 3 * (k + 1) = 3 * k + 3 by omega]
        exact hown3
      case measure => simp [intOf]; omega
    · obtain rfl : k = l.length := by omega
      rw [List.take_length] at hOwn
      have hln := allPos_len n 3 l
      have hSp := Sl.of_own hOwn
      rw [← hln] at hSp
      have hSz : Sl wo (lt wo.heap.size) 1 (.slice (some ⟨g, 0, none⟩) n n) (zeros n).length ((zeros n).map (.int .u64)) := by
        have := (hZ.under hbr (fun b hb => hb.2)).mono (S' := lt wo.heap.size) (fun b hb => Nat.lt_of_lt_of_le hb.2 hzr)
        simpa [zeros] using this
      have hzl : (zeros n).length = n := by simp [zeros]
      have HZL := keep hzl
      have hRes' := hRes.below hbr (by omega)
      have hzn1 : 1 ≤ (zeros n).length := by rw [HZL.out]; exact n1
      have hzn2 : (zeros n).length ≤ 1024 := by rw [HZL.out]; exact n2
      have hpl : (allPos n 3 l).length ≤ 100000 := by rw [hln]; omega
      have HPB := keep (allPos_bd n 3 l n1)
      clear hln hzl hOwn
      go_wp2_with fail
      refine (with_any _ _ (zeros n) (allPos n 3 l) _ hSz hSp hzn1 hzn2 hpl (by rw [HZL.out]; exact HPB.out)).mono ?_
      rintro e w2 ⟨v2, rfl, hown2, hb2⟩
      have hBox2 := hBox'.below hb2 (by omega)
      have hRes2 := hRes'.below hb2 (by omega)
      obtain ⟨q2, q3⟩ := hBox2.cell2
      obtain ⟨q4, q5⟩ := hRes2.cell2
      have f0 : w2.frozen? ⟨w1.heap.size, 1, none⟩ = false := hBox2.frozen 1
      have f1 : w2.frozen? ⟨w.heap.size, 0, none⟩ = false := hRes2.frozen 0
      have f2 : w2.frozen? ⟨w.heap.size, 1, none⟩ = false := hRes2.frozen 1
      have hbf : Below w.heap.size w w2 := (hbW.trans (hbr.mono (by omega))).trans (hb2.mono (by omega))
      obtain ⟨g2, cap2, rfl, hg21, hg22⟩ := hown2.form (by omega)
      clear q0 q1
      go_wp2_with fail
      refine bodyPost_ret (v := .tuple #[.agg #[.int .i64 3, .slice (some ⟨g2, 0, none⟩) (zeros n).length cap2], .int .i64 0]) (by simp [results, Try.results24, go_sem, q4, q5]) rfl ⟨_, rfl, ?_, ?_⟩
      · rw [hFw.out, built_all]
        have h0 := own_base hown2 (base' := w1.heap.size + 1) (by omega)
        have h3 := ownsRow_setCell_below (ownsRow_setCell_below (ownsRow_setCell_below h0 (a := ⟨w1.heap.size, 1, none⟩) (by simp) (.slice (some ⟨g2, 0, none⟩) (zeros n).length cap2)) (a := ⟨w.heap.size, 0, none⟩) (by simp; omega) (.int .i64 3)) (a := ⟨w.heap.size, 1, none⟩) (by simp; omega) (.slice (some ⟨g2, 0, none⟩) (zeros n).length cap2)
        have h4 := own_base h3 (base' := w.heap.size) (by omega)
        have hz := HZL.out
        rw [hz] at h4 ⊢
        exact h4
      · exact ((hbf.setCell (by simp; omega) _).setCell (by simp) _).setCell (by simp) _
end Go.Proofs.Ytfainbgbeojcpaa
