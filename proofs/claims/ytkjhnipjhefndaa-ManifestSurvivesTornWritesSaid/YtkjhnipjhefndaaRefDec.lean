/- The contract of logtideref30.Decode. -/
import Derived.Test.YtkjhnipjhefndaaDecA
import Derived.Test.YtkjhnipjhefndaaRefGet
import Derived.Test.YtkjhnipjhefndaaRefReadT
import Derived.Test.YtkjhnipjhefndaaRefEnc
namespace Go.Proofs.Ytkjhnipjhefndaa
open Go.RowKit

abbrev J1 := Int × Nat × Bool
abbrev rx (l : List UInt8) (a : J1) : J1 := rIntS l a.2.1 a.2.2
def rSegOf (l : List UInt8) (a : J1) : Seg × Nat × Bool := (⟨a.1, (rx l a).1, (rx l (rx l a)).1, (rx l (rx l (rx l a))).1, (rx l (rx l (rx l (rx l a)))).1, (rx l (rx l (rx l (rx l (rx l a))))).1, (rx l (rx l (rx l (rx l (rx l (rx l a)))))).1⟩, (rx l (rx l (rx l (rx l (rx l (rx l a)))))).2)
def rSegS (l : List UInt8) (p : Nat) (ok : Bool) : Seg × Nat × Bool := rSegOf l (rIntS l p ok)
def rMkOf (l : List UInt8) (a : J1) : Mk × Nat × Bool := (⟨a.1, (rx l a).1, (rx l (rx l a)).1⟩, (rx l (rx l a)).2)
def rMkS (l : List UInt8) (p : Nat) (ok : Bool) : Mk × Nat × Bool := rMkOf l (rIntS l p ok)
theorem rSegS_step {l : List UInt8} {p : Nat} {ok : Bool} {a0 a1 a2 a3 a4 a5 a6 : J1} (h0 : rIntS l p ok = a0) (h1 : rIntS l a0.2.1 a0.2.2 = a1) (h2 : rIntS l a1.2.1 a1.2.2 = a2) (h3 : rIntS l a2.2.1 a2.2.2 = a3) (h4 : rIntS l a3.2.1 a3.2.2 = a4) (h5 : rIntS l a4.2.1 a4.2.2 = a5) (h6 : rIntS l a5.2.1 a5.2.2 = a6) :
    rSegS l p ok = (⟨a0.1, a1.1, a2.1, a3.1, a4.1, a5.1, a6.1⟩, a6.2) := by
  subst h6 h5 h4 h3 h2 h1 h0
  rfl
theorem rMkS_step {l : List UInt8} {p : Nat} {ok : Bool} {a0 a1 a2 : J1} (h0 : rIntS l p ok = a0) (h1 : rIntS l a0.2.1 a0.2.2 = a1) (h2 : rIntS l a1.2.1 a1.2.2 = a2) : rMkS l p ok = (⟨a0.1, a1.1, a2.1⟩, a2.2) := by
  subst h2 h1 h0
  rfl
/-- What the reference's Decode reads. -/
structure RParsed (l : List UInt8) (m : Man) (ok : Bool) : Prop where
  out : ∃ (a1 a2 a3 : J1) (c : Nat × Nat × Bool) (s : List Seg × Nat × Bool) (d : Nat × Nat × Bool) (k : List Mk × Nat × Bool) (t e : List Tl × Nat × Bool),
    rIntS l 4 true = a1 ∧ rIntS l a1.2.1 a1.2.2 = a2 ∧ rIntS l a2.2.1 a2.2.2 = a3 ∧ rCountS l a3.2.1 a3.2.2 = c ∧ rManyS (rSegS l) c.1 c.2.1 c.2.2 = s ∧ rCountS l s.2.1 s.2.2 = d ∧ rManyS (rMkS l) d.1 d.2.1 d.2.2 = k ∧ rTalsS l k.2.1 k.2.2 = t ∧ rTalsS l t.2.1 t.2.2 = e ∧
      m = ⟨a1.1, a2.1, a3.1, s.1, k.1, t.1, e.1⟩ ∧ ok = e.2.2
theorem rTalS_rule (l : List UInt8) (p : Nat) (ok : Bool) (hp : p ≤ l.length) : (rTalS l p ok).1.rule.size ≤ l.length := by
  have h2 := (rTextS_le l (rIntS l p ok).2.1 (rIntS l p ok).2.2 (rIntS_le l p ok hp)).1
  have e : (rTalS l p ok).1.rule.size = (rTextS l (rIntS l p ok).2.1 (rIntS l p ok).2.2).1.length := by
    unfold rTalS rTalOf
    show (⟨(rTextS l (rIntS l p ok).2.1 (rIntS l p ok).2.2).1.toArray⟩ : ByteArray).data.size = _
    simp
  omega
theorem rmany_rule (l : List UInt8) : ∀ (n p : Nat) (ok : Bool), p ≤ l.length → ∀ x ∈ (rManyS (rTalS l) n p ok).1, x.rule.size ≤ l.length
  | 0, p, ok, _, x, h => by simp [rManyS] at h
  | n + 1, p, ok, hp, x, h => by
    rw [rManyS] at h
    split at h
    · simp only [List.mem_cons] at h
      rcases h with rfl | h
      · exact rTalS_rule l p ok hp
      · exact rmany_rule l n _ _ (rTalS_le l p ok hp) x h
    · simp at h
theorem rTalsS_rule (l : List UInt8) (p : Nat) (ok : Bool) (hp : p ≤ l.length) : ∀ x ∈ (rTalsS l p ok).1, x.rule.size ≤ l.length :=
  rmany_rule l _ _ _ (rCountS_le l p ok hp).2
def RDecd (b : List UInt8) (m : Man) (er : Int) : Prop :=
  (b.length < 8 ∧ m = manZero ∧ er = 14) ∨ (8 ≤ b.length ∧ crcB (crc (body b)) ≠ tail4 b ∧ m = manZero ∧ er = 15) ∨
    (8 ≤ b.length ∧ crcB (crc (body b)) = tail4 b ∧ ∃ m' ok, RParsed (body b) m' ok ∧ ((Fits b m' (!ok) ∧ m = m' ∧ er = 0) ∨ (¬ Fits b m' (!ok) ∧ m = manZero ∧ er = 22)))
def RDecOut (w : World) (b : List UInt8) (e : Ending) (w' : World) : Prop := ∃ m er, RDecd b m er ∧ DecRes w m er e w'
theorem rdec_err {w w1 : World} {b : List UInt8} {p : Nat} {er : Int} (hp : w.heap.size ≤ p) (hd : RDecd b manZero er) (hb : Below w.heap.size w w1) (y0 y1 y2 y3 y4 y5 y6 : Value) :
    RDecOut w b (.returned (.tuple #[.agg manZ7, .int .i64 er])) (put7 w1 p y0 y1 y2 y3 y4 y5 y6) := by
  refine ⟨manZero, er, hd, .slice none 0 0, .slice none 0 0, .slice none 0 0, .slice none 0 0, rfl, lies_zero _ _, ?_⟩
  exact below_grown hb (put7_grown w1 p y0 y1 y2 y3 y4 y5 y6) hb.size hp
section
variable {wr w' : World} {p gm gr base base2 : Nat} {nu nx jo : Int} {vS vM v' : Value} {ls : List Seg} {lm : List Mk}
theorem Dc.put2 (h : Dc wr p gm gr base nu nx jo vS ls) (o : Ord3 p gm gr base) (x : Seg) (hb : Below base wr w') (hw : w'.ownsRow base 46 7 v' (ls.length + 1) (ls.flatMap Seg.vals ++ x.vals)) :
    Dc (w'.setCell ⟨gm, 3, none⟩ v') p gm gr base nu nx jo v' (ls ++ [x]) := by
  have hg : w'.grownBy (w'.setCell ⟨gm, 3, none⟩ v') (some gm) := grownBy_set (World.grownBy.refl _ _) _ _
  have h1 := o.a
  have h2 := o.b
  have h3 := o.c
  refine ⟨(h.bp.below hb (by omega)).grown hg (fun e => by injection e; omega), (h.bm.below hb h3).set_ 3 _, ?_, ?_⟩
  · rw [List.length_append, List.flatMap_append]
    have := own_grown hw hg h3
    simpa using this
  · have := hb.size
    have := h.z
    have := hg.size
    omega
end
set_option maxHeartbeats 8000000 in
set_option maxRecDepth 100000 in
theorem refDecode_any (v : Value) (b : List UInt8) (w : World) (hv : BSl w (lt w.heap.size) v b) (hm : b.length ≤ 1000000) :
    Calls Try.prog 25 #[v] w (RDecOut w b) := by
  have hv' : Sl w (lt w.heap.size) 1 v b.length (b.map ub) := hv
  obtain ⟨A, c, rfl, hc, hs⟩ := hv'.form
  clear hv'
  obtain ⟨W, hW⟩ : ∃ W, W = w.alloc (.cells manZ7 28) := ⟨_, rfl⟩
  have hba : Below w.heap.size w W := by rw [hW]; exact (Below.refl _ _).alloc (Nat.le_refl _) _
  obtain ⟨p, hp⟩ : ∃ g, g = w.heap.size := ⟨_, rfl⟩
  have hP : Blk W p 28 manZ7 := by rw [hW, hp]; exact Blk.new _ _ _
  have HP := keep hp
  by_cases h8 : b.length < 8
  · have hD : RDecd b manZero 14 := .inl ⟨h8, rfl, rfl⟩
    have HF := keep (rdec_err (p := p) (by omega) hD hba (.int .i64 0) (.int .i64 0) (.int .i64 0) (.slice none 0 0) (.slice none 0 0) (.slice none 0 0) (.slice none 0 0))
    have gl : (b.length : Int) < 8 := by omega
    obtain ⟨y0, y1, y2, y3, y4, y5, y6⟩ := (put7_blk hP (.int .i64 0) (.int .i64 0) (.int .i64 0) (.slice none 0 0) (.slice none 0 0) (.slice none 0 0) (.slice none 0 0)).cell7
    obtain ⟨e0, e1, e2, e3, e4, e5, e6⟩ := hP.cell7
    have g0 := hP.frozen 0
    have g1 := hP.frozen 1
    have g2 := hP.frozen 2
    have g3 := hP.frozen 3
    have g4 := hP.frozen 4
    have g5 := hP.frozen 5
    have g6 := hP.frozen 6
    go_enter Try.func25, Try.ntmps25
    go_upto_region 1 with fail
    rw [← hW, ← hp]
    clear hW hp
    go_wp2_with fail
    refine bodyPost_ret (v := .tuple #[.agg manZ7, .int .i64 14]) (by simp [results, Try.results25, go_sem, y0, y1, y2, y3, y4, y5, y6]) rfl ?_
    exact HF.out
  · obtain ⟨n4, hn4⟩ : ∃ n4, b.length = n4 + 4 := ⟨b.length - 4, by omega⟩
    obtain ⟨bb, o, rfl, hbb, _⟩ := hs.row (by omega)
    have hbb' : bb < w.heap.size := hbb
    have hbody : body b = b.take n4 := by unfold body; congr 1; omega
    have htail : tail4 b = b.drop n4 := by unfold tail4; congr 1; omega
    have hs1 : Hid (∀ wa, Below w.heap.size w wa → BSl wa (lt w.heap.size) (.slice (some ⟨bb, o, none⟩) n4 c) (body b) ∧ BSl wa (lt w.heap.size) (.slice (some ⟨bb, o + n4, none⟩) (b.length - n4) (c - n4)) (tail4 b) ∧
        BSl wa (lt w.heap.size) (.slice (some ⟨bb, o, none⟩) b.length c) b) := fun wa hwa => by
      have hsa := hs.below hwa (Nat.le_refl _)
      have t1 : BSl wa (lt w.heap.size) (.slice (some ⟨bb, o, none⟩) n4 c) (body b) := by
        have := hsa.take (k := n4) (by omega)
        unfold BSl
        rw [Nat.mul_one] at this
        rw [hbody, List.map_take, show (b.take n4).length = n4 by simp; omega]
        exact this
      refine ⟨t1, ?_, hsa⟩
      have := hsa.tail2 (k := n4) (by omega) (by omega)
      unfold BSl
      rw [htail, List.map_drop, List.length_drop]
      exact this
    have hlbE : (body b).length = n4 := by rw [hbody]; simp; omega
    have hlb : Hid ((body b).length ≤ maxLen) := keep (by rw [hlbE]; unfold maxLen; omega)
    have hlb2 : Hid ((body b).length ≤ 1000000) := keep (by rw [hlbE]; omega)
    have hlb4 : Hid (4 ≤ (body b).length) := keep (by rw [hlbE]; omega)
    have hlt4 : Hid ((tail4 b).length = 4) := keep (by rw [htail, List.length_drop]; omega)
    have hmb : Hid (b.length ≤ 1000000) := keep hm
    have i0 : (b.length : Int) - 4 = (n4 : Int) := by omega
    have i1 : (n4 : Int) ≤ (b.length : Int) := by omega
    have i2 : (n4 : Int) ≤ (c : Int) := by omega
    have i3 : (4 : Int) ≤ (n4 : Int) := by omega
    have i4 : ¬ (b.length : Int) < 8 := by omega
    have i5 : ¬ c = n4 := by omega
    obtain ⟨q, hq⟩ : ∃ q, decide (crcB (crc (body b)) = tail4 b) = q := ⟨_, rfl⟩
    have HQ : CrcQ b q := ⟨hq⟩
    have hne : ((getN (tail4 b) : Int) != (crc (body b) : Int)) = !q := by rw [getN4_ne _ _ hlt4.out (crc_lt _), hq]
    have HN4 := keep hn4
    have H8 := keep h8
    have hbd : ∀ n, Below w.heap.size w (W.drewN n) := fun n => ⟨hba.os, hba.tape, hba.output, hba.size, hba.block⟩
    have hg1 := fun n => (get_any _ (tail4 b) _ (W.drewN n) (hs1.out _ (hbd n)).2.1 (by rw [hlt4.out]; omega)).mono (R' := fun e w' => e = .returned (.int .u64 (getN (tail4 b))) ∧ w' = W.drewN n) (fun _ _ hh => ⟨hh.1, hh.2.symm⟩)
    have hg2 := fun n => (refCrc_any _ (body b) _ (W.drewN n) (hs1.out _ (hbd n)).1 hlb.out).mono (R' := fun e w' => e = .returned (.int .u32 (crc (body b))) ∧ w' = W.drewN n) (fun _ _ hh => ⟨hh.1, hh.2.symm⟩)
    have hPd : ∀ n, Blk (W.drewN n) p 28 manZ7 := fun n => hP
    have HBD := keep hbd
    have HPD := keep hPd
    have hcl := crc_lt (body b)
    clear hq hbody htail hn4 h8 hs hlbE hbd hPd
    generalize getN (tail4 b) = gN at *
    generalize crc (body b) = cN at *
    have i7 : IntKind.u64.wrap (cN : Int) = (cN : Int) := by simp [IntKind.wrap, IntKind.bits, IntKind.signed]; omega
    have hW2 := hW
    go_enter Try.func25, Try.ntmps25
    go_upto_region 4 with fail
    rw [← hW, ← hp]
    clear hW hp hW2
    go_quiet ((first | (go_at_call 63; exact Calls.quiet_of_same (hg1 _)) | (go_at_call 52; exact Calls.quiet_of_same (hg2 _))))
    obtain ⟨w1, hw1⟩ : ∃ w1, w1 = W.drewN nq := ⟨_, rfl⟩
    have hbw1 := HBD.out nq
    have hP1 := HPD.out nq
    rw [← hw1] at hbw1 hP1 ⊢
    clear hw1 HBD HPD hg1 hg2 hP hba hne hcl i7
    cases q with
    | false =>
      have hnq : crcB (crc (body b)) ≠ tail4 b := of_decide_eq_false HQ.e
      have hD : RDecd b manZero 15 := .inr (.inl ⟨by have := H8.out; omega, hnq, rfl, rfl⟩)
      have HF := keep (rdec_err (p := p) (by have := HP.out; omega) hD hbw1 (.int .i64 0) (.int .i64 0) (.int .i64 0) (.slice none 0 0) (.slice none 0 0) (.slice none 0 0) (.slice none 0 0))
      clear hnq hD
      simp only [Bool.not_false]
      obtain ⟨y0, y1, y2, y3, y4, y5, y6⟩ := (put7_blk hP1 (.int .i64 0) (.int .i64 0) (.int .i64 0) (.slice none 0 0) (.slice none 0 0) (.slice none 0 0) (.slice none 0 0)).cell7
      obtain ⟨e0, e1, e2, e3, e4, e5, e6⟩ := hP1.cell7
      have g0 := hP1.frozen 0
      have g1 := hP1.frozen 1
      have g2 := hP1.frozen 2
      have g3 := hP1.frozen 3
      have g4 := hP1.frozen 4
      have g5 := hP1.frozen 5
      have g6 := hP1.frozen 6
      go_wp2_with fail
      refine bodyPost_ret (v := .tuple #[.agg manZ7, .int .i64 15]) (by simp [results, Try.results25, go_sem, y0, y1, y2, y3, y4, y5, y6]) rfl ?_
      exact HF.out
    | true =>
      simp only [Bool.not_true]
      go_upto_region 7 with fail
      obtain ⟨W3, hW3⟩ : ∃ W3, W3 = w1.alloc (.cells #[.slice (some ⟨bb, o, none⟩) n4 c, .int .i64 4, .bool true] 108) := ⟨_, rfl⟩
      obtain ⟨gr, hgr⟩ : ∃ gr, gr = w1.heap.size := ⟨_, rfl⟩
      rw [← hW3, ← hgr]
      have hb13 : Below w1.heap.size w1 W3 := by rw [hW3]; exact (Below.refl _ _).alloc (Nat.le_refl _) _
      have hbw3 := bchain hbw1 hb13
      obtain ⟨vB, hvB⟩ : ∃ vB, vB = Value.slice (some ⟨bb, o, none⟩) n4 c := ⟨_, rfl⟩
      have hR3 : Rr W3 w.heap.size gr vB (body b) 4 true := ⟨by rw [hW3, hgr, hvB]; exact Blk.new _ _ _, by rw [hvB]; exact (hs1.out _ hbw3).1, by have := hbw1.size; omega, hlb4.out⟩
      have hP3 := hP1.below hb13 hP1.lt
      have hgrp : p < gr := by have := hP1.lt; omega
      have hgrw : w.heap.size ≤ gr := by have := hbw1.size; omega
      have HGR := keep hgrw
      clear hW3 hgr hb13 hbw1 hP1 hvB
      go_wp2_with fail
      refine (rrint_ex w.heap.size gr _ _ _ _ _ hR3 hlb2.out).mono ?_
      rintro e w4 ⟨x1, hx1, rfl, hR4, hg4⟩
      have hbw4 := below_grown hbw3 hg4 hbw3.size hgrw
      have hP4 := hP3.grown hg4 (fun e => by injection e; omega)
      clear hR3 hg4 hbw3 hP3
      go_wp2_with fail
      refine (rrint_ex w.heap.size gr _ _ _ _ _ hR4 hlb2.out).mono ?_
      rintro e w5 ⟨x2, hx2, rfl, hR5, hg5⟩
      have hbw5 := below_grown hbw4 hg5 hbw4.size hgrw
      have hP5 := hP4.grown hg5 (fun e => by injection e; omega)
      clear hR4 hg5 hbw4 hP4
      go_wp2_with fail
      refine (rrint_ex w.heap.size gr _ _ _ _ _ hR5 hlb2.out).mono ?_
      rintro e w6 ⟨x3, hx3, rfl, hR6, hg6⟩
      have hbw6 := below_grown hbw5 hg6 hbw5.size hgrw
      have hP6 := hP5.grown hg6 (fun e => by injection e; omega)
      clear hR5 hg6 hbw5 hP5
      go_upto_region 8 with fail
      obtain ⟨W7, hW7⟩ : ∃ W7, W7 = w6.alloc (.cells #[.int .i64 x1.1, .int .i64 x2.1, .int .i64 x3.1, .slice none 0 0, .slice none 0 0, .slice none 0 0, .slice none 0 0] 28) := ⟨_, rfl⟩
      obtain ⟨gm, hgm⟩ : ∃ gm, gm = w6.heap.size := ⟨_, rfl⟩
      rw [← hW7, ← hgm]
      have hb67 : Below w6.heap.size w6 W7 := by rw [hW7]; exact (Below.refl _ _).alloc (Nat.le_refl _) _
      have hgr6 := hR6.b.lt
      have hbw7 := bchain hbw6 hb67
      have hR7 := hR6.below hb67 hgr6
      have hO : Ord3 p gm gr W7.heap.size := ⟨hgrp, by omega, by rw [hW7, hgm]; simp⟩
      have hG7 : Dc W7 p gm gr W7.heap.size x1.1 x2.1 x3.1 (.slice none 0 0) [] := ⟨hP6.below hb67 hP6.lt, by rw [hW7, hgm]; exact Blk.new _ _ _, World.ownsRow_nil _ _ _ _, Nat.le_refl _⟩
      clear hW7 hgm hb67 hbw6 hR6 hP6 hgr6 hgrp
      go_wp2_with fail
      refine (rrcount_ex w.heap.size gr _ _ _ _ _ hR7 hlb2.out).mono ?_
      rintro e w8 ⟨cn, hcn, rfl, hR8, hg8⟩
      have hc1 := (rCountS_le (body b) x3.2.1 x3.2.2 hR7.p).1
      rw [hcn.out] at hc1
      have HC1 := keep (Nat.le_trans hc1 hlb2.out)
      have hG8 := hG7.keepR hO hg8
      have hbw8 := below_grown hbw7 hg8 hbw7.size hgrw
      clear hR7 hg8 hG7 hbw7 hc1
      obtain ⟨base, hbase⟩ : ∃ base, base = W7.heap.size := ⟨_, rfl⟩
      rw [← hbase] at hO hG8
      clear hbase
      go_upto_block 0 with (fail)
      go_cut [7, 8] (fun _ _ wr => ∃ (acc : List Seg) (p' : Nat) (b' : Bool) (vS : Value), Hid ((acc, p', b') = rManyS (rSegS (body b)) cn.1 cn.2.1 cn.2.2) ∧ Rr wr w.heap.size gr vB (body b) p' b' ∧ Dc wr p gm gr base x1.1 x2.1 x3.1 vS acc ∧ Below w.heap.size w wr)
      case first =>
        go_wp2_with fail
        go_loopw [7, 8] (fun i _ wr => ∃ (k : Nat) (acc : List Seg) (p' : Nat) (b' : Bool) (vS : Value), i = .int .i64 (cn.1 - k : Nat) ∧ k ≤ cn.1 ∧ Hid (RMany (rSegS (body b)) cn.1 cn.2.1 cn.2.2 k acc p' b') ∧ Rr wr w.heap.size gr vB (body b) p' b' ∧ Dc wr p gm gr base x1.1 x2.1 x3.1 vS acc ∧ Below w.heap.size w wr) (fun i _ _ => (intOf i).toNat)
        case atStart => exact ⟨0, [], cn.2.1, cn.2.2, _, rfl, Nat.zero_le _, keep (RMany.start _ _ _ _), hR8, hG8, hbw8⟩
        case round =>
          obtain ⟨k, acc, p', b', vS, rfl, hk, hM, hRk, hGk, hbk⟩ := hrel
          clear hR8 hG8 hbw8
          obtain ⟨q0, q1, q2⟩ := hRk.b.cell3
          by_cases hlt : k < cn.1 ∧ b' = true
          · obtain ⟨hlt, rfl⟩ := hlt
            have hacc := keep hM.out.n
            have hMS := keep (hM.out.step hlt)
            have q1' : Hid (acc.length + 1 ≤ maxLen) := keep (by have := hacc.out; have := HC1.out; unfold maxLen; omega)
            have q2' : Hid ((acc.length + 1) * 56 ≤ 140737488355328) := keep (by have := hacc.out; have := HC1.out; omega)
            obtain ⟨j, hj⟩ : ∃ j, cn.1 - k = j + 1 := ⟨cn.1 - k - 1, by omega⟩
            have HJ := keep hj
            have hjb : (j : Int) ≤ 1000000 := by have := HC1.out; omega
            rw [hj]
            obtain ⟨AS, nS, cS, rfl⟩ : ∃ A n c, vS = .slice A n c := by obtain ⟨A, c, h, _⟩ := (Sl.of_own hGk.s).form; exact ⟨A, _, c, h⟩
            clear hM hj
            go_wp2_with fail
            refine (rrint_ex w.heap.size gr _ _ _ _ _ hRk hlb2.out).mono ?_
            rintro e w11 ⟨a11, ha11, rfl, hR11, hg11⟩
            have hG11 := hGk.keepR hO hg11
            have hb11 := below_grown hbk hg11 hbk.size hgrw
            clear hg11 hRk hGk hbk
            clear q0 q1 q2
            go_wp2_with fail
            refine (rrint_ex w.heap.size gr _ _ _ _ _ hR11 hlb2.out).mono ?_
            rintro e w12 ⟨a12, ha12, rfl, hR12, hg12⟩
            have hG12 := hG11.keepR hO hg12
            have hb12 := below_grown hb11 hg12 hb11.size hgrw
            clear hg12 hR11 hG11 hb11
            go_wp2_with fail
            refine (rrint_ex w.heap.size gr _ _ _ _ _ hR12 hlb2.out).mono ?_
            rintro e w13 ⟨a13, ha13, rfl, hR13, hg13⟩
            have hG13 := hG12.keepR hO hg13
            have hb13 := below_grown hb12 hg13 hb12.size hgrw
            clear hg13 hR12 hG12 hb12
            go_wp2_with fail
            refine (rrint_ex w.heap.size gr _ _ _ _ _ hR13 hlb2.out).mono ?_
            rintro e w14 ⟨a14, ha14, rfl, hR14, hg14⟩
            have hG14 := hG13.keepR hO hg14
            have hb14 := below_grown hb13 hg14 hb13.size hgrw
            clear hg14 hR13 hG13 hb13
            go_wp2_with fail
            refine (rrint_ex w.heap.size gr _ _ _ _ _ hR14 hlb2.out).mono ?_
            rintro e w15 ⟨a15, ha15, rfl, hR15, hg15⟩
            have hG15 := hG14.keepR hO hg15
            have hb15 := below_grown hb14 hg15 hb14.size hgrw
            clear hg15 hR14 hG14 hb14
            go_wp2_with fail
            refine (rrint_ex w.heap.size gr _ _ _ _ _ hR15 hlb2.out).mono ?_
            rintro e w16 ⟨a16, ha16, rfl, hR16, hg16⟩
            have hG16 := hG15.keepR hO hg16
            have hb16 := below_grown hb15 hg16 hb15.size hgrw
            clear hg16 hR15 hG15 hb15
            go_wp2_with fail
            refine (rrint_ex w.heap.size gr _ _ _ _ _ hR16 hlb2.out).mono ?_
            rintro e w17 ⟨a17, ha17, rfl, hR17, hg17⟩
            have hG17 := hG16.keepR hO hg17
            have hb17 := below_grown hb16 hg17 hb16.size hgrw
            clear hg17 hR16 hG16 hb16
            go_upto_region 12 with fail
            obtain ⟨gs, hgs⟩ : ∃ gs, gs = w17.heap.size := ⟨_, rfl⟩
            obtain ⟨w18, hw18⟩ : ∃ w18, w18 = w17.alloc (.cells #[.int .i64 a11.1, .int .i64 a12.1, .int .i64 a13.1, .int .i64 a14.1, .int .i64 a15.1, .int .i64 a16.1, .int .i64 a17.1] 46) := ⟨_, rfl⟩
            have hb18 : Below w17.heap.size w17 w18 := by rw [hw18]; exact (Below.refl _ _).alloc (Nat.le_refl _) _
            have hBs : Blk w18 gs 46 #[.int .i64 a11.1, .int .i64 a12.1, .int .i64 a13.1, .int .i64 a14.1, .int .i64 a15.1, .int .i64 a16.1, .int .i64 a17.1] := by rw [hw18, hgs]; exact Blk.new _ _ _
            have hown18 : w18.ownsRow base 46 7 (.slice AS nS cS) acc.length (acc.flatMap Seg.vals) := by rw [hw18]; exact hG17.s.alloc _
            have hG18 : Dc w18 p gm gr base x1.1 x2.1 x3.1 (.slice AS nS cS) acc := ⟨hG17.bp.below hb18 hG17.bp.lt, hG17.bm.below hb18 hG17.bm.lt, hown18, Nat.le_trans hG17.z hb18.size⟩
            have hR18 := hR17.below hb18 hR17.b.lt
            have hbw18 := bchain hb17 hb18
            rw [← hw18, ← hgs]
            clear hw18 hgs hb18 hG17 hR17 hb17
            have c18 := hG18.bm.cell7.2.2.2.1
            obtain ⟨s0, s1, s2, s3, s4, s5, s6⟩ := hBs.cell7
            have hseg := rSegS_step ha11.out ha12.out ha13.out ha14.out ha15.out ha16.out ha17.out
            have hMS' := hMS.out
            rw [hseg] at hMS'
            have HMS := keep hMS'
            clear hseg hMS hMS'
            go_wp2_with (refine wpList_push elSegs rfl rfl _ _ _ rfl rfl rfl base _ (.agg #[.int .i64 a11.1, .int .i64 a12.1, .int .i64 a13.1, .int .i64 a14.1, .int .i64 a15.1, .int .i64 a16.1, .int .i64 a17.1]) acc.length _ rfl (fun _ => rfl) (fun _ => rfl) hown18 rfl (seg_one _ _ _ _ _ _ _) (by omega) q1'.out q2'.out hG18.z ?_; intro g19 cap19 w19 hown19 hb19 _ _ _; have hB19 := hG18.bm.below hb19 hO.c; have c19 := hB19.cell7.2.2.2.1; have f19 := hB19.frozen 3)
            have hGf := hG18.put2 hO ⟨a11.1, a12.1, a13.1, a14.1, a15.1, a16.1, a17.1⟩ hb19 hown19
            have hRf := (hR18.below hb19 (Nat.lt_trans hO.b hO.c)).setFar (i := 3) hO.b (.slice (some ⟨g19, 0, none⟩) (acc.length + 1) cap19)
            have hbf := (hbw18.trans (hb19.mono (by have := HGR.out; have := hO.b; have := hO.c; omega))).setCell (p := ⟨gm, 3, none⟩) (by have := HGR.out; have := hO.b; show w.heap.size ≤ gm; omega) (.slice (some ⟨g19, 0, none⟩) (acc.length + 1) cap19)
            go_roundw
            case rel => exact ⟨k + 1, _, _, _, _, by rw [show cn.1 - (k + 1) = j by have := HJ.out; omega], by omega, HMS, hRf, hGf, hbf⟩
            case measure => simp [intOf]
          · have hD := hM.out.done (by
              rcases Nat.lt_or_ge k cn.1 with h1 | h1
              · right; cases b' with
                | false => rfl
                | true => exact absurd ⟨h1, rfl⟩ hlt
              · left; omega)
            have HD := keep hD
            clear hD hM
            by_cases hkn : k < cn.1
            · have hof : b' = false := by
                cases b' with
                | false => rfl
                | true => exact absurd ⟨hkn, rfl⟩ hlt
              subst hof
              obtain ⟨j, hj⟩ : ∃ j, cn.1 - k = j + 1 := ⟨cn.1 - k - 1, by omega⟩
              rw [hj]
              clear hj hlt
              go_wp2_with fail
              go_meet
              exact ⟨acc, p', false, vS, HD, hRk, hGk, hbk⟩
            · have hj : cn.1 - k = 0 := by omega
              rw [hj]
              clear hj hlt
              go_wp2_with fail
              go_meet
              exact ⟨acc, p', b', vS, HD, hRk, hGk, hbk⟩
      case rest =>
      obtain ⟨acc, p', b', vS, hD, hRk, hGk, hbk⟩ := hcut
      obtain ⟨w20, rfl⟩ : ∃ w20 : World, w20 = wc := ⟨_, rfl⟩
      obtain ⟨sg, hsg⟩ : ∃ sg, rManyS (rSegS (body b)) cn.1 cn.2.1 cn.2.2 = sg := ⟨_, rfl⟩
      have hD2 := hD.out
      rw [hsg] at hD2
      subst hD2
      have HSG := keep hsg
      have hz9 := hGk.z
      obtain ⟨base2, hbase2⟩ : ∃ base2, base2 = w20.heap.size := ⟨_, rfl⟩
      have hGG : Dc2 w20 p gm gr base base2 x1.1 x2.1 x3.1 vS (.slice none 0 0) acc [] := ⟨hGk.bp, hGk.bm, by rw [hbase2]; exact Sl.of_own_btw hGk.s, World.ownsRow_nil _ _ _ _, by omega⟩
      rw [← hbase2] at hz9
      have HB2 := keep hz9
      obtain ⟨AS, nS, cS, rfl⟩ : ∃ A n c, vS = .slice A n c := by obtain ⟨A, c, h, _⟩ := (Sl.of_own hGk.s).form; exact ⟨A, _, c, h⟩
      clear hsg hGk hbase2 hz9 hD hR8 hG8 hbw8
      go_wp2_with fail
      refine (rrcount_ex w.heap.size gr _ _ _ _ _ hRk hlb2.out).mono ?_
      rintro e w21 ⟨dn, hdn, rfl, hR21, hg21⟩
      have hd1 := (rCountS_le (body b) p' b' hRk.p).1
      rw [hdn.out] at hd1
      have HD1 := keep (Nat.le_trans hd1 hlb2.out)
      have hG21 := hGG.keepR hO HB2.out hg21
      have hbw21 := below_grown hbk hg21 hbk.size hgrw
      clear hRk hg21 hGG hbk hd1
      go_upto_block 2 with (fail)
      go_cut [9] (fun _ wr => ∃ (acc2 : List Mk) (p2 : Nat) (b2 : Bool) (vM : Value), Hid ((acc2, p2, b2) = rManyS (rMkS (body b)) dn.1 dn.2.1 dn.2.2) ∧ Rr wr w.heap.size gr vB (body b) p2 b2 ∧ Dc2 wr p gm gr base base2 x1.1 x2.1 x3.1 (.slice AS nS cS) vM acc acc2 ∧ Below w.heap.size w wr)
      case first =>
        go_wp2_with fail
        go_loopw [9] (fun i wr => ∃ (k : Nat) (acc2 : List Mk) (p2 : Nat) (b2 : Bool) (vM : Value), i = .int .i64 (dn.1 - k : Nat) ∧ k ≤ dn.1 ∧ Hid (RMany (rMkS (body b)) dn.1 dn.2.1 dn.2.2 k acc2 p2 b2) ∧ Rr wr w.heap.size gr vB (body b) p2 b2 ∧ Dc2 wr p gm gr base base2 x1.1 x2.1 x3.1 (.slice AS nS cS) vM acc acc2 ∧ Below w.heap.size w wr) (fun i _ => (intOf i).toNat)
        case atStart => exact ⟨0, [], dn.2.1, dn.2.2, _, rfl, Nat.zero_le _, keep (RMany.start _ _ _ _), hR21, hG21, hbw21⟩
        case round =>
          obtain ⟨k, acc2, p2, b2, vM, rfl, hk, hM, hRk, hGk, hbk⟩ := hrel
          clear hR21 hG21 hbw21
          obtain ⟨q0, q1, q2⟩ := hRk.b.cell3
          by_cases hlt : k < dn.1 ∧ b2 = true
          · obtain ⟨hlt, rfl⟩ := hlt
            have hacc := keep hM.out.n
            have hMS := keep (hM.out.step hlt)
            have q1' : Hid (acc2.length + 1 ≤ maxLen) := keep (by have := hacc.out; have := HD1.out; unfold maxLen; omega)
            have q2' : Hid ((acc2.length + 1) * 24 ≤ 140737488355328) := keep (by have := hacc.out; have := HD1.out; omega)
            obtain ⟨j, hj⟩ : ∃ j, dn.1 - k = j + 1 := ⟨dn.1 - k - 1, by omega⟩
            have HJ := keep hj
            have hjb : (j : Int) ≤ 1000000 := by have := HD1.out; omega
            rw [hj]
            obtain ⟨AM, nM, cM, rfl⟩ : ∃ A n c, vM = .slice A n c := by obtain ⟨A, c, h, _⟩ := (Sl.of_own hGk.m_).form; exact ⟨A, _, c, h⟩
            have hR10 : Rr wr.drew w.heap.size gr vB (body b) p2 true := hRk.drewN 1
            have hG10 := hGk.drew
            have hb10 := hbk.drew
            have c10 := hGk.bm.cell7.2.2.2.2.1
            have hgm2 : gm < base2 := Nat.lt_of_lt_of_le hO.c HB2.out
            clear hM hj hRk hGk hbk
            go_upto_region 16 with fail
            clear q0 q1 q2
            go_region_law (first
              | (go_simp; go_at_call 64; (with_reducible refine (rrint_ex w.heap.size gr _ _ _ _ _ hR12 hlb2.out).mono ?_); rintro e w13 ⟨a13, ha13, rfl, hR13, hg13⟩; have hG13 := hG12.keepR hO HB2.out hg13; have z13 := hG13.bm.lt; have c13 := hG13.bm.cell7.2.2.2.2.1; have hb13 := below_grown hb12 hg13 hb12.size hgrw; clear hg13)
              | (go_simp; go_at_call 64; (with_reducible refine (rrint_ex w.heap.size gr _ _ _ _ _ hR11 hlb2.out).mono ?_); rintro e w12 ⟨a12, ha12, rfl, hR12, hg12⟩; have hG12 := hG11.keepR hO HB2.out hg12; have z12 := hG12.bm.lt; have c12 := hG12.bm.cell7.2.2.2.2.1; have hb12 := below_grown hb11 hg12 hb11.size hgrw; clear hg12)
              | (go_simp; go_at_call 64; (with_reducible refine (rrint_ex w.heap.size gr _ _ _ _ _ hR10 hlb2.out).mono ?_); rintro e w11 ⟨a11, ha11, rfl, hR11, hg11⟩; have hG11 := hG10.keepR hO HB2.out hg11; have z11 := hG11.bm.lt; have c11 := hG11.bm.cell7.2.2.2.2.1; have hb11 := below_grown hb10 hg11 hb10.size hgrw; clear hg11)
              | (refine step_appendS elMarks rfl _ _ rfl base2 _ acc2.length _ rfl (hG13.m_.alloc _) _ _ 1 _ rfl (mk_lit w13 _ _ _) (mk_one _ _ _) q1'.out q2'.out (le_alloc hG13.z _) ?_; intro v18 w18 hown18 hb18 hgr18; obtain ⟨g18, c18', rfl⟩ := ownsRow_succ hown18; have hB18 := (hG13.bm.alloc (.cells #[.int .i64 a11.1, .int .i64 a12.1, .int .i64 a13.1] 72)).below hb18 hgm2; have c18 := hB18.cell7.2.2.2.2.1; have f18 := hB18.frozen 4)
              | fail)
            all_goals
              have hseg := rMkS_step ha11.out ha12.out ha13.out
              have hMS' := hMS.out
              rw [hseg] at hMS'
              have HMS := keep hMS'
              have hGf := hG13.put hO HB2.out ⟨a11.1, a12.1, a13.1⟩ _ hb18 hown18
              have hal : Below w13.heap.size w13 (w13.alloc (.cells #[.int .i64 a11.1, .int .i64 a12.1, .int .i64 a13.1] 72)) := (Below.refl _ _).alloc (Nat.le_refl _) _
              have hRf := fun (u : Value) => ((hR13.below hal hR13.b.lt).below hb18 (Nat.lt_trans hO.b hgm2)).setFar (i := 4) hO.b u
              have hbf := fun (u : Value) => below_put (i := 4) (u := u) hb13 hb13.size hb18 (Nat.le_trans HGR.out (Nat.le_of_lt hO.b)) hgm2
              have HRF := keep hRf
              have HBF := keep hbf
              clear hseg hRf hbf hMS hMS' hal
              go_wp2_with fail
              go_roundw
              case rel => exact ⟨k + 1, _, _, _, _, by rw [show dn.1 - (k + 1) = j by have := HJ.out; omega], by omega, HMS, HRF.out _, hGf, HBF.out _⟩
              case measure => simp [intOf]
          · have hD := hM.out.done (by
              rcases Nat.lt_or_ge k dn.1 with h1 | h1
              · right; cases b2 with
                | false => rfl
                | true => exact absurd ⟨h1, rfl⟩ hlt
              · left; omega)
            have HD := keep hD
            clear hD hM
            by_cases hkn : k < dn.1
            · have hof : b2 = false := by
                cases b2 with
                | false => rfl
                | true => exact absurd ⟨hkn, rfl⟩ hlt
              subst hof
              obtain ⟨j, hj⟩ : ∃ j, dn.1 - k = j + 1 := ⟨dn.1 - k - 1, by omega⟩
              rw [hj]
              clear hj hlt
              go_wp2_with fail
              go_meet
              exact ⟨acc2, p2, false, vM, HD, hRk, hGk, hbk⟩
            · have hj : dn.1 - k = 0 := by omega
              rw [hj]
              clear hj hlt
              go_wp2_with fail
              go_meet
              exact ⟨acc2, p2, b2, vM, HD, hRk, hGk, hbk⟩
      case rest =>
      obtain ⟨mk, p2, b2, vM, hD, hRs, hGs, hbk⟩ := hcut
      obtain ⟨wq, rfl⟩ : ∃ wq : World, wq = wc := ⟨_, rfl⟩
      have hlenM : Hid (mk.length ≤ 1000000) := keep (by have h1 := rManyS_len (rMkS (body b)) dn.1 dn.2.1 dn.2.2; rw [← hD.out] at h1; have := HD1.out; simp only at h1; omega)
      have hlenS : Hid (acc.length ≤ 1000000) := keep (by have h1 := rManyS_len (rSegS (body b)) cn.1 cn.2.1 cn.2.2; rw [HSG.out] at h1; have := HC1.out; simp only at h1; omega)
      have hgrwq := hRs.b.lt
      have hzq := hGs.z
      clear hR21 hG21 hbw21
      have h1 := hO.a
      have h2 := hO.b
      have h3 := hO.c
      have h4 := HB2.out
      obtain ⟨AM, nM, cM, rfl⟩ : ∃ A n c, vM = .slice A n c := by obtain ⟨A, c, h, _⟩ := (Sl.of_own hGs.m_).form; exact ⟨A, _, c, h⟩
      go_wp2_with fail
      refine (rrtals_any w.heap.size gr _ _ _ _ _ hRs hlb2.out).mono ?_
      rintro e w31 ⟨vT, rfl, hoT, hR31, hg31⟩
      have hG31 := hGs.keepR hO HB2.out hg31
      have hbw31 := below_grown hbk hg31 hbk.size hgrw
      obtain ⟨hle1, hle2⟩ := rTalsS_le (body b) p2 b2 hRs.p
      have hru1 := rTalsS_rule (body b) p2 b2 hRs.p
      obtain ⟨tl, htl⟩ : ∃ tl, rTalsS (body b) p2 b2 = tl := ⟨_, rfl⟩
      rw [htl] at hoT hR31 hle1 hle2 hru1
      have HTL := keep htl
      have HRU1 := keep (fun x hx => Nat.le_trans (hru1 x hx) hlb2.out)
      have hlenT : Hid (tl.1.length ≤ 1000000) := keep (Nat.le_trans hle2 hlb2.out)
      have hsT0 := Sl.of_own_btw hoT
      have hz1 := hg31.size
      obtain ⟨AT, nT, cT, rfl⟩ : ∃ A n c, vT = .slice A n c := by obtain ⟨A, c, h, _⟩ := hsT0.form; exact ⟨A, _, c, h⟩
      clear htl hRs hg31 hGs hbk hle1 hle2 hru1 hoT
      have c5 := hG31.bm.cell7.2.2.2.2.2.1
      have f5 := hG31.bm.frozen 5
      go_upto_region 18 with fail
      obtain ⟨w32, hw32⟩ : ∃ w32, w32 = w31.setCell ⟨gm, 5, none⟩ (.slice AT nT cT) := ⟨_, rfl⟩
      rw [← hw32]
      have hgs : w31.grownBy w32 (some gm) := by rw [hw32]; exact grownBy_set (World.grownBy.refl _ _) _ _
      have hM32 : Blk w32 gm 28 #[.int .i64 x1.1, .int .i64 x2.1, .int .i64 x3.1, .slice AS nS cS, .slice AM nM cM, .slice AT nT cT, .slice none 0 0] := by rw [hw32]; exact hG31.bm.set_ 5 _
      have hP32 := hG31.bp.grown hgs (fun e => by injection e; omega)
      have hz31 := hG31.z
      have hR32 : Rr w32 w.heap.size gr vB (body b) tl.2.1 tl.2.2 := by rw [hw32]; exact hR31.setFar h2 _
      have hS32 := hG31.s.grown hgs (fun k hk => ⟨by have := hk.2; omega, fun e => by injection e with e; have := hk.1; omega⟩)
      have hMk32 := (Sl.of_own_btw hG31.m_).grown hgs (fun k hk => ⟨hk.2, fun e => by injection e with e; have := hk.1; omega⟩)
      have hT32 := hsT0.grown hgs (fun k hk => ⟨hk.2, fun e => by injection e with e; have := hk.1; omega⟩)
      have hbw32 := below_grown hbw31 hgs hbw31.size (by have := HGR.out; omega)
      have hz32 := hgs.size
      clear hw32 hgs hG31 hR31 hsT0 hbw31 c5 f5
      go_wp2_with fail
      refine (rrtals_any w.heap.size gr _ _ _ _ _ hR32 hlb2.out).mono ?_
      rintro e w33 ⟨vE, rfl, hoE, hR33, hg33⟩
      obtain ⟨hle1, hle2⟩ := rTalsS_le (body b) tl.2.1 tl.2.2 hR32.p
      have hru2 := rTalsS_rule (body b) tl.2.1 tl.2.2 hR32.p
      obtain ⟨ex, hex⟩ : ∃ ex, rTalsS (body b) tl.2.1 tl.2.2 = ex := ⟨_, rfl⟩
      rw [hex] at hoE hR33 hle1 hle2 hru2
      have HEX := keep hex
      have HRU2 := keep (fun x hx => Nat.le_trans (hru2 x hx) hlb2.out)
      have hlenE : Hid (ex.1.length ≤ 1000000) := keep (Nat.le_trans hle2 hlb2.out)
      have hsE := Sl.of_own_btw hoE
      obtain ⟨AE, nE, cE, rfl⟩ : ∃ A n c, vE = .slice A n c := by obtain ⟨A, c, h, _⟩ := hsE.form; exact ⟨A, _, c, h⟩
      have hM33 := hM32.grown hg33 (fun e => by injection e; omega)
      have hP33 := hP32.grown hg33 (fun e => by injection e; omega)
      have hS33 := hS32.grown hg33 (fun k hk => ⟨by have := hk.2; omega, fun e => by injection e with e; have := hk.1; omega⟩)
      have hMk33 := hMk32.grown hg33 (fun k hk => ⟨by have := hk.2; omega, fun e => by injection e with e; have := hk.1; omega⟩)
      have hT33 := hT32.grown hg33 (fun k hk => ⟨by have := hk.2; omega, fun e => by injection e with e; have := hk.1; omega⟩)
      have hbw33 := below_grown hbw32 hg33 hbw32.size hgrw
      have hz33 := hg33.size
      have HPd : Hid (RParsed (body b) ⟨x1.1, x2.1, x3.1, acc, mk, tl.1, ex.1⟩ ex.2.2) := ⟨x1, x2, x3, cn, (acc, p', b'), dn, (mk, p2, b2), tl, ex, hx1.out, hx2.out, hx3.out, hcn.out, HSG.out, hdn.out, hD.out.symm, HTL.out, HEX.out, rfl, rfl⟩
      have hsm : Hid (SmallP ⟨x1.1, x2.1, x3.1, acc, mk, tl.1, ex.1⟩) := ⟨hlenS.out, hlenM.out, hlenT.out, hlenE.out, HRU1.out, HRU2.out⟩
      clear hex hR32 hg33 hM32 hP32 hS32 hMk32 hT32 hbw32 hle1 hle2 hru2 hoE hlenS hlenM hlenT hlenE HRU1 HRU2
      have c6 := hM33.cell7.2.2.2.2.2.2
      have f6 := hM33.frozen 6
      go_upto_region 19 with fail
      obtain ⟨w34, hw34⟩ : ∃ w34, w34 = w33.setCell ⟨gm, 6, none⟩ (.slice AE nE cE) := ⟨_, rfl⟩
      rw [← hw34]
      have hgs : w33.grownBy w34 (some gm) := by rw [hw34]; exact grownBy_set (World.grownBy.refl _ _) _ _
      have hM34 : Blk w34 gm 28 #[.int .i64 x1.1, .int .i64 x2.1, .int .i64 x3.1, .slice AS nS cS, .slice AM nM cM, .slice AT nT cT, .slice AE nE cE] := by rw [hw34]; exact hM33.set_ 6 _
      have hP34 := hP33.grown hgs (fun e => by injection e; omega)
      have hRb := (hR33.b.grown hgs (fun e => by injection e; omega)).cell3.2.2
      have hz34 := hgs.size
      have hL34 : Lies w34 (btw (gm + 1) w34.heap.size) ⟨x1.1, x2.1, x3.1, acc, mk, tl.1, ex.1⟩ (.slice AS nS cS) (.slice AM nM cM) (.slice AT nT cT) (.slice AE nE cE) := by
        refine ⟨?_, ?_, ?_, ?_⟩
        · exact (hS33.grown hgs (fun k hk => ⟨by have := hk.2; omega, fun e => by injection e with e; have := hk.1; omega⟩)).mono (fun k hk => ⟨by have := hk.1; omega, by have := hk.2; omega⟩)
        · exact (hMk33.grown hgs (fun k hk => ⟨by have := hk.2; omega, fun e => by injection e with e; have := hk.1; omega⟩)).mono (fun k hk => ⟨by have := hk.1; omega, by have := hk.2; omega⟩)
        · exact (hT33.grown hgs (fun k hk => ⟨by have := hk.2; omega, fun e => by injection e with e; have := hk.1; omega⟩)).mono (fun k hk => ⟨by have := hk.1; omega, by have := hk.2; omega⟩)
        · exact (hsE.grown hgs (fun k hk => ⟨hk.2, fun e => by injection e with e; have := hk.1; omega⟩)).mono (fun k hk => ⟨by have := hk.1; omega, by have := hk.2; omega⟩)
      have hbw34 := below_grown hbw33 hgs hbw33.size (by have := HGR.out; omega)
      clear hw34 hgs hM33 hP33 hS33 hMk33 hT33 hR33 hbw33 hsE c6 f6 hz1 hz31 hz32 hz33
      obtain ⟨ok, hok⟩ : ∃ ok, ex.2.2 = ok := ⟨_, rfl⟩
      rw [hok] at hRb
      have HPd2 := HPd.out
      rw [hok] at HPd2
      have HPd := keep HPd2
      clear hok HPd2
      have hlM := hM34.lt
      have hlP := hP34.lt
      cases ok with
      | false =>
        have HNF : ¬ Fits b ⟨x1.1, x2.1, x3.1, acc, mk, tl.1, ex.1⟩ (!false) := fun h => by have := h.1; simp at this
        have hD22 : RDecd b manZero 22 := .inr (.inr ⟨by have := H8.out; omega, of_decide_eq_true HQ.e, _, _, HPd.out, .inr ⟨HNF, rfl, rfl⟩⟩)
        have HF := keep (rdec_err (p := p) (by have := HP.out; omega) hD22 hbw34 (.int .i64 0) (.int .i64 0) (.int .i64 0) (.slice none 0 0) (.slice none 0 0) (.slice none 0 0) (.slice none 0 0))
        clear hD22 HNF
        obtain ⟨y0, y1, y2, y3, y4, y5, y6⟩ := (put7_blk hP34 (.int .i64 0) (.int .i64 0) (.int .i64 0) (.slice none 0 0) (.slice none 0 0) (.slice none 0 0) (.slice none 0 0)).cell7
        obtain ⟨e0, e1, e2, e3, e4, e5, e6⟩ := hP34.cell7
        have g0 := hP34.frozen 0
        have g1 := hP34.frozen 1
        have g2 := hP34.frozen 2
        have g3 := hP34.frozen 3
        have g4 := hP34.frozen 4
        have g5 := hP34.frozen 5
        have g6 := hP34.frozen 6
        go_wp2_with fail
        refine bodyPost_ret (v := .tuple #[.agg manZ7, .int .i64 22]) (by simp [results, Try.results25, go_sem, y0, y1, y2, y3, y4, y5, y6]) rfl ?_
        exact HF.out
      | true =>
        obtain ⟨a0, a1, a2, a3, a4, a5, a6⟩ := hM34.cell7
        go_wp2_with fail
        refine (refEncode_any ⟨x1.1, x2.1, x3.1, acc, mk, tl.1, ex.1⟩ _ _ _ _ w34 (hL34.mono (fun k hk => hk.2)) hsm.out.small hsm.out.len).mono ?_
        rintro e w35 ⟨vN, rfl, hoN, hb35⟩
        obtain ⟨er, her⟩ : ∃ er, manErr ⟨x1.1, x2.1, x3.1, acc, mk, tl.1, ex.1⟩ = er := ⟨_, rfl⟩
        have HER := keep her
        rw [her]
        clear her a0 a1 a2 a3 a4 a5 a6
        have hM35 := hM34.below hb35 hlM
        have hP35 := hP34.below hb35 hlP
        have hL35 : Lies w35 (btw (gm + 1) w34.heap.size) ⟨x1.1, x2.1, x3.1, acc, mk, tl.1, ex.1⟩ (.slice AS nS cS) (.slice AM nM cM) (.slice AT nT cT) (.slice AE nE cE) :=
          ⟨hL34.s.under hb35 (fun k hk => hk.2), hL34.m_.under hb35 (fun k hk => hk.2), hL34.t.under hb35 (fun k hk => hk.2), hL34.e.under hb35 (fun k hk => hk.2)⟩
        have hbw35 := bchain hbw34 hb35
        have hz35 := keep hb35.size
        clear hM34 hP34 hRb hL34 hbw34 hb35
        by_cases hE : er = 0
        · subst hE
          have hout : encOut ⟨x1.1, x2.1, x3.1, acc, mk, tl.1, ex.1⟩ = encB ⟨x1.1, x2.1, x3.1, acc, mk, tl.1, ex.1⟩ := by unfold encOut; rw [if_pos HER.out]
          rw [hout] at hoN
          have hbsl := (hs1.out _ hbw35).2.2
          have hoN' := hoN.slt
          have hlenN := hsm.out.len
          obtain ⟨q, hq⟩ : ∃ q, decide (encB ⟨x1.1, x2.1, x3.1, acc, mk, tl.1, ex.1⟩ = b) = q := ⟨_, rfl⟩
          have HEQ : Hid (EncQ ⟨x1.1, x2.1, x3.1, acc, mk, tl.1, ex.1⟩ b q) := ⟨hq⟩
          have hln : Hid ((encB ⟨x1.1, x2.1, x3.1, acc, mk, tl.1, ex.1⟩).length ≤ maxLen) := keep (by unfold encB; rw [List.length_append]; have : (crcB (crc (encM ⟨x1.1, x2.1, x3.1, acc, mk, tl.1, ex.1⟩))).length = 4 := rfl; unfold maxLen; omega)
          clear hq hout hlenN
          go_wp2_with fail
          refine (sameBytes_any _ _ _ b _ _ w35 hoN' hbsl hln.out (by have := hmb.out; unfold maxLen; omega)).mono ?_
          rintro e w36 ⟨rfl, hb36⟩
          rw [HEQ.out.e]
          have hM36 := hM35.below hb36 hM35.lt
          have hP36 := hP35.below hb36 hP35.lt
          have hz36 := hb36.size
          have hL36 : Lies w36 (btw (gm + 1) w34.heap.size) ⟨x1.1, x2.1, x3.1, acc, mk, tl.1, ex.1⟩ (.slice AS nS cS) (.slice AM nM cM) (.slice AT nT cT) (.slice AE nE cE) :=
            ⟨hL35.s.under hb36 (fun k hk => Nat.lt_of_lt_of_le hk.2 hz35.out), hL35.m_.under hb36 (fun k hk => Nat.lt_of_lt_of_le hk.2 hz35.out), hL35.t.under hb36 (fun k hk => Nat.lt_of_lt_of_le hk.2 hz35.out), hL35.e.under hb36 (fun k hk => Nat.lt_of_lt_of_le hk.2 hz35.out)⟩
          have hbw36 := bchain hbw35 hb36
          clear hM35 hP35 hL35 hbw35 hb36 hoN hoN' hbsl
          cases q with
          | true =>
            have hF : Fits b ⟨x1.1, x2.1, x3.1, acc, mk, tl.1, ex.1⟩ (!true) := ⟨rfl, HER.out, of_decide_eq_true HEQ.out.e⟩
            have hD0 : RDecd b ⟨x1.1, x2.1, x3.1, acc, mk, tl.1, ex.1⟩ 0 := .inr (.inr ⟨by have := H8.out; omega, of_decide_eq_true HQ.e, _, _, HPd.out, .inl ⟨hF, rfl, rfl⟩⟩)
            have hgp := put7_grown w36 p (.int .i64 x1.1) (.int .i64 x2.1) (.int .i64 x3.1) (.slice AS nS cS) (.slice AM nM cM) (.slice AT nT cT) (.slice AE nE cE)
            have hzz := hz35.out
            have hHP := HP.out
            have hHG := HGR.out
            have HF : Hid (RDecOut w b (.returned (.tuple #[.agg #[.int .i64 x1.1, .int .i64 x2.1, .int .i64 x3.1, .slice AS nS cS, .slice AM nM cM, .slice AT nT cT, .slice AE nE cE], .int .i64 0])) (put7 w36 p (.int .i64 x1.1) (.int .i64 x2.1) (.int .i64 x3.1) (.slice AS nS cS) (.slice AM nM cM) (.slice AT nT cT) (.slice AE nE cE))) := by
              have hcond : ∀ k, btw (gm + 1) w34.heap.size k → k < w36.heap.size ∧ some k ≠ some p := fun k hk => ⟨by have := hk.2; omega, fun e => by injection e with e; have := hk.1; omega⟩
              have hcond2 : ∀ k, btw (gm + 1) w34.heap.size k → btw w.heap.size (put7 w36 p (.int .i64 x1.1) (.int .i64 x2.1) (.int .i64 x3.1) (.slice AS nS cS) (.slice AM nM cM) (.slice AT nT cT) (.slice AE nE cE)).heap.size k := fun k hk => ⟨by have := hk.1; omega, Nat.lt_of_lt_of_le hk.2 (Nat.le_trans hzz (Nat.le_trans hz36 hgp.size))⟩
              refine ⟨_, 0, hD0, _, _, _, _, rfl, ⟨(hL36.s.grown hgp hcond).mono hcond2, (hL36.m_.grown hgp hcond).mono hcond2, (hL36.t.grown hgp hcond).mono hcond2, (hL36.e.grown hgp hcond).mono hcond2⟩, ?_⟩
              exact below_grown hbw36 hgp hbw36.size (by omega)
            obtain ⟨y0, y1, y2, y3, y4, y5, y6⟩ := (put7_blk hP36 (.int .i64 x1.1) (.int .i64 x2.1) (.int .i64 x3.1) (.slice AS nS cS) (.slice AM nM cM) (.slice AT nT cT) (.slice AE nE cE)).cell7
            obtain ⟨e0, e1, e2, e3, e4, e5, e6⟩ := hP36.cell7
            obtain ⟨b0, b1, b2, b3, b4, b5, b6⟩ := hM36.cell7
            have g0 := hP36.frozen 0
            have g1 := hP36.frozen 1
            have g2 := hP36.frozen 2
            have g3 := hP36.frozen 3
            have g4 := hP36.frozen 4
            have g5 := hP36.frozen 5
            have g6 := hP36.frozen 6
            clear hD0 hF hgp hzz hHP hHG
            go_wp2_with fail
            refine bodyPost_ret (v := .tuple #[.agg #[.int .i64 x1.1, .int .i64 x2.1, .int .i64 x3.1, .slice AS nS cS, .slice AM nM cM, .slice AT nT cT, .slice AE nE cE], .int .i64 0]) (by simp [results, Try.results25, go_sem, y0, y1, y2, y3, y4, y5, y6]) rfl ?_
            exact HF.out
          | false =>
            have HNF : ¬ Fits b ⟨x1.1, x2.1, x3.1, acc, mk, tl.1, ex.1⟩ (!true) := fun h => of_decide_eq_false HEQ.out.e h.2.2
            have hD22 : RDecd b manZero 22 := .inr (.inr ⟨by have := H8.out; omega, of_decide_eq_true HQ.e, _, _, HPd.out, .inr ⟨HNF, rfl, rfl⟩⟩)
            have HF := keep (rdec_err (p := p) (by have := HP.out; omega) hD22 hbw36 (.int .i64 0) (.int .i64 0) (.int .i64 0) (.slice none 0 0) (.slice none 0 0) (.slice none 0 0) (.slice none 0 0))
            clear hD22 HNF
            obtain ⟨y0, y1, y2, y3, y4, y5, y6⟩ := (put7_blk hP36 (.int .i64 0) (.int .i64 0) (.int .i64 0) (.slice none 0 0) (.slice none 0 0) (.slice none 0 0) (.slice none 0 0)).cell7
            obtain ⟨e0, e1, e2, e3, e4, e5, e6⟩ := hP36.cell7
            have g0 := hP36.frozen 0
            have g1 := hP36.frozen 1
            have g2 := hP36.frozen 2
            have g3 := hP36.frozen 3
            have g4 := hP36.frozen 4
            have g5 := hP36.frozen 5
            have g6 := hP36.frozen 6
            go_wp2_with fail
            refine bodyPost_ret (v := .tuple #[.agg manZ7, .int .i64 22]) (by simp [results, Try.results25, go_sem, y0, y1, y2, y3, y4, y5, y6]) rfl ?_
            exact HF.out
        · have hE' : (er == 0) = false := by simpa using hE
          have HNF : ¬ Fits b ⟨x1.1, x2.1, x3.1, acc, mk, tl.1, ex.1⟩ (!true) := fun h => hE (HER.out.symm.trans h.2.1)
          have hD22 : RDecd b manZero 22 := .inr (.inr ⟨by have := H8.out; omega, of_decide_eq_true HQ.e, _, _, HPd.out, .inr ⟨HNF, rfl, rfl⟩⟩)
          have HF := keep (rdec_err (p := p) (by have := HP.out; omega) hD22 hbw35 (.int .i64 0) (.int .i64 0) (.int .i64 0) (.slice none 0 0) (.slice none 0 0) (.slice none 0 0) (.slice none 0 0))
          clear hD22 HNF
          obtain ⟨y0, y1, y2, y3, y4, y5, y6⟩ := (put7_blk hP35 (.int .i64 0) (.int .i64 0) (.int .i64 0) (.slice none 0 0) (.slice none 0 0) (.slice none 0 0) (.slice none 0 0)).cell7
          obtain ⟨e0, e1, e2, e3, e4, e5, e6⟩ := hP35.cell7
          have g0 := hP35.frozen 0
          have g1 := hP35.frozen 1
          have g2 := hP35.frozen 2
          have g3 := hP35.frozen 3
          have g4 := hP35.frozen 4
          have g5 := hP35.frozen 5
          have g6 := hP35.frozen 6
          go_wp2_with fail
          refine bodyPost_ret (v := .tuple #[.agg manZ7, .int .i64 22]) (by simp [results, Try.results25, go_sem, y0, y1, y2, y3, y4, y5, y6]) rfl ?_
          exact HF.out
end Go.Proofs.Ytkjhnipjhefndaa
