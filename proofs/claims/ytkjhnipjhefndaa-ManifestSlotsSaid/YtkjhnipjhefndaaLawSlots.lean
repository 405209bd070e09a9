/- The walk of ManifestSlots: what the statement's function returns. -/
import Derived.Test.YtkjhnipjhefndaaSlots
import Derived.Test.YtkjhnipjhefndaaDrawMod
namespace Go.Proofs.Ytkjhnipjhefndaa
open Go.RowKit

/-- Bytes that lie in no block of the choices. -/
def BB (w : World) (gc : Nat) (v : Value) (l : List UInt8) : Prop := BSl w (But w gc) v l
section
variable {w w' : World} {gc : Nat} {v : Value} {l : List UInt8}
theorem BB.below (h : BB w gc v l) (hb : Below w.heap.size w w') : BB w' gc v l := Sl.mono (Sl.under h hb (fun _ hk => hk.1)) (fun _ hk => ⟨Nat.lt_of_lt_of_le hk.1 hb.size, hk.2⟩)
theorem BB.grown (h : BB w gc v l) (hg : w.grownBy w' (some gc)) : BB w' gc v l := Sl.mono (Sl.grown h hg (fun _ hk => ⟨hk.1, fun e => by injection e with e; exact hk.2 e⟩)) (fun _ hk => ⟨Nat.lt_of_lt_of_le hk.1 hg.size, hk.2⟩)
theorem BB.slt (h : BB w gc v l) : BSl w (lt w.heap.size) v l := Sl.mono h (fun _ hk => hk.1)
theorem BB.of_lt {B : Nat} (h : BSl w (lt B) v l) (hB : B ≤ gc) (hg : gc < w.heap.size) : BB w gc v l := Sl.mono h (fun k hk => by have hk' : k < B := hk; exact ⟨by omega, by omega⟩)
theorem BB.of_own {base : Nat} (h : OwnB w base v l) (hB : gc < base) : BB w gc v l := Sl.mono h.sl (fun k hk => ⟨hk.2, by have := hk.1; omega⟩)
end
theorem slotOut_len {m : Man} {l0 l1 : List UInt8} (h0 : l0.length ≤ maxLen) (h1 : l1.length ≤ maxLen) (h : (encM m).length + 4 ≤ 140737488355328) : (slotOut m l0 l1).1.length ≤ maxLen ∧ (slotOut m l0 l1).2.length ≤ maxLen := by
  have hb : (encB m).length ≤ maxLen := by rw [encB_len]; unfold maxLen; omega
  unfold slotOut
  split
  · split
    · exact ⟨hb, h1⟩
    · exact ⟨h0, hb⟩
  · exact ⟨h0, h1⟩
theorem six_at {w : World} {g k : Nat} {t : TypeId} {c0 c1 c2 c3 c4 c5 c6 c7 c8 c9 ca cb : Value} (h : Blk w g t #[c0, c1, c2, c3, c4, c5, c6, c7, c8, c9, ca, cb]) {Q : Value → Prop} (h0 : Q c0) (h1 : Q c1) (h2 : Q c2) (h3 : Q c3) (h4 : Q c4) (h5 : Q c5) (h6 : Q c6) (h7 : Q c7) (h8 : Q c8) (h9 : Q c9) (ha : Q ca) (hb : Q cb) (hk : k < 6) :
    ∃ u v, w.cell? ⟨g, k * 2, none⟩ = some u ∧ w.cell? ⟨g, k * 2 + 1, none⟩ = some v ∧ Q u ∧ Q v := by
  obtain rfl | rfl | rfl | rfl | rfl | rfl : k = 0 ∨ k = 1 ∨ k = 2 ∨ k = 3 ∨ k = 4 ∨ k = 5 := by omega
  · exact ⟨c0, c1, by rw [h.cell]; rfl, by rw [h.cell]; rfl, h0, h1⟩
  · exact ⟨c2, c3, by rw [h.cell]; rfl, by rw [h.cell]; rfl, h2, h3⟩
  · exact ⟨c4, c5, by rw [h.cell]; rfl, by rw [h.cell]; rfl, h4, h5⟩
  · exact ⟨c6, c7, by rw [h.cell]; rfl, by rw [h.cell]; rfl, h6, h7⟩
  · exact ⟨c8, c9, by rw [h.cell]; rfl, by rw [h.cell]; rfl, h8, h9⟩
  · exact ⟨ca, cb, by rw [h.cell]; rfl, by rw [h.cell]; rfl, ha, hb⟩
theorem Good.smallP {m : Man} (hG : Good m) : SmallP m := by
  have t := hG.tiny
  exact ⟨by have := t.s; omega, by have := t.m_; omega, by have := t.t; omega, by have := t.e; omega, fun x hx => by have := t.tb x hx; omega, fun x hx => by have := t.eb x hx; omega⟩
theorem Good.encOut {m : Man} (hG : Good m) : encOut m = encB m := by unfold Go.Proofs.Ytkjhnipjhefndaa.encOut; rw [if_pos hG.err]
/-- A drawn manifest that the reference encodes. -/
def DrawnEnc (w : World) (gc : Nat) (e : Ending) (w' : World) : Prop := ∃ v l, e = .returned (.tuple #[v, .int .i64 0]) ∧ BB w' gc v l ∧ 8 ≤ l.length ∧ l.length ≤ 100000 ∧ Below w.heap.size w w'
theorem refEnc_good (m : Man) (vS vM vT vE : Value) (gc : Nat) (w : World) (hL : Lies w (lt w.heap.size) m vS vM vT vE) (hG : Good m) (hgc : gc < w.heap.size) :
    Calls Try.prog 18 #[.agg (manCells m vS vM vT vE)] w (DrawnEnc w gc) := by
  refine (refEncode_any m _ _ _ _ w hL hG.smallP.small hG.smallP.len).mono ?_
  rintro e w' ⟨vN, rfl, hoN, hb⟩
  rw [hG.err]
  rw [hG.encOut] at hoN
  exact ⟨vN, encB m, rfl, BB.of_own hoN hgc, encB_ge m, by rw [encB_len]; exact hG.tiny.len, hb⟩
theorem wrong_smallE {x y : Man} (hx : SmallE x) (h1 : y.segs.length = x.segs.length) (h2 : y.marks.length ≤ x.marks.length + 1) (h3 : y.tals = x.tals) (h4 : ExpsOk x.exps y.exps) (hm : x.marks.length ≤ 900) (he : x.exps.length ≤ 900) : SmallE y := by
  obtain ⟨y4, y5⟩ := h4
  have e1 := hx.s
  have e3 := hx.t
  refine ⟨by omega, by omega, by rw [h3]; omega, by omega, by rw [h3]; exact hx.tb, fun t ht => ?_⟩
  rcases y5 t ht with h | h
  · exact hx.eb t h
  · have := h.r; omega

set_option maxHeartbeats 8000000 in
set_option maxRecDepth 100000 in
theorem law_slots (v va vb : Value) (bs : List Int) (a b : List UInt8) (x : Int) (y : UInt8) (w : World) (hv : Sl w (lt w.heap.size) 1 v bs.length (bs.map (.int .u8))) (hr : ∀ x ∈ bs, 0 ≤ x ∧ x ≤ 255) (hm : bs.length ≤ maxLen) (hva : BSl w (lt w.heap.size) va a) (hvb : BSl w (lt w.heap.size) vb b) :
    Calls Try.prog 8 #[v, va, vb, .int .i64 x, .int .u8 y.toNat] w fun e w' => e = .returned (.bool true) ∧ Below w.heap.size w w' := by
  obtain ⟨Av, cv, rfl, _, hv⟩ := hv.form
  obtain ⟨Aa, ca, rfl, _, _⟩ := (show Sl w (lt w.heap.size) 1 va a.length (a.map ub) from hva).form
  obtain ⟨Ab, cb, rfl, _, _⟩ := (show Sl w (lt w.heap.size) 1 vb b.length (b.map ub) from hvb).form
  by_cases ha : 300 < a.length
  · have ha' : (300 : Int) < (a.length : Int) := by omega
    go_enter Try.func8, Try.ntmps8
    go_wp2_with fail
    refine (awake_any _).mono ?_
    rintro e w1 ⟨rfl, hb1⟩
    go_wp2_with fail
    go_ret
    exact ⟨rfl, hb1⟩
  by_cases hb : 300 < b.length
  · have ha' : ¬ (300 : Int) < (a.length : Int) := by omega
    have hb' : (300 : Int) < (b.length : Int) := by omega
    go_enter Try.func8, Try.ntmps8
    go_wp2_with fail
    refine (awake_any _).mono ?_
    rintro e w1 ⟨rfl, hb1⟩
    go_wp2_with fail
    go_ret
    exact ⟨rfl, hb1⟩
  have ha' : ¬ (300 : Int) < (a.length : Int) := by omega
  have hb' : ¬ (300 : Int) < (b.length : Int) := by omega
  have HAL := keep (show a.length ≤ 1000000 by omega)
  have HBL := keep (show b.length ≤ 1000000 by omega)
  clear ha hb
  go_enter Try.func8, Try.ntmps8
  go_wp2_with fail
  refine (awake_any _).mono ?_
  rintro e w1 ⟨rfl, hb1⟩
  have hv1 := (hv.below hb1 (Nat.le_refl _)).more hb1.size
  have ha1 : BSl w1 (lt w.heap.size) (.slice Aa a.length ca) a := Sl.below hva hb1 (Nat.le_refl _)
  have hB1 : BSl w1 (lt w.heap.size) (.slice Ab b.length cb) b := Sl.below hvb hb1 (Nat.le_refl _)
  have hz1 := hb1.size
  clear hv hva hvb
  go_wp2_with fail
  refine (drawNew _ bs 300 _ hv1 hr (by omega) hm).mono ?_
  rintro e w2 ⟨gc, rfl, hgc, hC2, hb2⟩
  have hbw2 := bchain hb1 hb2
  have hwg : w.heap.size ≤ gc := by omega
  have ha2 : BB w2 gc (.slice Aa a.length ca) a := BB.of_lt (Sl.below ha1 hb2 hz1) hwg hC2.lt_
  have hB2 : BB w2 gc (.slice Ab b.length cb) b := BB.of_lt (Sl.below hB1 hb2 hz1) hwg hC2.lt_
  clear hv1 hb1 ha1 hB1 hb2 hz1 hgc
  go_wp2_with fail
  refine (drawManifest gc _ hC2).mono ?_
  rintro e w3 ⟨m, mS, mM, mT, mE, rfl, hL, hG, hC3, hg3⟩
  have hbw3 := below_grown hbw2 hg3 hbw2.size hwg
  have ha3 := ha2.grown hg3
  have hB3 := hB2.grown hg3
  have hgl := hC2.lt_
  have hLm : Lies w3 (But w3 gc) m mS mM mT mE := hL.mono (fun k hk => ⟨hk.2, by have := hk.1; omega⟩)
  have HE := keep hG.smallE
  have n1 : m.segs.length ≤ 1000 := by have := hG.sl; omega
  have n2 : m.marks.length ≤ 900 := by have := hG.ml; omega
  have n3 : m.tals.length ≤ 1000 := by have := hG.tl; omega
  have n4 : m.exps.length ≤ 900 := by have := hG.el; omega
  have N2 := keep n2
  have N4 := keep n4
  clear hC2 ha2 hB2 hg3 hbw2 hL hG hgl
  go_wp2_with fail
  refine (wrong_law gc m _ _ _ _ _ hC3 hLm n1 (by omega) n3 (by omega)).mono ?_
  rintro e w4 ⟨z, zS, zM, zT, zE, rfl, hLz, z1, z2, z3, z4, hC4, hg4⟩
  have HZ := keep (wrong_smallE HE.out z1 z2 z3 z4 N2.out N4.out)
  have hbw4 := below_grown hbw3 hg4 hbw3.size hwg
  have ha4 := ha3.grown hg4
  have hB4 := hB3.grown hg4
  obtain ⟨E1, f1, E2, f2, E3, f3, E4, f4, rfl, rfl, rfl, rfl⟩ := man_form hLz
  clear hC3 ha3 hB3 hg4 hbw3 hLm z1 z2 z3 z4 n1 n2 n3 n4
  go_upto_region 5 with fail
  obtain ⟨gz, hgz⟩ : ∃ gz, gz = w4.heap.size := ⟨_, rfl⟩
  obtain ⟨w5, hw5⟩ : ∃ w5, w5 = w4.alloc (.cells #[.int .i64 z.nu, .int .i64 z.nx, .int .i64 z.jo, .slice E1 z.segs.length f1, .slice E2 z.marks.length f2, .slice E3 z.tals.length f3, .slice E4 z.exps.length f4] 28) := ⟨_, rfl⟩
  rw [← hw5, ← hgz]
  have hb5 : Below w4.heap.size w4 w5 := by rw [hw5]; exact (Below.refl _ _).alloc (Nat.le_refl _) _
  have hZ5 : Blk w5 gz 28 #[.int .i64 z.nu, .int .i64 z.nx, .int .i64 z.jo, .slice E1 z.segs.length f1, .slice E2 z.marks.length f2, .slice E3 z.tals.length f3, .slice E4 z.exps.length f4] := by rw [hw5, hgz]; exact Blk.new _ _ _
  have hgc4 := hC4.lt_
  have hgzc : gc < gz := by omega
  have hC5 : Codes w5 gc := by rw [hw5]; exact hC4.alloc _
  have ha5 := ha4.below hb5
  have hB5 := hB4.below hb5
  have hL5 : Lies w5 (lt w5.heap.size) z (.slice E1 z.segs.length f1) (.slice E2 z.marks.length f2) (.slice E3 z.tals.length f3) (.slice E4 z.exps.length f4) := (hLz.mono (fun k hk => hk.1) : Lies w4 (lt w4.heap.size) z _ _ _ _).below hb5
  have hbw5 := bchain hbw4 hb5
  clear hw5 hgz hb5 hC4 ha4 hB4 hLz hbw4 hgc4
  obtain ⟨z0, z1, z2, z3, z4, z5, z6⟩ := hZ5.cell7
  go_wp2_with fail
  refine (write_any _ _ a b z _ _ _ _ w5 ha5.slt hB5.slt hL5 HZ.out.small HZ.out.len).mono ?_
  rintro e w6 ⟨u0, u1, rfl, hu0, hu1, hb6⟩
  obtain ⟨er, her⟩ : ∃ er, manErr z = er := ⟨_, rfl⟩
  have HER := keep her
  rw [her]
  obtain ⟨U0, p0, q0, rfl⟩ : ∃ A n c, u0 = .slice A n c := by obtain ⟨A, c, h, _⟩ := Sl.form hu0; exact ⟨A, _, c, h⟩
  obtain ⟨U1, p1, q1, rfl⟩ : ∃ A n c, u1 = .slice A n c := by obtain ⟨A, c, h, _⟩ := Sl.form hu1; exact ⟨A, _, c, h⟩
  clear her
  go_upto_region 6 with fail
  obtain ⟨gx, hgx⟩ : ∃ gx, gx = w6.heap.size := ⟨_, rfl⟩
  obtain ⟨w7, hw7⟩ : ∃ w7, w7 = w6.alloc (.cells #[.slice U0 p0 q0, .slice U1 p1 q1] 58) := ⟨_, rfl⟩
  rw [← hw7, ← hgx]
  have hb7 : Below w6.heap.size w6 w7 := by rw [hw7]; exact (Below.refl _ _).alloc (Nat.le_refl _) _
  have hX7 : Blk w7 gx 58 #[.slice U0 p0 q0, .slice U1 p1 q1] := by rw [hw7, hgx]; exact Blk.new _ _ _
  have hb57 := bchain hb6 hb7
  have hZ7 := hZ5.below hb57 hZ5.lt
  have ha7 := ha5.below hb57
  have hB7 := hB5.below hb57
  have hC7 := hC5.under hb57 hC5.lt_
  have hL7 := hL5.below hb57
  have hbw7 := hbw5.trans (hb57.mono hbw5.size)
  have hu07 : BSl w7 (lt w7.heap.size) (.slice U0 p0 q0) (slotOut z a b).1 := Sl.more (Sl.below hu0 hb7 (Nat.le_refl _)) hb7.size
  have hu17 : BSl w7 (lt w7.heap.size) (.slice U1 p1 q1) (slotOut z a b).2 := Sl.more (Sl.below hu1 hb7 (Nat.le_refl _)) hb7.size
  clear hw7 hgx hb6 hb7 hZ5 ha5 hB5 hC5 hL5 hbw5 hu0 hu1 hb57 z0 z1 z2 z3 z4 z5 z6
  obtain ⟨z0, z1, z2, z3, z4, z5, z6⟩ := hZ7.cell7
  go_wp2_with fail
  refine (refWrite_any _ _ a b z _ _ _ _ w7 ha7.slt hB7.slt hL7 HZ.out.small HZ.out.len).mono ?_
  rintro e w8 ⟨r0, r1, rfl, hr0, hr1, hb8⟩
  rw [HER.out]
  obtain ⟨R0, s0, t0, rfl⟩ : ∃ A n c, r0 = .slice A n c := by obtain ⟨A, c, h, _⟩ := Sl.form hr0; exact ⟨A, _, c, h⟩
  obtain ⟨R1, s1, t1, rfl⟩ : ∃ A n c, r1 = .slice A n c := by obtain ⟨A, c, h, _⟩ := Sl.form hr1; exact ⟨A, _, c, h⟩
  go_upto_region 7 with fail
  obtain ⟨gy, hgy⟩ : ∃ gy, gy = w8.heap.size := ⟨_, rfl⟩
  obtain ⟨w9, hw9⟩ : ∃ w9, w9 = w8.alloc (.cells #[.slice R0 s0 t0, .slice R1 s1 t1] 58) := ⟨_, rfl⟩
  rw [← hw9, ← hgy]
  have hb9 : Below w8.heap.size w8 w9 := by rw [hw9]; exact (Below.refl _ _).alloc (Nat.le_refl _) _
  have hY9 : Blk w9 gy 58 #[.slice R0 s0 t0, .slice R1 s1 t1] := by rw [hw9, hgy]; exact Blk.new _ _ _
  have hb79 := bchain hb8 hb9
  have hX9 := hX7.below hb79 hX7.lt
  have ha9 := ha7.below hb79
  have hB9 := hB7.below hb79
  have hC9 := hC7.under hb79 hC7.lt_
  have hbw9 := hbw7.trans (hb79.mono hbw7.size)
  have hu09 : BSl w9 (lt w9.heap.size) (.slice U0 p0 q0) (slotOut z a b).1 := Sl.more (Sl.below hu07 hb79 (Nat.le_refl _)) hb79.size
  have hu19 : BSl w9 (lt w9.heap.size) (.slice U1 p1 q1) (slotOut z a b).2 := Sl.more (Sl.below hu17 hb79 (Nat.le_refl _)) hb79.size
  have hr09 : BSl w9 (lt w9.heap.size) (.slice R0 s0 t0) (slotOut z a b).1 := Sl.more (Sl.below hr0 hb9 (Nat.le_refl _)) hb9.size
  have hr19 : BSl w9 (lt w9.heap.size) (.slice R1 s1 t1) (slotOut z a b).2 := Sl.more (Sl.below hr1 hb9 (Nat.le_refl _)) hb9.size
  have hsl : Hid ((slotOut z a b).1.length ≤ maxLen ∧ (slotOut z a b).2.length ≤ maxLen) := keep (slotOut_len (by have := HAL.out; unfold maxLen; omega) (by have := HBL.out; unfold maxLen; omega) HZ.out.len)
  clear hw9 hgy hb8 hb9 hZ7 ha7 hB7 hC7 hL7 hbw7 hu07 hu17 hr0 hr1 hb79 hX7 z0 z1 z2 z3 z4 z5 z6
  obtain ⟨x0, x1⟩ := hX9.cell2
  obtain ⟨y0, y1⟩ := hY9.cell2
  go_wp2_with fail
  refine (sameBytes_any _ _ _ _ _ _ w9 hu09 hr09 hsl.out.1 hsl.out.1).mono ?_
  rintro e w10 ⟨rfl, hb10⟩
  simp only [decide_true]
  have hX10 := hX9.below hb10 hX9.lt
  have hY10 := hY9.below hb10 hY9.lt
  have hu1a : BSl w10 (lt w10.heap.size) (.slice U1 p1 q1) (slotOut z a b).2 := Sl.more (Sl.below hu19 hb10 (Nat.le_refl _)) hb10.size
  have hr1a : BSl w10 (lt w10.heap.size) (.slice R1 s1 t1) (slotOut z a b).2 := Sl.more (Sl.below hr19 hb10 (Nat.le_refl _)) hb10.size
  have ha10 := ha9.below hb10
  have hB10 := hB9.below hb10
  have hC10 := hC9.under hb10 hC9.lt_
  have hbw10 := bchain hbw9 hb10
  clear hX9 hY9 hu09 hr09 hu19 hr19 ha9 hB9 hC9 hbw9 hb10 x0 x1 y0 y1
  obtain ⟨x0, x1⟩ := hX10.cell2
  obtain ⟨y0, y1⟩ := hY10.cell2
  go_wp2_with fail
  refine (sameBytes_any _ _ _ _ _ _ w10 hu1a hr1a hsl.out.2 hsl.out.2).mono ?_
  rintro e w11 ⟨rfl, hb11⟩
  simp only [decide_true]
  have ha11 := ha10.below hb11
  have hB11 := hB10.below hb11
  have hC11 := hC10.under hb11 hC10.lt_
  have hbw11 := bchain hbw10 hb11
  clear hX10 hY10 hu1a hr1a ha10 hB10 hC10 hbw10 hb11 x0 x1 y0 y1
  go_wp2_with fail
  refine (drawManifest gc _ hC11).mono ?_
  rintro e w12 ⟨mu, mS, mM, mT, mE, rfl, hLu, hGu, hC12, hg12⟩
  have hbw12 := below_grown hbw11 hg12 hbw11.size hwg
  have ha12 := ha11.grown hg12
  have hB12 := hB11.grown hg12
  clear hC11 ha11 hB11 hg12 hbw11
  go_wp2_with fail
  refine (refEnc_good mu _ _ _ _ gc w12 (hLu.mono (fun k hk => hk.2)) hGu hC12.lt_).mono ?_
  rintro e w13 ⟨vu, lu, rfl, hu, hu8, huL, hb13⟩
  obtain ⟨Au, nu_, cu, rfl⟩ : ∃ A n c, vu = .slice A n c := by obtain ⟨A, c, h, _⟩ := Sl.form hu; exact ⟨A, _, c, h⟩
  have HUL := keep (show lu.length ≤ 1000000 by omega)
  have ha13 := ha12.below hb13
  have hB13 := hB12.below hb13
  have hC13 := hC12.under hb13 hC12.lt_
  have hbw13 := bchain hbw12 hb13
  clear hLu hGu hC12 ha12 hB12 hbw12 hb13 hu8 huL
  go_wp2_with fail
  refine (drawManifest gc _ hC13).mono ?_
  rintro e w14 ⟨mv, mS, mM, mT, mE, rfl, hLv, hGv, hC14, hg14⟩
  have hbw14 := below_grown hbw13 hg14 hbw13.size hwg
  have ha14 := ha13.grown hg14
  have hB14 := hB13.grown hg14
  have hu14 := hu.grown hg14
  clear hC13 ha13 hB13 hu hg14 hbw13
  go_wp2_with fail
  refine (refEnc_good mv _ _ _ _ gc w14 (hLv.mono (fun k hk => hk.2)) hGv hC14.lt_).mono ?_
  rintro e w15 ⟨vv, lv, rfl, hv15, hv8, hvL, hb15⟩
  obtain ⟨A5, cv5, rfl, _, _⟩ := (show Sl w15 (But w15 gc) 1 vv lv.length (lv.map ub) from hv15).form
  have HVL := keep hvL
  have HV8 := keep hv8
  have ha15 := ha14.below hb15
  have hB15 := hB14.below hb15
  have hu15 := hu14.below hb15
  have hC15 := hC14.under hb15 hC14.lt_
  have hbw15 := bchain hbw14 hb15
  clear hLv hGv hC14 ha14 hB14 hu14 hbw14 hb15 hv8 hvL
  go_upto_region 11 with fail
  go_upto_region 12 with (refine wpList_appendBb elB rfl _ _ rfl w15.heap.size (.slice none 0 0) [] rfl (OwnB.nil _ _) (lt w15.heap.size) _ lv rfl hv15.slt (by have := HVL.out; simp; omega) (Nat.le_refl _) ?_; intro v16 w16 hown16 hb16 hg16)
  rw [List.nil_append] at hown16
  obtain ⟨A6, c6, rfl, hc6, hownA⟩ := hown16.form
  have ha16 := (Sl.below ha15.slt hb16 (Nat.le_refl _) : BSl w16 (lt w15.heap.size) _ _)
  have hB16 := (Sl.below hB15.slt hb16 (Nat.le_refl _) : BSl w16 (lt w15.heap.size) _ _)
  have hu16 := (Sl.below hu15.slt hb16 (Nat.le_refl _) : BSl w16 (lt w15.heap.size) _ _)
  have hv16 := (Sl.below hv15.slt hb16 (Nat.le_refl _) : BSl w16 (lt w15.heap.size) _ _)
  have hbw16 := bchain hbw15 hb16
  have hbase := hbw15.size
  clear hown16 hg16 ha15 hB15 hu15 hv15 hC15 hbw15 hb16
  have hEl : (lv.length : Int) ≤ 100000 := by have := HVL.out; omega
  have hEg : 1 ≤ (lv.length : Int) := by have := HV8.out; omega
  go_wp2_with fail
  refine (drawMod x (lv.length : Int) w16 (by omega)).mono ?_
  rintro e w17 ⟨r, rfl, r0, r1, rfl⟩
  have hi0 := r1 hEg
  clear r1
  obtain ⟨i, rfl⟩ := Int.eq_ofNat_of_zero_le r0
  have hi : i < lv.length := by omega
  obtain ⟨g6, rfl, hg6b, hg6l, _, hcell, hfz, hownS⟩ := hownA.setAt hi (lv[i] ^^^ y)
  have hx8 := xor_u8 lv[i] y
  simp only [ub] at hcell hownS
  obtain ⟨O, hO⟩ : ∃ O, O = lv.set i (lv[i] ^^^ y) := ⟨_, rfl⟩
  rw [← hO] at hownS
  have hOl : O.length = lv.length := by rw [hO, List.length_set]
  have HOL := keep (show O.length ≤ 1000000 by rw [hOl]; have := HVL.out; omega)
  clear hO hOl hownA
  generalize lv[i] ^^^ y = zz_ at *
  generalize lv[i] = e0 at *
  have hbw16z := hbw16.size
  go_upto_region 13 with fail
  obtain ⟨w18, hw18⟩ : ∃ w18, w18 = w16.setCell ⟨g6, i, none⟩ (.int .u8 (zz_.toNat : Int)) := ⟨_, rfl⟩
  rw [← hw18] at hownS ⊢
  have hg18 : w16.grownBy w18 (some g6) := by rw [hw18]; exact grownBy_set (World.grownBy.refl _ _) _ _
  have hK : ∀ {v l}, BSl w16 (lt w15.heap.size) v l → BSl w18 (lt w15.heap.size) v l := fun h => Sl.grown h hg18 (fun k hk => by have hk' : k < w15.heap.size := hk; exact ⟨by omega, fun e => by injection e; omega⟩)
  have ha18 := hK ha16
  have hB18 := hK hB16
  have hu18 := hK hu16
  have hv18 := hK hv16
  have hO18 : BSl w18 (lt w18.heap.size) (.slice (some ⟨g6, 0, none⟩) lv.length c6) O := hownS.slt
  have hbw18 := below_grown hbw16 hg18 hbw16.size (by omega)
  have hz18 := hg18.size
  have hz15 : w15.heap.size ≤ w18.heap.size := by omega
  clear hw18 hg18 hK ha16 hB16 hu16 hv16 hownS hbw16 hcell hfz hx8 hi0 hi r0 hEl hEg hbw16z hg6b hg6l
  go_upto_block 0 with (fail)
  obtain ⟨gq, hgq⟩ : ∃ gq, gq = w18.heap.size := ⟨_, rfl⟩
  obtain ⟨W, hW⟩ : ∃ W, W = w18.alloc (.cells #[.slice Aa a.length ca, .slice Ab b.length cb, .slice Au nu_ cu, .slice A5 lv.length cv5, .slice Au nu_ cu, .slice (some ⟨g6, 0, none⟩) lv.length c6, .slice (some ⟨g6, 0, none⟩) lv.length c6, .slice Au nu_ cu, .slice none 0 0, .slice Au nu_ cu, .slice Aa a.length ca, .slice (some ⟨g6, 0, none⟩) lv.length c6] 58) := ⟨_, rfl⟩
  rw [← hW, ← hgq]
  have hbW : Below w18.heap.size w18 W := by rw [hW]; exact (Below.refl _ _).alloc (Nat.le_refl _) _
  have hQ : Blk W gq 58 #[.slice Aa a.length ca, .slice Ab b.length cb, .slice Au nu_ cu, .slice A5 lv.length cv5, .slice Au nu_ cu, .slice (some ⟨g6, 0, none⟩) lv.length c6, .slice (some ⟨g6, 0, none⟩) lv.length c6, .slice Au nu_ cu, .slice none 0 0, .slice Au nu_ cu, .slice Aa a.length ca, .slice (some ⟨g6, 0, none⟩) lv.length c6] := by rw [hW, hgq]; exact Blk.new _ _ _
  have hzW := hbW.size
  have hK : ∀ {v l}, BSl w18 (lt w15.heap.size) v l → l.length ≤ 1000000 → Four W W.heap.size v := fun h hl => ⟨_, Sl.mono (Sl.below h hbW hz15) (fun k hk => by have hk' : k < w15.heap.size := hk; show k < W.heap.size; omega), hl⟩
  have f0 := hK ha18 HAL.out
  have f1 := hK hB18 HBL.out
  have f2 := hK hu18 HUL.out
  have f3 := hK hv18 (by have := HVL.out; omega)
  have f5 : Four W W.heap.size (.slice (some ⟨g6, 0, none⟩) lv.length c6) := ⟨O, Sl.more (Sl.below hO18 hbW (Nat.le_refl _)) hzW, HOL.out⟩
  have f8 : Four W W.heap.size (.slice none 0 0) := ⟨[], Sl.nil _ _ _ _ _, by simp⟩
  have hbw := bchain hbw18 hbW
  have hlq := hQ.lt
  clear hW hgq hbW hK ha18 hB18 hu18 hv18 hO18 hbw18 hz18 hz15 hzW hbase
  go_wp2_with fail
  go_loopw [23, 24, 25, 26, 27, 132] (fun _ _ _ _ _ i wr => ∃ k : Nat, k ≤ 6 ∧ i = .int .i64 k ∧ Below W.heap.size W wr) (fun _ _ _ _ _ i _ => 6 - (intOf i).toNat)
  case atStart => exact ⟨0, Nat.zero_le _, rfl, Below.refl _ _⟩
  case round =>
    obtain ⟨k, hk, rfl, hb⟩ := hrel
    obtain ⟨wq, rfl⟩ : ∃ wq : World, wq = wr := ⟨_, rfl⟩
    by_cases hlt : k < 6
    · obtain ⟨u, v, hcu, hcv, ⟨l0, hl0, hm0⟩, ⟨l1, hl1, hm1⟩⟩ := six_at (hQ.below hb hlq) f0 f1 f2 f3 f2 f5 f5 f2 f8 f2 f0 f5 hlt
      have h0q : BSl wq (lt wq.heap.size) u l0 := Sl.more (Sl.below hl0 hb (Nat.le_refl _)) hb.size
      have h1q : BSl wq (lt wq.heap.size) v l1 := Sl.more (Sl.below hl1 hb (Nat.le_refl _)) hb.size
      obtain ⟨U0, p0, q0, rfl⟩ : ∃ A n c, u = .slice A n c := by obtain ⟨A, c, h, _⟩ := Sl.form h0q; exact ⟨A, _, c, h⟩
      obtain ⟨U1, p1, q1, rfl⟩ : ∃ A n c, v = .slice A n c := by obtain ⟨A, c, h, _⟩ := Sl.form h1q; exact ⟨A, _, c, h⟩
      have HBq := keep hb
      have hi1 : (0 : Int) ≤ (k : Int) := by omega
      have hi2 : (k : Int) < 6 := by omega
      clear hb hl0 hl1
      go_upto_region 16 with fail
      obtain ⟨gs, hgs⟩ : ∃ gs, gs = wq.heap.size := ⟨_, rfl⟩
      obtain ⟨wa, hwa⟩ : ∃ wa, wa = wq.alloc (.cells #[.slice U0 p0 q0, .slice U1 p1 q1] 58) := ⟨_, rfl⟩
      rw [← hwa, ← hgs]
      have hba : Below wq.heap.size wq wa := by rw [hwa]; exact (Below.refl _ _).alloc (Nat.le_refl _) _
      have hSa : Blk wa gs 58 #[.slice U0 p0 q0, .slice U1 p1 q1] := by rw [hwa, hgs]; exact Blk.new _ _ _
      have h0a : BSl wa (lt wa.heap.size) (.slice U0 p0 q0) l0 := Sl.more (Sl.below h0q hba (Nat.le_refl _)) hba.size
      have h1a : BSl wa (lt wa.heap.size) (.slice U1 p1 q1) l1 := Sl.more (Sl.below h1q hba (Nat.le_refl _)) hba.size
      clear hwa hgs h0q h1q hcu hcv
      obtain ⟨s0, s1⟩ := hSa.cell2
      go_wp2_with fail
      refine (recover_any _ _ l0 l1 wa h0a h1a hm0 hm1).mono ?_
      rintro e w20 ⟨m0, e0, m1, e1, vS, vM, vT, vE, hD0, hD1, rfl, hL1, hb20⟩
      have HSM := keep (rec2_small hm0 hm1 hD0 hD1)
      have HAG := keep (fun m0' e0' m1' e1' h0' h1' => rec_agree (m0' := m0') (e0' := e0') (m1' := m1') (e1' := e1') hm0 hm1 hD0 hD1 h0' h1')
      clear hD0 hD1
      generalize rec2 m0 e0 m1 e1 = R at *
      obtain ⟨M, bo⟩ := R
      simp only at hL1 ⊢
      obtain ⟨E1, f1, E2, f2, E3, f3, E4, f4, rfl, rfl, rfl, rfl⟩ := man_form hL1
      go_upto_region 17 with fail
      obtain ⟨ga, hga⟩ : ∃ ga, ga = w20.heap.size := ⟨_, rfl⟩
      obtain ⟨wb, hwb⟩ : ∃ wb, wb = w20.alloc (.cells #[.int .i64 M.nu, .int .i64 M.nx, .int .i64 M.jo, .slice E1 M.segs.length f1, .slice E2 M.marks.length f2, .slice E3 M.tals.length f3, .slice E4 M.exps.length f4] 28) := ⟨_, rfl⟩
      rw [← hwb, ← hga]
      have hbb : Below w20.heap.size w20 wb := by rw [hwb]; exact (Below.refl _ _).alloc (Nat.le_refl _) _
      have hBa : Blk wb ga 28 #[.int .i64 M.nu, .int .i64 M.nx, .int .i64 M.jo, .slice E1 M.segs.length f1, .slice E2 M.marks.length f2, .slice E3 M.tals.length f3, .slice E4 M.exps.length f4] := by rw [hwb, hga]; exact Blk.new _ _ _
      have hb2b := bchain hb20 hbb
      have hSb := hSa.below hb2b hSa.lt
      have h0b : BSl wb (lt wb.heap.size) (.slice U0 p0 q0) l0 := Sl.more (Sl.below h0a hb2b (Nat.le_refl _)) hb2b.size
      have h1b : BSl wb (lt wb.heap.size) (.slice U1 p1 q1) l1 := Sl.more (Sl.below h1a hb2b (Nat.le_refl _)) hb2b.size
      have hLa : Lies wb (lt wb.heap.size) M (.slice E1 M.segs.length f1) (.slice E2 M.marks.length f2) (.slice E3 M.tals.length f3) (.slice E4 M.exps.length f4) := (hL1.mono (fun k hk => hk.2) : Lies w20 (lt w20.heap.size) M _ _ _ _).below hbb
      have hbqb := bchain hba hb2b
      clear hwb hga hbb hL1 hb20 h0a h1a hSa hb2b hba s0 s1
      obtain ⟨s0, s1⟩ := hSb.cell2
      go_wp2_with fail
      refine (refRecover_any _ _ l0 l1 wb h0b h1b hm0 hm1).mono ?_
      rintro e w21 ⟨m2, e2, m3, e3, uS, uM, uT, uE, hD2, hD3, rfl, hL2, hb21⟩
      have hag := HAG.out _ _ _ _ hD2 hD3
      rw [hag] at hL2 ⊢
      simp only at hL2 ⊢
      clear hD2 hD3 hag HAG
      obtain ⟨F1, d1, F2, d2, F3, d3, F4, d4, rfl, rfl, rfl, rfl⟩ := man_form hL2
      go_upto_region 18 with fail
      obtain ⟨gb, hgb⟩ : ∃ gb, gb = w21.heap.size := ⟨_, rfl⟩
      obtain ⟨wc, hwc⟩ : ∃ wc, wc = w21.alloc (.cells #[.int .i64 M.nu, .int .i64 M.nx, .int .i64 M.jo, .slice F1 M.segs.length d1, .slice F2 M.marks.length d2, .slice F3 M.tals.length d3, .slice F4 M.exps.length d4] 28) := ⟨_, rfl⟩
      rw [← hwc, ← hgb]
      have hbc : Below w21.heap.size w21 wc := by rw [hwc]; exact (Below.refl _ _).alloc (Nat.le_refl _) _
      have hBb : Blk wc gb 28 #[.int .i64 M.nu, .int .i64 M.nx, .int .i64 M.jo, .slice F1 M.segs.length d1, .slice F2 M.marks.length d2, .slice F3 M.tals.length d3, .slice F4 M.exps.length d4] := by rw [hwc, hgb]; exact Blk.new _ _ _
      have hbbc := bchain hb21 hbc
      have hBa2 := hBa.below hbbc hBa.lt
      have hLa2 := hLa.below hbbc
      have hLb : Lies wc (lt wc.heap.size) M (.slice F1 M.segs.length d1) (.slice F2 M.marks.length d2) (.slice F3 M.tals.length d3) (.slice F4 M.exps.length d4) := (hL2.mono (fun k hk => hk.2) : Lies w21 (lt w21.heap.size) M _ _ _ _).below hbc
      have hbqc := bchain hbqb hbbc
      clear hwc hgb hbc hL2 hb21 h0b h1b hSb hbbc hBa hLa hbqb s0 s1
      obtain ⟨a0, a1, a2, a3, a4, a5, a6⟩ := hBa2.cell7
      obtain ⟨b0, b1, b2, b3, b4, b5, b6⟩ := hBb.cell7
      have hbo : (bo != bo) = false := by cases bo <;> rfl
      go_wp2_with fail
      refine (same_refl M _ _ _ _ _ _ _ _ wc hLa2 hLb HSM.out).mono ?_
      rintro e w22 ⟨rfl, hb22⟩
      have hfin := bchain hbqc hb22
      have hfin2 := HBq.out.trans (hfin.mono HBq.out.size)
      clear hBa2 hBb hLa2 hLb hbqc hb22 a0 a1 a2 a3 a4 a5 a6 b0 b1 b2 b3 b4 b5 b6
      go_wp2_with fail
      go_roundw
      case rel => exact ⟨k + 1, by omega, by go_num, hfin2⟩
      case measure => simp [intOf]; omega
    · go_wp2_with fail
      go_ret
      exact ⟨rfl, bchain hbw hb⟩
theorem law_slots_int (v va vb : Value) (bs a b : List Int) (x y : Int) (w : World) (hv : Sl w (lt w.heap.size) 1 v bs.length (bs.map (.int .u8))) (hr : ∀ x ∈ bs, 0 ≤ x ∧ x ≤ 255) (hm : bs.length ≤ maxLen) (hva : Sl w (lt w.heap.size) 1 va a.length (a.map (.int .u8))) (hra : ∀ x ∈ a, 0 ≤ x ∧ x ≤ 255) (hvb : Sl w (lt w.heap.size) 1 vb b.length (b.map (.int .u8))) (hrb : ∀ x ∈ b, 0 ≤ x ∧ x ≤ 255) (hy : 0 ≤ y ∧ y ≤ 255) :
    Calls Try.prog 8 #[v, va, vb, .int .i64 x, .int .u8 y] w fun e w' => e = .returned (.bool true) ∧ Below w.heap.size w w' := by
  obtain ⟨z, rfl⟩ : ∃ z : UInt8, y = (z.toNat : Int) := ⟨UInt8.ofNat y.toNat, by rw [UInt8.toNat_ofNat']; omega⟩
  exact law_slots v va vb bs _ _ x z w hv hr hm (bsl_ints hva hra) (bsl_ints hvb hrb)
end Go.Proofs.Ytkjhnipjhefndaa
