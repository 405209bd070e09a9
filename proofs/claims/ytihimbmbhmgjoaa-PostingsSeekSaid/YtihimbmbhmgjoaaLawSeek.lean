/- PostingsSeek: the walk of the statement. -/
import Derived.Test.YtihimbmbhmgjoaaTouch
namespace Go.Proofs.Ytihimbmbhmgjoaa
open Go.RowKit

theorem three_at {w : World} {g k : Nat} {t : TypeId} {v0 v1 v2 : Value} (h : Blk w g t #[v0, v1, v2]) {Q : Value → Prop} (h0 : Q v0) (h1 : Q v1) (h2 : Q v2) (hk : k < 3) :
    ∃ v, w.cell? ⟨g, k, none⟩ = some v ∧ Q v := by
  match k, hk with
  | 0, _ => exact ⟨v0, by rw [h.cell]; rfl, h0⟩
  | 1, _ => exact ⟨v1, by rw [h.cell]; rfl, h1⟩
  | 2, _ => exact ⟨v2, by rw [h.cell]; rfl, h2⟩
/-- Bytes that lie in blocks other than gc. -/
def Ext (w : World) (gc : Nat) (v : Value) : Prop := ∃ (l : List UInt8) (S : Nat → Prop), BSl w S v l ∧ l.length ≤ 1000000 ∧ ∀ k, S k → k < w.heap.size ∧ k ≠ gc
theorem Ext.grown {w w' : World} {gc : Nat} {v : Value} (h : Ext w gc v) (hg : w.grownBy w' (some gc)) : Ext w' gc v := by
  obtain ⟨l, S, h1, h2, h3⟩ := h
  exact ⟨l, S, Sl.grown h1 hg (fun b hb => ⟨(h3 b hb).1, fun e => (h3 b hb).2 (by injection e)⟩), h2, fun k hk => ⟨Nat.lt_of_lt_of_le (h3 k hk).1 hg.size, (h3 k hk).2⟩⟩
theorem Ext.bsl {w : World} {gc : Nat} {v : Value} (h : Ext w gc v) : ∃ l, BSl w (lt w.heap.size) v l ∧ l.length ≤ 1000000 := by
  obtain ⟨l, S, h1, h2, h3⟩ := h
  exact ⟨l, Sl.mono h1 (fun b hb => (h3 b hb).1), h2⟩

set_option maxHeartbeats 4000000 in
set_option maxRecDepth 100000 in
theorem law_seek (v vb : Value) (bs : List Int) (t : Int) (b : List UInt8) (w : World) (hv : Sl w (lt w.heap.size) 1 v bs.length (bs.map (.int .u8))) (hr : ∀ x ∈ bs, 0 ≤ x ∧ x ≤ 255) (hm : bs.length ≤ maxLen) (hvb : BSl w (lt w.heap.size) vb b) :
    Calls Try.prog 9 #[v, .int .i64 t, vb] w fun e w' => e = .returned (.bool true) ∧ Below w.heap.size w w' := by
  have hvb' : Sl w (lt w.heap.size) 1 vb b.length (b.map ub) := hvb
  obtain ⟨Ab, cb, rfl, hcb, hs⟩ := hvb'.form
  obtain ⟨Av, cv, rfl, _, hv⟩ := hv.form
  have hmb := hs.1
  clear hvb' hmb
  by_cases h5 : 600 < b.length
  · have h5' : decide ((600 : Int) < (b.length : Int)) = true := by simp; omega
    go_enter Try.func9, Try.ntmps9
    go_wp2_with fail
    refine (awake_true _).mono ?_
    rintro e w1 ⟨rfl, hb1⟩
    go_wp2_with fail
    go_ret
    exact ⟨rfl, hb1⟩
  · have h5' : decide ((600 : Int) < (b.length : Int)) = false := by simp; omega
    have HBL := keep (show b.length ≤ 1000000 by omega)
    go_enter Try.func9, Try.ntmps9
    go_wp2_with fail
    refine (awake_true _).mono ?_
    rintro e w1 ⟨rfl, hb1⟩
    have hv1 := (hv.below hb1 (Nat.le_refl _)).more hb1.size
    have hsb1 : BSl w1 (lt w.heap.size) (.slice Ab b.length cb) b := Sl.below hvb hb1 (Nat.le_refl _)
    have hz1 := hb1.size
    clear hv hvb hs h5
    go_wp2_with fail
    refine (drawNew _ bs 200 _ hv1 hr (by omega) hm).mono ?_
    rintro e w2 ⟨gc, rfl, hgc, hC2, hb2⟩
    have hsb2 : BSl w2 (lt w.heap.size) (.slice Ab b.length cb) b := Sl.below hsb1 hb2 hz1
    have hbw2 := bchain hb1 hb2
    have hwg : w.heap.size ≤ gc := by omega
    have hgl2 := hC2.lt_
    clear hv1 hb1 hsb1 hb2 hz1 hgc
    go_wp2_with fail
    refine (draw_any gc _ hC2).mono ?_
    rintro e w3 ⟨vl, la, rfl, hPa, hown, hC3, hg3⟩
    have hbw3 := below_grown hbw2 hg3 hbw2.size hwg
    have hz2 := hbw2.size
    have hsb3 : BSl w3 (lt w.heap.size) (.slice Ab b.length cb) b := Sl.grown hsb2 hg3 (fun k hk => ⟨by have : k < w.heap.size := hk; omega, fun e => by injection e with e; have : k < w.heap.size := hk; omega⟩)
    have hSl : Sl w3 (lt w3.heap.size) 1 vl la.length (la.map (.int .i64)) := Sl.of_own hown
    have hla := hPa.2.2
    have hEn := refEnc_any vl la w3 hSl (by unfold maxLen; omega)
    unfold EncRes at hEn
    rw [if_pos (check_post hPa), check_post hPa] at hEn
    have hlen : Hid ((postB la).length ≤ 1000000) := keep (postB_len (check_post hPa))
    have HEn := keep hEn
    have hgl3 := hC3.lt_
    clear hC2 hown hPa hg3 hsb2 hbw2 hz2 hSl hEn hgl2
    obtain ⟨E, hEE⟩ : ∃ E, postB la = E := ⟨_, rfl⟩
    rw [hEE] at HEn hlen
    clear hEE
    go_wp2_with fail
    refine HEn.out.mono ?_
    rintro e w4 ⟨vN, rfl, hoN, hb4⟩
    have hbw4 := bchain hbw3 hb4
    have hsb4 : BSl w4 (lt w.heap.size) (.slice Ab b.length cb) b := Sl.below hsb3 hb4 hbw3.size
    have hC4 := hC3.under hb4 hgl3
    have hSN := hoN.sl
    obtain ⟨AN, cN, rfl, hcN, _⟩ := hoN.form
    clear HEn hoN hb4 hbw3 hsb3 hC3
    go_upto_region 6 with fail
    obtain ⟨gx, hgx⟩ : ∃ gx, gx = w4.heap.size := ⟨_, rfl⟩
    obtain ⟨W8, hW8⟩ : ∃ W8, W8 = w4.alloc (.cells #[.slice AN E.length cN, .slice AN E.length cN, .slice Ab b.length cb] 22) := ⟨_, rfl⟩
    rw [← hW8, ← hgx]
    have hb8 : Below w4.heap.size w4 W8 := by rw [hW8]; exact (Below.refl _ _).alloc (Nat.le_refl _) _
    have hB8 : Blk W8 gx 22 #[.slice AN E.length cN, .slice AN E.length cN, .slice Ab b.length cb] := by rw [hW8, hgx]; exact Blk.new _ _ _
    have hbw8 := bchain hbw4 hb8
    have hC8 := hC4.under hb8 hC4.lt_
    have hz8 := hb8.size
    have hzw := hbw4.size
    have hgx2 : gx ≠ gc := by have := hC4.lt_; omega
    have hq0 : Ext W8 gc (.slice AN E.length cN) := ⟨E, btw w3.heap.size w4.heap.size, Sl.under (B := w4.heap.size) hSN hb8 (fun b hb => hb.2), hlen.out, fun k hk => ⟨by have := hk.2; omega, by have := hk.1; omega⟩⟩
    have hq2 : Ext W8 gc (.slice Ab b.length cb) := ⟨b, lt w.heap.size, Sl.below hsb4 hb8 (by omega), HBL.out, fun k hk => ⟨by have : k < w.heap.size := hk; omega, by have : k < w.heap.size := hk; omega⟩⟩
    clear hW8 hgx hb8 hsb4 hSN hC4 hbw4 hgl3 hz8 hzw
    have hlx := hB8.lt
    go_upto_region 7 with fail
    go_loopw [11, 12, 13, 14, 15, 16, 17, 18, 19, 20, 21, 22] (fun i _ _ _ _ _ _ _ _ _ _ _ wr => ∃ k : Nat, k ≤ 3 ∧ i = .int .i64 k ∧ Codes wr gc ∧ W8.grownBy wr (some gc)) (fun i _ _ _ _ _ _ _ _ _ _ _ _ => 3 - (intOf i).toNat)
    case atStart => exact ⟨0, Nat.zero_le _, rfl, hC8, World.grownBy.refl _ _⟩
    case round =>
      obtain ⟨k, hk, rfl, hC, hG⟩ := hrel
      obtain ⟨wq, rfl⟩ : ∃ wq : World, wq = wr := ⟨_, rfl⟩
      clear hC8
      by_cases hlt : k < 3
      · have hBq := hB8.grown hG (fun e => hgx2 (by injection e))
        obtain ⟨vx, hcx, hex⟩ := three_at hBq (hq0.grown hG) (hq0.grown hG) (hq2.grown hG) hlt
        have hi1 : (0 : Int) ≤ (k : Int) := by omega
        have hi2 : (k : Int) < 3 := by omega
        have hgq : gx < wq.heap.size := Nat.lt_of_lt_of_le hlx hG.size
        clear hBq
        have HG := keep hG
        have HEX := keep hex
        have hcx0 := keep hcx
        clear hG hex hcx
        go_upto_if 53 with fail
        go_cut [12] (fun s12 wc => ∃ q : Int, s12 = .int .i64 q ∧ Codes wc gc ∧ wq.grownBy wc (some gc))
        case first =>
          by_cases hk1 : k = 1
          · have d : ((k : Int) == 1) = true := by rw [beq_iff_eq]; omega
            clear hk1
            go_wp2_with fail
            refine (drawNext gc 256 wq hC (by omega) (by omega)).mono ?_
            rintro e wn ⟨r1, rfl, p0, p1, _, hCn, hgn⟩
            have p2 := p1 (by omega)
            clear p1
            go_wp2_with fail
            refine (drawNext gc 16 wn hCn (by omega) (by omega)).mono ?_
            rintro e wm ⟨r2, rfl, p3, p4, _, hCm, hgm⟩
            have p5 := p4 (by omega)
            have hprod : 0 ≤ r1 * r2 := Int.mul_nonneg p0 p3
            have hprod2 : r1 * r2 ≤ 256 * 16 := Int.mul_le_mul (by omega) (by omega) p3 (by omega)
            clear p4
            go_wp2_with fail
            go_meet
            exact ⟨_, rfl, hCm, grownBy_trans hgn hgm⟩
          · have d : ((k : Int) == 1) = false := by rw [beq_eq_false_iff_ne]; omega
            clear hk1
            go_wp2_with fail
            go_meet
            exact ⟨t, rfl, hC, World.grownBy.refl _ _⟩
        case rest =>
          obtain ⟨q, rfl, hCc, hgc2⟩ := hcut
          have hGc := grownBy_trans HG.out hgc2
          obtain ⟨l, hlq, hll⟩ := (HEX.out.grown hgc2).bsl
          have hcx := (World.cell?_of_block (a := ⟨gx, k, none⟩) (hgc2.block gx hgq (fun e => hgx2 (by injection e)))).trans hcx0.out
          obtain ⟨Ax, nx, cx, rfl⟩ : ∃ A n c, vx = .slice A n c := by obtain ⟨A, c, h, _⟩ := Sl.form hlq; exact ⟨A, _, c, h⟩
          have hgc3 : gx < wc.heap.size := Nat.lt_of_lt_of_le hgq hgc2.size
          have HGc := keep hGc
          clear hC hGc hgc2
          go_wp2_with fail
          refine (seek_any _ l q wc hlq hll).mono ?_
          rintro e w5 ⟨l1, z1, hD1, rfl, hb5⟩
          have hcx5 := (hb5.cell (p := ⟨gx, k, none⟩) hgc3).trans hcx
          have hg5 : gx < w5.heap.size := Nat.lt_of_lt_of_le hgc3 hb5.size
          have hl5 : BSl w5 (lt w5.heap.size) (.slice Ax nx cx) l := hlq.up hb5
          have HD1 := keep hD1
          clear hlq hcx hD1
          obtain ⟨s1, hs1⟩ : ∃ s1, sk l1 q = s1 := ⟨_, rfl⟩
          rw [hs1]
          have HS1 := keep hs1
          clear hs1
          go_wp2_with fail
          refine (refSeek_any _ l q w5 hl5 hll).mono ?_
          rintro e w6 ⟨l2, z2, hD2, rfl, hb6⟩
          obtain ⟨e1, e2⟩ := HD1.out.unique hD2
          subst e1 e2
          rw [HS1.out]
          have hcx6 := (hb6.cell (p := ⟨gx, k, none⟩) hg5).trans hcx5
          have hg6 : gx < w6.heap.size := Nat.lt_of_lt_of_le hg5 hb6.size
          have hl6 : BSl w6 (lt w6.heap.size) (.slice Ax nx cx) l := hl5.up hb6
          have hb56 := bchain hb5 hb6
          clear hl5 hcx5 hD2 hb5 hb6
          go_wp2_with fail
          refine (touched_any _ l q w6 hl6 hll).mono ?_
          rintro e w7 ⟨l2, z2, hD2, rfl, hb7⟩
          obtain ⟨e1, e2⟩ := HD1.out.unique hD2
          subst e1 e2
          rw [HS1.out]
          obtain ⟨n1, hn1⟩ : ∃ n1, (if s1.2 = true then (1 : Int) else 0) = n1 := ⟨_, rfl⟩
          rw [hn1]
          have HN1 := keep hn1
          have hcx7 := (hb7.cell (p := ⟨gx, k, none⟩) hg6).trans hcx6
          have hg7 : gx < w7.heap.size := Nat.lt_of_lt_of_le hg6 hb7.size
          have hl7 : BSl w7 (lt w7.heap.size) (.slice Ax nx cx) l := hl6.up hb7
          have hb57 := bchain hb56 hb7
          clear hl6 hcx6 hD2 hb56 hb7 hn1
          go_wp2_with fail
          refine (refTouched_any _ l q w7 hl7 hll).mono ?_
          rintro e w8 ⟨l2, z2, hD2, rfl, hb8⟩
          obtain ⟨e1, e2⟩ := HD1.out.unique hD2
          subst e1 e2
          rw [HS1.out, HN1.out]
          have hb58 := bchain hb57 hb8
          have hC8 := hCc.under hb58 hCc.lt_
          have hG8 := grownBy_below HGc.out (hb58.mono HGc.out.size)
          obtain ⟨sx, sb⟩ := s1
          have d1 : (sx != sx) = false := by simp
          have d2 : (sb != sb) = false := by simp
          have d3 : (z1 != z1) = false := by simp
          have d4 : (n1 != n1) = false := by simp
          clear hl7 hcx7 hD2 hb57 hb8 hb58 HS1 HN1 HGc hCc
          simp only
          go_wp2_with fail
          go_roundw
          case rel => exact ⟨k + 1, by omega, by go_num, hC8, hG8⟩
          case measure => simp [intOf]; omega
      · have hi2 : (3 : Int) ≤ (k : Int) := by omega
        go_wp2_with fail
        go_ret
        exact ⟨rfl, below_grown hbw8 hG hbw8.size hwg⟩
end Go.Proofs.Ytihimbmbhmgjoaa
