/- The walk of ManifestDecodeInvertsEncode: what the statement's function returns. -/
import Derived.Test.YtkjhnipjhefndaaDecTools
import Derived.Test.YtkjhnipjhefndaaDrawMod
import Derived.Test.YtkjhnipjhefndaaFlip
namespace Go.Proofs.Ytkjhnipjhefndaa
open Go.RowKit

theorem decd_set {m m' : Man} {er : Int} {i : Nat} {y : UInt8} (h : i < (encB m).length) (hy : y ≠ (encB m)[i]) (hD : Decd ((encB m).set i y) m' er) : m' = manZero ∧ er = 15 := by
  have hlen : ((encB m).set i y).length - 4 = (encM m).length := by rw [List.length_set, encB_len]; omega
  have hs := sum_set (encM m) i y h hy
  have hne : crcB (crc (body ((encB m).set i y))) ≠ tail4 ((encB m).set i y) := by
    unfold body tail4
    rw [hlen]
    exact hs
  have hge := encB_ge m
  rcases hD with ⟨k, _⟩ | ⟨_, _, h2, h3⟩ | ⟨_, k, _⟩
  · rw [List.length_set] at k; omega
  · exact ⟨h2, h3⟩
  · exact absurd k hne
theorem max_byte (y : UInt8) : ∃ z : UInt8, (if (y.toNat : Int) < 1 then (1 : Int) else (y.toNat : Int)) = (z.toNat : Int) ∧ z ≠ 0 := by
  by_cases h : (y.toNat : Int) < 1
  · exact ⟨1, by rw [if_pos h]; rfl, by decide⟩
  · refine ⟨y, by rw [if_neg h], fun e => ?_⟩
    rw [e] at h
    exact h (by decide)
theorem xor_ne (x z : UInt8) (h : z ≠ 0) : x ^^^ z ≠ x := by
  intro e
  apply h
  have e2 : x ^^^ (x ^^^ z) = x ^^^ x := by rw [e]
  rw [← UInt8.xor_assoc, UInt8.xor_self, UInt8.zero_xor] at e2
  exact e2

set_option maxHeartbeats 4000000 in
set_option maxRecDepth 100000 in
theorem law_inv (v : Value) (bs : List Int) (x : Int) (y : UInt8) (w : World) (hv : Sl w (lt w.heap.size) 1 v bs.length (bs.map (.int .u8))) (hr : ∀ x ∈ bs, 0 ≤ x ∧ x ≤ 255) (hm : bs.length ≤ maxLen) :
    Calls Try.prog 7 #[v, .int .i64 x, .int .u8 y.toNat] w fun e w' => e = .returned (.bool true) ∧ Below w.heap.size w w' := by
  obtain ⟨Av, cv, rfl, _, hv⟩ := hv.form
  obtain ⟨z, hz, hz0⟩ := max_byte y
  by_cases hy1 : (y.toNat : Int) < 1
  all_goals
    go_enter Try.func7, Try.ntmps7
    go_wp2_with fail
    refine (awake_any _).mono ?_
    rintro e w1 ⟨rfl, hb1⟩
    have hv1 := (hv.below hb1 (Nat.le_refl _)).more hb1.size
    clear hv
    go_wp2_with fail
    refine (drawNew _ bs 200 _ hv1 hr (by omega) hm).mono ?_
    rintro e w2 ⟨gc, rfl, hgc, hC2, hb2⟩
    have hbw2 := bchain hb1 hb2
    have hwg : w.heap.size ≤ gc := by have := hb1.size; omega
    clear hv1 hb1 hb2
    go_wp2_with fail
    refine (drawManifest gc _ hC2).mono ?_
    rintro e w3 ⟨m, mS, mM, mT, mE, rfl, hL, hG, hC3, hg3⟩
    have hbw3 := below_grown hbw2 hg3 hbw2.size hwg
    have HG := keep hG
    have hsm : Hid (SmallP m) := by
      have t := hG.tiny
      exact ⟨by have := t.s; omega, by have := t.m_; omega, by have := t.t; omega, by have := t.e; omega, fun x hx => by have := t.tb x hx; omega, fun x hx => by have := t.eb x hx; omega⟩
    have hout : encOut m = encB m := by unfold encOut; rw [if_pos hG.err]
    have hErr := hG.err
    have hlen : Hid ((encB m).length ≤ 100000) := keep (by rw [encB_len]; exact hG.tiny.len)
    have hge : Hid (8 ≤ (encB m).length) := keep (encB_ge m)
    obtain ⟨A1, c1, rfl, _, _⟩ := hL.s.form
    obtain ⟨A2, c2, rfl, _, _⟩ := hL.m_.form
    obtain ⟨A3, c3, rfl, _, _⟩ := hL.t.form
    obtain ⟨A4, c4, rfl, _, _⟩ := hL.e.form
    clear hC2 hG hg3 hbw2
    go_upto_region 4 with fail
    obtain ⟨X, hX⟩ : ∃ X, X = (#[.int .i64 m.nu, .int .i64 m.nx, .int .i64 m.jo, .slice A1 m.segs.length c1, .slice A2 m.marks.length c2, .slice A3 m.tals.length c3, .slice A4 m.exps.length c4] : Array Value) := ⟨_, rfl⟩
    obtain ⟨ga, hga⟩ : ∃ ga, ga = w3.heap.size := ⟨_, rfl⟩
    obtain ⟨wa, hwa⟩ : ∃ wa, wa = w3.alloc (.cells X 28) := ⟨_, rfl⟩
    rw [← hX, ← hwa, ← hga]
    have hba : Below w3.heap.size w3 wa := by rw [hwa]; exact (Below.refl _ _).alloc (Nat.le_refl _) _
    have hBa : Blk wa ga 28 X := by rw [hwa, hga]; exact Blk.new _ _ _
    have hLa : Lies wa (lt wa.heap.size) m (.slice A1 m.segs.length c1) (.slice A2 m.marks.length c2) (.slice A3 m.tals.length c3) (.slice A4 m.exps.length c4) := (hL.mono (fun k hk => hk.2) : Lies w3 (lt w3.heap.size) m _ _ _ _).below hba
    have hbwa := bchain hbw3 hba
    subst hX
    obtain ⟨a0, a1, a2, a3, a4, a5, a6⟩ := hBa.cell7
    clear hwa hga hba hL hbw3 hC3
    go_wp2_with fail
    refine (encode_any m _ _ _ _ wa hLa hsm.out.small hsm.out.len).mono ?_
    rintro e w4 ⟨vN, rfl, hoN, hb4⟩
    rw [hErr, hout] at *
    have hbw4 := bchain hbwa hb4
    have hBa4 := hBa.below hb4 hBa.lt
    have hLa4 := hLa.below hb4
    have hoN' := hoN.base_ (base' := w.heap.size) hbwa.size
    obtain ⟨AN, cN, rfl, hcN, hoN2⟩ := hoN'.form
    have hEg : 1 ≤ ((encB m).length : Int) := by have := hge.out; omega
    have hEl : ((encB m).length : Int) ≤ 100000 := by have := hlen.out; omega
    have HEg := keep hEg
    have HEl := keep hEl
    clear hLa hoN hoN' hb4 hBa hbwa hout hErr a0 a1 a2 a3 a4 a5 a6 hEg hEl
    have hN4 := hoN2.slt
    go_wp2_with fail
    refine (decode_any _ (encB m) w4 hN4 (by have := hlen.out; omega)).mono ?_
    rintro e w5 ⟨m1, er1, hD1, vS, vM, vT, vE, rfl, hL1, hb5⟩
    obtain ⟨h1m, h1e⟩ := decd_enc HG.out.manI HG.out.err hge.out (by have := hlen.out; omega) hD1
    subst h1m h1e
    obtain ⟨B1, d1, rfl, _, _⟩ := hL1.s.form
    obtain ⟨B2, d2, rfl, _, _⟩ := hL1.m_.form
    obtain ⟨B3, d3, rfl, _, _⟩ := hL1.t.form
    obtain ⟨B4, d4, rfl, _, _⟩ := hL1.e.form
    clear hD1
    go_upto_region 6 with fail
    obtain ⟨Y, hY⟩ : ∃ Y, Y = (#[.int .i64 m1.nu, .int .i64 m1.nx, .int .i64 m1.jo, .slice B1 m1.segs.length d1, .slice B2 m1.marks.length d2, .slice B3 m1.tals.length d3, .slice B4 m1.exps.length d4] : Array Value) := ⟨_, rfl⟩
    obtain ⟨gb, hgb⟩ : ∃ gb, gb = w5.heap.size := ⟨_, rfl⟩
    obtain ⟨wb, hwb⟩ : ∃ wb, wb = w5.alloc (.cells Y 28) := ⟨_, rfl⟩
    rw [← hY, ← hwb, ← hgb]
    have hbb : Below w5.heap.size w5 wb := by rw [hwb]; exact (Below.refl _ _).alloc (Nat.le_refl _) _
    have hBb : Blk wb gb 28 Y := by rw [hwb, hgb]; exact Blk.new _ _ _
    have hBa5 := (hBa4.below hb5 hBa4.lt).below hbb (by have := hBa4.lt; have := hb5.size; omega)
    have hLb1 := (hLa4.below hb5).below hbb
    have hLb2 : Lies wb (lt wb.heap.size) m1 (.slice B1 m1.segs.length d1) (.slice B2 m1.marks.length d2) (.slice B3 m1.tals.length d3) (.slice B4 m1.exps.length d4) := (hL1.mono (fun k hk => hk.2) : Lies w5 (lt w5.heap.size) m1 _ _ _ _).below hbb
    have hb45 := bchain hb5 hbb
    have hbwb := hbw4.trans (hb45.mono hbw4.size)
    have hNb : BSl wb (lt wb.heap.size) (.slice AN (encB m1).length cN) (encB m1) := Sl.more (Sl.below hN4 hb45 (Nat.le_refl _)) hb45.size
    subst hY
    obtain ⟨a0, a1, a2, a3, a4, a5, a6⟩ := hBa5.cell7
    obtain ⟨b0, b1, b2, b3, b4, b5, b6⟩ := hBb.cell7
    have hne : (((encB m1).length : Int) == 0) = false := beq_eq_false_iff_ne.2 (by have := HEg.out; omega)
    clear hwb hgb hbb hL1 hb5 hN4 hBa4 hLa4 hoN2 hb45 hbw4
    go_wp2_with fail
    refine (same_refl m1 _ _ _ _ _ _ _ _ wb hLb1 hLb2 hsm.out.small).mono ?_
    rintro e w6 ⟨rfl, hb6⟩
    have hN6 : BSl w6 (lt w6.heap.size) (.slice AN (encB m1).length cN) (encB m1) := Sl.more (Sl.below hNb hb6 (Nat.le_refl _)) hb6.size
    have hbw6 := bchain hbwb hb6
    clear hNb hLb1 hLb2 hBa5 hBb hbwb hb6 a0 a1 a2 a3 a4 a5 a6 b0 b1 b2 b3 b4 b5 b6 hne
    have hEl := HEl.out
    have hEg := HEg.out
    go_upto_region 9 with (refine wpList_appendBb elB rfl _ _ rfl w6.heap.size (.slice none 0 0) [] rfl (OwnB.nil _ _) (lt w6.heap.size) _ (encB m1) rfl hN6 (by have := hlen.out; simp; omega) (Nat.le_refl _) ?_; intro v7 w7 hown7 hb7 hg7)
    rw [List.nil_append] at hown7
    obtain ⟨A7, c7, rfl, hc7, hownA⟩ := hown7.form
    have hbw7 := hbw6.trans (hb7.mono hbw6.size)
    clear hown7 hg7 hN6
    go_wp2_with fail
    refine (drawMod x ((encB m1).length : Int) w7 (by omega)).mono ?_
    rintro e w8 ⟨r, rfl, r0, r1, rfl⟩
    have hi0 := r1 hEg
    clear r1
    obtain ⟨i, rfl⟩ := Int.eq_ofNat_of_zero_le r0
    have hi : i < (encB m1).length := by omega
    obtain ⟨g7, rfl, hg7b, hg7l, _, hcell, hfz, hownS⟩ := hownA.setAt hi ((encB m1)[i] ^^^ z)
    have hx8 := xor_u8 (encB m1)[i] z
    have hne8 := xor_ne (encB m1)[i] z hz0
    have HSET := keep (fun (m' : Man) (er : Int) (hD : Decd ((encB m1).set i ((encB m1)[i] ^^^ z)) m' er) => decd_set hi hne8 hD)
    simp only [ub] at hcell hownS
    obtain ⟨O, hO⟩ : ∃ O, O = (encB m1).set i ((encB m1)[i] ^^^ z) := ⟨_, rfl⟩
    rw [← hO] at hownS HSET
    have hOl : O.length = (encB m1).length := by rw [hO, List.length_set]
    have hOL := keep hOl
    clear hO hOl hownA hne8
    generalize (encB m1)[i] ^^^ z = zz_ at *
    generalize (encB m1)[i] = e0 at *
    rw [← hz] at hx8
    first | rw [if_pos hy1] at hx8 | rw [if_neg (Int.not_lt.2 hy1)] at hx8
    clear hz hz0
    go_upto_region 10 with fail
    obtain ⟨w9, hw9⟩ : ∃ w9, w9 = w7.setCell ⟨g7, i, none⟩ (.int .u8 (zz_.toNat : Int)) := ⟨_, rfl⟩
    rw [← hw9] at hownS ⊢
    have hb9 : Below w6.heap.size w7 w9 := by rw [hw9]; exact (Below.refl _ _).setCell (p := ⟨g7, i, none⟩) hg7b _
    have hz6 := hbw6.size
    have hbw9 := hbw7.trans (hb9.mono hz6)
    have hO9 : BSl w9 (lt w9.heap.size) (.slice (some ⟨g7, 0, none⟩) (encB m1).length c7) O := hownS.slt
    clear hw9 hb9 hbw7 hownS hcell hfz hx8 hi0 hi r0
    go_wp2_with fail
    refine (decode_any _ O w9 hO9 (by rw [hOL.out]; have := hlen.out; omega)).mono ?_
    rintro e w10 ⟨m2, er2, hD2, uS, uM, uT, uE, rfl, hL2, hb10⟩
    obtain ⟨h2m, h2e⟩ := HSET.out _ _ hD2
    subst h2e
    obtain ⟨B1, d1, rfl, _, _⟩ := hL2.s.form
    obtain ⟨B2, d2, rfl, _, _⟩ := hL2.m_.form
    obtain ⟨B3, d3, rfl, _, _⟩ := hL2.t.form
    obtain ⟨B4, d4, rfl, _, _⟩ := hL2.e.form
    have hbw10 := bchain hbw9 hb10
    clear hD2 hL2 hb10 hO9 hbw9 h2m
    go_wp2_with fail
    go_ret
    exact ⟨rfl, hbw10.alloc hbw10.size _⟩
theorem law_inv_int (v : Value) (bs : List Int) (x y : Int) (w : World) (hv : Sl w (lt w.heap.size) 1 v bs.length (bs.map (.int .u8))) (hr : ∀ x ∈ bs, 0 ≤ x ∧ x ≤ 255) (hm : bs.length ≤ maxLen) (hy : 0 ≤ y ∧ y ≤ 255) :
    Calls Try.prog 7 #[v, .int .i64 x, .int .u8 y] w fun e w' => e = .returned (.bool true) ∧ Below w.heap.size w w' := by
  obtain ⟨z, rfl⟩ : ∃ z : UInt8, y = (z.toNat : Int) := ⟨UInt8.ofNat y.toNat, by rw [UInt8.toNat_ofNat']; omega⟩
  exact law_inv v bs x z w hv hr hm
end Go.Proofs.Ytkjhnipjhefndaa
