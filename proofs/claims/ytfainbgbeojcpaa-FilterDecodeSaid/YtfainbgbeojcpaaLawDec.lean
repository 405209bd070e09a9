/- FilterDecode: the walk of the statement. -/
import Derived.Test.YtfainbgbeojcpaaSameB
import Derived.Test.YtfainbgbeojcpaaFull
import Derived.Test.YtfainbgbeojcpaaNoFalse
import Derived.Test.YtfainbgbeojcpaaDrawMod
import Derived.Deep.RegionLaw
namespace Go.Proofs.Ytfainbgbeojcpaa
open Go.RowKit

theorem encF_le {h : Int} {l : List Int} (hl : l.length ≤ 1500) : (if fok h l.length = true then encF h l else []).length ≤ 1000000 := by
  split
  · rw [encF_len]; omega
  · simp
theorem law_decF_long (h : Int) (A1 : Option Addr) (c1 : Nat) (l : List Int) (Ab : Option Addr) (cb : Nat) (b : List UInt8) (v : Value) (x : Int) (y : UInt8) (w : World) (h5 : 1500 < l.length ∨ 2000 < b.length) :
    Calls Try.prog 6 #[.agg #[.int .i64 h, .slice A1 l.length c1], .slice Ab b.length cb, v, .int .i64 x, .int .u8 y.toNat] w fun e w' => e = .returned (.bool true) ∧ Below w.heap.size w w' := by
  obtain ⟨W, hW⟩ : ∃ W, W = w.alloc (.cells #[.int .i64 h, .slice A1 l.length c1] 27) := ⟨_, rfl⟩
  have hf0 : Blk W w.heap.size 27 #[.int .i64 h, .slice A1 l.length c1] := hW ▸ Blk.new _ _ _
  have hbW : Below w.heap.size w W := hW ▸ (Below.refl _ w).alloc (Nat.le_refl _) _
  by_cases h6 : 1500 < l.length
  · have d1 : decide ((1500 : Int) < (l.length : Int)) = true := by simp; omega
    go_enter Try.func6, Try.ntmps6
    go_wp2_with fail
    rw [← hW]
    clear hW
    refine (awake_true _).mono ?_
    rintro e w1 ⟨rfl, hb1⟩
    have hk1 := (hf0.below hb1 hf0.lt).cell 1
    simp only [List.getElem?_toArray, List.getElem?_cons_succ, List.getElem?_cons_zero] at hk1
    go_wp2_with fail
    go_ret
    exact ⟨rfl, bchain hbW hb1⟩
  · have d1 : decide ((1500 : Int) < (l.length : Int)) = false := by simp; omega
    have d2 : decide ((2000 : Int) < (b.length : Int)) = true := by simp; omega
    clear h5
    go_enter Try.func6, Try.ntmps6
    go_wp2_with fail
    rw [← hW]
    clear hW
    refine (awake_true _).mono ?_
    rintro e w1 ⟨rfl, hb1⟩
    have hk1 := (hf0.below hb1 hf0.lt).cell 1
    simp only [List.getElem?_toArray, List.getElem?_cons_succ, List.getElem?_cons_zero] at hk1
    go_wp2_with fail
    go_ret
    exact ⟨rfl, bchain hbW hb1⟩

set_option maxHeartbeats 4000000 in
set_option maxRecDepth 100000 in
theorem law_decF_short (h : Int) (s vb v : Value) (l : List Int) (b : List UInt8) (bs : List Int) (x : Int) (y : UInt8) (w : World) (hs : Sl w (lt w.heap.size) 1 s l.length (l.map (.int .u64))) (hlu : ∀ x ∈ l, 0 ≤ x ∧ x < 18446744073709551616)
    (hvb : BSl w (lt w.heap.size) vb b) (hv : Sl w (lt w.heap.size) 1 v bs.length (bs.map (.int .u8))) (hr : ∀ x ∈ bs, 0 ≤ x ∧ x ≤ 255) (hm : bs.length ≤ maxLen) (h6 : l.length ≤ 1500) (h7 : b.length ≤ 2000) :
    Calls Try.prog 6 #[.agg #[.int .i64 h, s], vb, v, .int .i64 x, .int .u8 y.toNat] w fun e w' => e = .returned (.bool true) ∧ Below w.heap.size w w' := by
  obtain ⟨A1, c1, rfl, hc1, hs⟩ := hs.form
  obtain ⟨Ab, cb, rfl, hcb, hvb⟩ := hvb.form
  obtain ⟨Av, cv, rfl, _, hv⟩ := hv.form
  have d1 : decide ((1500 : Int) < (l.length : Int)) = false := by simp; omega
  have d2 : decide ((2000 : Int) < (b.length : Int)) = false := by simp; omega
  have HBL := keep (show b.length ≤ 1000000 by omega)
  have HEl := keep (encF_le (h := h) h6)
  have HE1 := keep (fun (w : World) hs => encF_any h A1 c1 l w hs hlu)
  have HE2 := keep (fun (w : World) hs => refEncF_any h A1 c1 l w hs hlu)
  unfold EncFRes at HE1 HE2
  obtain ⟨E1, hE1⟩ : ∃ E1, (if fok h l.length = true then encF h l else []) = E1 := ⟨_, rfl⟩
  obtain ⟨z1, hz1⟩ : ∃ z1 : Int, (if fok h l.length = true then 0 else 2) = z1 := ⟨_, rfl⟩
  rw [hE1] at HEl
  simp only [hE1, hz1] at HE1 HE2
  clear hE1 hz1 hlu h6 h7
  obtain ⟨W, hW⟩ : ∃ W, W = w.alloc (.cells #[.int .i64 h, .slice A1 l.length c1] 27) := ⟨_, rfl⟩
  have hf0 : Blk W w.heap.size 27 #[.int .i64 h, .slice A1 l.length c1] := hW ▸ Blk.new _ _ _
  have hbW : Below w.heap.size w W := hW ▸ (Below.refl _ w).alloc (Nat.le_refl _) _
  go_enter Try.func6, Try.ntmps6
  go_wp2_with fail
  rw [← hW]
  clear hW
  refine (awake_true _).mono ?_
  rintro e w1 ⟨rfl, hb1⟩
  have hf1 := hf0.below hb1 hf0.lt
  have hbw1 := bchain hbW hb1
  have hs1 := (hs.below hbw1 (Nat.le_refl _)).more hbw1.size
  have hvb1 : BSl w1 (lt w.heap.size) (.slice Ab b.length cb) b := Sl.below hvb hbw1 (Nat.le_refl _)
  have hv1 := hv.below hbw1 (Nat.le_refl _)
  obtain ⟨q1, q2⟩ := hf1.cell2
  have hl1 := hf1.lt
  clear hbW hb1 hs hvb hv hf0
  go_wp2_with fail
  refine (HE1.out w1 hs1).mono ?_
  rintro e w2 ⟨v2, rfl, ho2, hb2⟩
  have hf2 := hf1.below hb2 hl1
  have hbw2 := bchain hbw1 hb2
  have hs2 := (hs1.below hb2 (Nat.le_refl _)).more hb2.size
  have hvb2 : BSl w2 (lt w.heap.size) (.slice Ab b.length cb) b := Sl.below hvb1 hb2 hbw1.size
  have hv2 := hv1.below hb2 hbw1.size
  obtain ⟨A2, c2, rfl, hc2, ho2⟩ := ho2.form
  clear q1 q2 hf1 hbw1 hs1 hvb1 hv1 hb2
  obtain ⟨q1, q2⟩ := hf2.cell2
  have hl2 := hf2.lt
  go_wp2_with fail
  refine (HE2.out w2 hs2).mono ?_
  rintro e w3 ⟨v3, rfl, ho3, hb3⟩
  have hbw3 := bchain hbw2 hb3
  have hvb3 : BSl w3 (lt w.heap.size) (.slice Ab b.length cb) b := Sl.below hvb2 hb3 hbw2.size
  have hv3 := hv2.below hb3 hbw2.size
  have hE3 : BSl w3 (lt w3.heap.size) (.slice A2 E1.length c2) E1 := Sl.more (Sl.below ho2.slt hb3 (Nat.le_refl _)) hb3.size
  obtain ⟨A3, c3, rfl, hc3, ho3⟩ := ho3.form
  have hR3 := ho3.slt
  have HSB := keep (sameB_any _ _ E1 E1 w3 hE3 hR3 (by have := HEl.out; omega))
  have dne : (z1 != z1) = false := by simp
  clear q1 q2 hf2 hbw2 hs2 hvb2 hv2 hb3 ho2 ho3 hE3 hR3 hl1 hl2
  go_wp2_with fail
  refine HSB.out.mono ?_
  rintro e w4 ⟨he4, hb4⟩
  rw [decide_eq_true rfl] at he4
  subst he4
  have hbw4 := bchain hbw3 hb4
  have hvb4 : BSl w4 (lt w.heap.size) (.slice Ab b.length cb) b := Sl.below hvb3 hb4 hbw3.size
  have hv4 := (hv3.below hb4 hbw3.size).more hbw4.size
  clear hvb3 hv3 hb4 hbw3
  go_wp2_with fail
  refine (drawNew _ bs 60 _ hv4 hr (by omega) hm).mono ?_
  rintro e w5 ⟨gc, rfl, hgc, hC5, hb5⟩
  have hgc5 := hC5.lt_
  have hbw5 := bchain hbw4 hb5
  have hvb5 : BSl w5 (lt w.heap.size) (.slice Ab b.length cb) b := Sl.below hvb4 hb5 hbw4.size
  clear hvb4 hb5 hv4
  go_wp2_with fail
  refine (words_any gc _ hC5).mono ?_
  rintro e w6 ⟨v6, l6, rfl, hl6, hll6, hown6, hC6, hg6⟩
  have hz4 := hbw4.size
  have hb6 : Below w.heap.size w5 w6 := ⟨hg6.os, hg6.tape, hg6.output, hg6.size, fun k hk => hg6.block k (by omega) (fun e => by injection e; omega)⟩
  have hbw6 := hbw5.trans hb6
  have hvb6 : BSl w6 (lt w.heap.size) (.slice Ab b.length cb) b := Sl.below hvb5 hb6 (Nat.le_refl _)
  go_wp2_with fail
  refine (refBuild_ok v6 l6 8 _ (Sl.of_own hown6) (by omega) (fun s hs => by have := hll6 s hs; unfold maxLen; omega) (by omega) (by omega)).mono ?_
  rintro e w7 ⟨v7, rfl, hown7, hb7⟩
  have hbw7 := bchain hbw6 hb7
  have hvb7 : BSl w7 (lt w.heap.size) (.slice Ab b.length cb) b := Sl.below hvb6 hb7 hbw6.size
  have hln7 : (built (fwords (bmax l6.length * 8)) 3 l6).length = fwords (bmax l6.length * 8) := built_len _ _ _
  have hS7 : Sl w7 (lt w7.heap.size) 1 v7 (built (fwords (bmax l6.length * 8)) 3 l6).length ((built (fwords (bmax l6.length * 8)) 3 l6).map (.int .u64)) := by rw [hln7]; exact Sl.of_own hown7
  have hUL := built_UL (fwords (bmax l6.length * 8)) 3 l6
  have hf7 : 1 ≤ fwords (bmax l6.length * 8) ∧ fwords (bmax l6.length * 8) ≤ 1024 := by have h := bprod_bd l6.length 8 (by omega) (by omega) (by omega); exact fwords_bd h.1 (by omega)
  rw [← hln7] at hf7
  clear hln7 hown7
  generalize built (fwords (bmax l6.length * 8)) 3 l6 = b7 at *
  obtain ⟨A7, c7, rfl, _, hS7⟩ := hS7.form
  clear hvb5 hvb6 hown6 hC5 hC6 hg6 hb6 hb7 hl6 hll6 hbw5 hbw6 hbw4 hz4 hgc hgc5
  go_wp2_with fail
  have hB7 := Blk.new w7 27 #[.int .i64 3, .slice A7 b7.length c7]
  have hbx : Below w7.heap.size w7 (w7.alloc (.cells #[.int .i64 3, .slice A7 b7.length c7] 27)) := (Below.refl _ w7).alloc (Nat.le_refl _) _
  have hbW7 := bchain hbw7 hbx
  have hvbW : BSl (w7.alloc (.cells #[.int .i64 3, .slice A7 b7.length c7] 27)) (lt w.heap.size) (.slice Ab b.length cb) b := Sl.below hvb7 hbx hbw7.size
  have hSW := (hS7.below hbx (Nat.le_refl _)).more hbx.size
  obtain ⟨gb, hgb⟩ : ∃ gb, w7.heap.size = gb := ⟨_, rfl⟩
  obtain ⟨W7, hW7⟩ : ∃ W7, w7.alloc (.cells #[.int .i64 3, .slice A7 b7.length c7] 27) = W7 := ⟨_, rfl⟩
  rw [hW7] at hB7 hbW7 hvbW hSW
  rw [hW7]
  rw [hgb] at hB7
  rw [hgb]
  clear hW7 hgb hbx hvb7 hS7 hbw7
  have hfk : fok 3 b7.length = true := by simp [fok]; omega
  have hEn := refEncF_any 3 A7 c7 b7 W7 hSW hUL
  unfold EncFRes at hEn
  simp only [hfk, if_true] at hEn
  have HDE := keep (decSpec_enc 3 b7 hfk hUL)
  have hEL := encF_len 3 b7
  have hlen := keep (show (encF 3 b7).length ≤ 900000 by omega)
  have hge := keep (show 1 ≤ (encF 3 b7).length by omega)
  have h7l := hf7.2
  clear hEL hUL hfk hf7
  obtain ⟨E, hEE⟩ : ∃ E, encF 3 b7 = E := ⟨_, rfl⟩
  rw [hEE] at hEn HDE hlen hge
  clear hEE
  have HEn := keep hEn
  clear hEn
  refine HEn.out.mono ?_
  rintro e w14 ⟨vN, rfl, hoN, hb14⟩
  have hbw14 := bchain hbW7 hb14
  have hvb14 : BSl w14 (lt w.heap.size) (.slice Ab b.length cb) b := Sl.below hvbW hb14 hbW7.size
  have hB14 := hB7.below hb14 hB7.lt
  have hS14 := (hSW.below hb14 (Nat.le_refl _)).more hb14.size
  have hoN' := hoN.base_ (base' := w.heap.size) hbW7.size
  obtain ⟨AN, cN, rfl, hcN, hoN2⟩ := hoN'.form
  have hbase := hbw14.size
  clear hoN hoN' hb14 hbW7 hvbW hB7 hSW HEn HE1 HE2 HSB
  go_upto_region 9 with fail
  go_upto_region 10 with (refine wpList_appendBb elB rfl _ _ rfl w14.heap.size (.slice none 0 0) [] rfl (OwnB.nil _ _) (lt w14.heap.size) _ E rfl hoN2.slt (by have := hlen.out; simp; omega) (Nat.le_refl _) ?_; intro v15 w15 hown15 hb15 hg15)
  rw [List.nil_append] at hown15
  obtain ⟨A5, c5, rfl, hc5, hownA⟩ := hown15.form
  have hEl : (E.length : Int) ≤ 900000 := by have := hlen.out; omega
  have hEg : 1 ≤ (E.length : Int) := by have := hge.out; omega
  have hbw15 := hbw14.trans (hb15.mono hbase)
  have hvb15 : BSl w15 (lt w.heap.size) (.slice Ab b.length cb) b := Sl.below hvb14 hb15 hbase
  have hN15 : BSl w15 (lt w14.heap.size) (.slice AN E.length cN) E := Sl.below hoN2.slt hb15 (Nat.le_refl _)
  have hB15 := hB14.below hb15 hB14.lt
  have hS15 := hS14.below hb15 (Nat.le_refl _)
  have hl14 := hB14.lt
  clear hown15 hb15 hg15 hoN2 hvb14 hbw14 hB14 hS14
  go_wp2_with fail
  refine (drawMod x (E.length : Int) w15 (by omega)).mono ?_
  rintro e w16 ⟨r, rfl, r0, r1, rfl⟩
  have hi0 := r1 hEg
  clear r1
  obtain ⟨i, rfl⟩ := Int.eq_ofNat_of_zero_le r0
  have hi : i < E.length := by omega
  obtain ⟨g5, rfl, hg5b, hg5l, _, hcell, hfz, hownS⟩ := hownA.setAt hi (E[i] ^^^ y)
  have hx8 := xor_u8 E[i] y
  simp only [ub] at hcell hownS
  obtain ⟨O, hO⟩ : ∃ O, O = E.set i (E[i] ^^^ y) := ⟨_, rfl⟩
  rw [← hO] at hownS
  have hOl : O.length = E.length := by rw [hO, List.length_set]
  have hOL := keep hOl
  clear hO hOl hownA
  generalize E[i] ^^^ y = z at *
  generalize E[i] = e0 at *
  go_upto_region 11 with fail
  obtain ⟨w17, hw17⟩ : ∃ w17, w17 = w15.setCell ⟨g5, i, none⟩ (.int .u8 (z.toNat : Int)) := ⟨_, rfl⟩
  rw [← hw17] at hownS ⊢
  have hb17 : Below w14.heap.size w15 w17 := by rw [hw17]; exact (Below.refl _ _).setCell (p := ⟨g5, i, none⟩) hg5b _
  have hz15 := hbw15.size
  have hbw17 := hbw15.trans (hb17.mono hbase)
  have hvb17 : BSl w17 (lt w.heap.size) (.slice Ab b.length cb) b := Sl.below hvb15 hb17 hbase
  have hN17 : BSl w17 (lt w14.heap.size) (.slice AN E.length cN) E := Sl.below hN15 hb17 (Nat.le_refl _)
  have hB17 := hB15.below hb17 hl14
  have hS17 := hS15.below hb17 (Nat.le_refl _)
  have hz17 := hb17.size
  have hz1417 : w14.heap.size ≤ w17.heap.size := by
    have h1 : w15.heap.size = w17.heap.size := by rw [hw17]; simp [World.setCell]
    omega
  obtain ⟨bN, oN, hAN, hbN, hrN⟩ := Sl.row (w := w17) (S := lt w14.heap.size) (A := AN) (n := E.length) (c := cN) (size := 1) hN17 (by omega)
  subst hAN
  have hN7f : BSl w17 (lt w14.heap.size) (.slice (some ⟨bN, oN, none⟩) E.length E.length) E := ⟨by simp, _, _, rfl, Nat.le_refl _, fun _ => ⟨bN, oN, rfl, hbN, hrN⟩⟩
  have hcN' : (E.length : Int) ≤ (cN : Int) := by omega
  have hNA := keep (show BSl (w17.drew.alloc (.cells #[.int .u8 0] 5)) (lt w14.heap.size) (.slice (some ⟨bN, oN, none⟩) E.length E.length) E from Sl.below hN7f (((Below.refl _ w17).drew).alloc hz1417 _) (Nat.le_refl _))
  have h0E : 0 < E.length := by omega
  obtain ⟨T, hT⟩ : ∃ T, E.length - 1 = T := ⟨_, rfl⟩
  have hTE : E.length = T + 1 := by omega
  have hTw : IntKind.i64.wrap ((E.length : Int) - 1) = (T : Int) := by
    rw [show ((E.length : Int) - 1) = (T : Int) by omega]
    exact IntWalk.i64_in _ (by omega)
  have hT0 : (0 : Int) ≤ (T : Int) := by omega
  have hT1 : (T : Int) ≤ (cN : Int) := by omega
  have HTE := keep hTE
  have hE0 : (0 : Int) ≤ (E.length : Int) := by omega
  clear hT hTE
  have HE63 := keep (show E.length + [(0 : UInt8)].length ≤ 140737488355328 by simp; omega)
  clear hw17 hb17 hbw15 hvb15 hN15 hcell hfz hx8 hi0 hi r0 hrN hz15 hB15 hS15
  go_region_law (refine step_appendFull elB rfl (.tmp 102) (.tmp 103) rfl bN oN E (lt w14.heap.size) (fun _ => True) rfl hNA.out h0E _ [0] rfl (one_bsl _) (by decide) HE63.out ?_; intro vF wF hownF hbF; obtain ⟨AF, cF, rfl, hcF, hownF2⟩ := hownF.form)
  have hbF2 : Below w17.heap.size w17 wF := (((Below.refl _ w17).drew).alloc (Nat.le_refl _) _).trans (hbF.mono (by simp))
  have hbwF := bchain hbw17 hbF2
  have hvbF : BSl wF (lt w.heap.size) (.slice Ab b.length cb) b := Sl.below hvb17 hbF2 hbw17.size
  have hNF : BSl wF (lt w14.heap.size) (.slice (some ⟨bN, oN, none⟩) E.length cN) E := Sl.below hN17 hbF2 hz1417
  have hOF : BSl wF (lt w17.heap.size) (.slice (some ⟨g5, 0, none⟩) E.length c5) O := Sl.below hownS.slt hbF2 (Nat.le_refl _)
  have hTF : BSl wF (lt w14.heap.size) (.slice (some ⟨bN, oN, none⟩) T cN) (E.take T) := by
    have hN7' : Sl wF (lt w14.heap.size) 1 (.slice (some ⟨bN, oN, none⟩) E.length cN) E.length (E.map ub) := hNF
    have hTl := HTE.out
    have := hN7'.take (k := T) (by omega)
    unfold BSl
    rw [Nat.mul_one] at this
    rwa [List.map_take, show (E.take T).length = T by simp; omega]
  have hAF : BSl wF (lt wF.heap.size) (.slice AF (E.length + 1) cF) (E ++ [0]) := by
    have := hownF2.slt
    rwa [show (E ++ [(0 : UInt8)]).length = E.length + 1 by simp] at this
  have hBF := hB17.below hbF2 hB17.lt
  have hSF := hS17.below hbF2 hz1417
  go_wp2_with fail
  obtain ⟨gx, hgx⟩ : ∃ gx, gx = wF.heap.size := ⟨_, rfl⟩
  obtain ⟨W8, hW8⟩ : ∃ W8, W8 = wF.alloc (.cells #[.slice Ab b.length cb, .slice (some ⟨bN, oN, none⟩) E.length cN, .slice (some ⟨g5, 0, none⟩) E.length c5, .slice (some ⟨bN, oN, none⟩) T cN, .slice AF (E.length + 1) cF] 36) := ⟨_, rfl⟩
  rw [← hW8, ← hgx]
  have hb8 : Below wF.heap.size wF W8 := by rw [hW8]; exact (Below.refl _ _).alloc (Nat.le_refl _) _
  have hB8 : Blk W8 gx 36 #[.slice Ab b.length cb, .slice (some ⟨bN, oN, none⟩) E.length cN, .slice (some ⟨g5, 0, none⟩) E.length c5, .slice (some ⟨bN, oN, none⟩) T cN, .slice AF (E.length + 1) cF] := by rw [hW8, hgx]; exact Blk.new _ _ _
  have hz78 := hb8.size
  have hbw8 := bchain hbwF hb8
  have hzw := hbwF.size
  have hzF := hbF2.size
  have hBx8 := hBF.below hb8 hBF.lt
  have hSx8 := (hSF.below hb8 (by omega)).mono (S' := lt W8.heap.size) (fun k hk => by have : k < w14.heap.size := hk; show k < W8.heap.size; omega)
  have hq0 : Fiv W8 W8.heap.size E 0 (.slice Ab b.length cb) := ⟨b, Sl.mono (Sl.below hvbF hb8 (by omega)) (fun k hk => by have : k < w.heap.size := hk; show k < W8.heap.size; omega), HBL.out, fun h => by omega⟩
  have hq1 : Fiv W8 W8.heap.size E 1 (.slice (some ⟨bN, oN, none⟩) E.length cN) := ⟨E, Sl.mono (Sl.below hNF hb8 (by omega)) (fun k hk => by have : k < w14.heap.size := hk; show k < W8.heap.size; omega), by have := hlen.out; omega, fun _ => rfl⟩
  have hq2 : Fiv W8 W8.heap.size E 2 (.slice (some ⟨g5, 0, none⟩) E.length c5) := ⟨O, Sl.mono (Sl.below hOF hb8 (by omega)) (fun k hk => by have : k < w17.heap.size := hk; show k < W8.heap.size; omega), by rw [hOL.out]; have := hlen.out; omega, fun h => by omega⟩
  have hq3 : Fiv W8 W8.heap.size E 3 (.slice (some ⟨bN, oN, none⟩) T cN) := ⟨E.take T, Sl.mono (Sl.below hTF hb8 (by omega)) (fun k hk => by have : k < w14.heap.size := hk; show k < W8.heap.size; omega), by rw [List.length_take]; have := hlen.out; omega, fun h => by omega⟩
  have hq4 : Fiv W8 W8.heap.size E 4 (.slice AF (E.length + 1) cF) := ⟨E ++ [0], Sl.mono (Sl.below hAF hb8 (Nat.le_refl _)) (fun k hk => by have : k < wF.heap.size := hk; show k < W8.heap.size; omega), by rw [List.length_append]; have := hlen.out; simp; omega, fun h => by omega⟩
  have hgb8 := hBx8.lt
  have HBX := keep hBx8
  have HSX := keep hSx8
  clear hW8 hgx hb8 hvbF hNF hOF hTF hAF hbwF hz78 hEl hEg hbF hbF2 hBF hSF hB17 hS17 hvb17 hN17 hN7f hownS hownF hownF2 hNA hBx8 hSx8 hbw17 hTw hT0 hT1 hE0 h0E HE63
  have hlx := hB8.lt
  go_loopw [19, 20, 21, 22, 23] (fun i _ _ _ _ wr => ∃ k : Nat, k ≤ 5 ∧ i = .int .i64 k ∧ Below W8.heap.size W8 wr) (fun i _ _ _ _ _ => 5 - (intOf i).toNat)
  case atStart => exact ⟨0, Nat.zero_le _, rfl, Below.refl _ _⟩
  case round =>
    obtain ⟨k, hk, rfl, hb⟩ := hrel
    obtain ⟨wq, rfl⟩ : ∃ wq : World, wq = wr := ⟨_, rfl⟩
    by_cases hlt : k < 5
    · obtain ⟨vx, hcx, m, hm1, hm2, hm3⟩ := five_at (Q := Fiv W8 W8.heap.size E) (hB8.below hb hlx) hq0 hq1 hq2 hq3 hq4 hlt
      have hmq : BSl wq (lt wq.heap.size) vx m := Sl.more (Sl.below hm1 hb (Nat.le_refl _)) hb.size
      obtain ⟨Ax, nx, cx, rfl⟩ : ∃ A n c, vx = .slice A n c := by obtain ⟨A, c, h, _⟩ := Sl.form hmq; exact ⟨A, _, c, h⟩
      have hi1 : (0 : Int) ≤ (k : Int) := by omega
      have hi2 : (k : Int) < 5 := by omega
      have hBq := HBX.out.below hb hgb8
      have hSq := (HSX.out.below hb (Nat.le_refl _)).more hb.size
      have HBq := keep hb
      have hgq : gx < wq.heap.size := Nat.lt_of_lt_of_le hlx hb.size
      have hgbq : gb < wq.heap.size := hBq.lt
      obtain ⟨R, hR⟩ : ∃ R, decSpec m = R := ⟨_, rfl⟩
      have hRl : R.2.1.length ≤ 1024 := hR ▸ decSpec_len m
      have hR1 : k = 1 → R = (3, b7, 0) := fun hk => by rw [← hR, hm3 hk, HDE.out]
      have HD1 := keep (decF_any _ m wq hmq hm2)
      have HD2 := keep (fun (W : World) (h : BSl W (lt W.heap.size) (.slice Ax nx cx) m) => refDecF_any _ m W h hm2)
      unfold DecFRes at HD1 HD2
      rw [hR] at HD1
      simp only [hR] at HD2
      have HM3 := keep hR1
      clear hm1 hm3 hb hR hR1
      obtain ⟨h9, L9, z9⟩ := R
      simp only at hRl
      unfold UnionRes at HD1 HD2
      simp only at HD1 HD2
      go_wp2_with fail
      refine HD1.out.mono ?_
      rintro e w9 ⟨v9, rfl, hS9, hb9⟩
      obtain ⟨A9, c9, rfl, _, hS9'⟩ := hS9.form
      go_upto_region 16 with fail
      have hz9 := hb9.size
      obtain ⟨gy, hgy⟩ : ∃ gy, gy = w9.heap.size := ⟨_, rfl⟩
      obtain ⟨W9, hW9⟩ : ∃ W9, W9 = w9.alloc (.cells #[.int .i64 h9, .slice A9 L9.length c9] 27) := ⟨_, rfl⟩
      rw [← hW9, ← hgy]
      have hbx9 : Below w9.heap.size w9 W9 := by rw [hW9]; exact (Below.refl _ _).alloc (Nat.le_refl _) _
      have hBy9 : Blk W9 gy 27 #[.int .i64 h9, .slice A9 L9.length c9] := by rw [hW9, hgy]; exact Blk.new _ _ _
      have hSy9 := (hS9'.under hbx9 (fun _ h => h.2)).mono (S' := lt W9.heap.size) (fun k hk => by have := hk.2; have := hbx9.size; show k < W9.heap.size; omega)
      have hbq9 := bchain hb9 hbx9
      have hcx9 := (hbq9.cell (p := ⟨gx, k, none⟩) hgq).trans hcx
      have hm9 := hmq.up hbq9
      have hBx9 := hBq.below hbq9 hgbq
      have hSx9 := (hSq.below hbq9 (Nat.le_refl _)).more hbq9.size
      have hgy9 := hBy9.lt
      have hgx9 : gx < W9.heap.size := by have := hbq9.size; omega
      have hgb9 := hBx9.lt
      clear hW9 hgy hbx9 hb9 hS9 hS9' hz9 hcx hmq hBq hSq hgbq HD1
      go_wp2_with fail
      refine (HD2.out W9 hm9).mono ?_
      rintro e w10 ⟨v10, rfl, hS10, hb10⟩
      obtain ⟨A10, c10, rfl, _, hS10'⟩ := hS10.form
      go_upto_region 17 with fail
      have hz10 := hb10.size
      obtain ⟨gz, hgz⟩ : ∃ gz, gz = w10.heap.size := ⟨_, rfl⟩
      obtain ⟨W10, hW10⟩ : ∃ W10, W10 = w10.alloc (.cells #[.int .i64 h9, .slice A10 L9.length c10] 27) := ⟨_, rfl⟩
      rw [← hW10, ← hgz]
      have hbx10 : Below w10.heap.size w10 W10 := by rw [hW10]; exact (Below.refl _ _).alloc (Nat.le_refl _) _
      have hBz := show Blk W10 gz 27 #[.int .i64 h9, .slice A10 L9.length c10] by rw [hW10, hgz]; exact Blk.new _ _ _
      have hSz := (hS10'.under hbx10 (fun _ h => h.2)).mono (S' := lt W10.heap.size) (fun k hk => by have := hk.2; have := hbx10.size; show k < W10.heap.size; omega)
      have hbq10 := bchain hb10 hbx10
      have hBy := hBy9.below hbq10 hgy9
      have hSy := (hSy9.below hbq10 (Nat.le_refl _)).more hbq10.size
      have hBx := hBx9.below hbq10 hgb9
      have hSx := (hSx9.below hbq10 (Nat.le_refl _)).more hbq10.size
      have hbr := HBq.out.trans ((bchain hbq9 hbq10).mono HBq.out.size)
      clear hW10 hgz hbx10 hb10 hS10 hS10' hz10 hBy9 hSy9 hBx9 hSx9 hcx9 hm9 hbq9 hbq10 HD2
      obtain ⟨y0, y1⟩ := hBy.cell2
      obtain ⟨u0, u1⟩ := hBz.cell2
      obtain ⟨p0, p1⟩ := hBx.cell2
      have dne : (z9 != z9) = false := by simp
      by_cases hk1 : k = 1
      · have hRR := HM3.out hk1
        simp only [Prod.mk.injEq] at hRR
        obtain ⟨rfl, rfl, rfl⟩ := hRR
        subst hk1
        go_wp2_with fail
        refine (same_true 3 L9 _ _ W10 hSy hSz (by omega)).mono ?_
        rintro e w11 ⟨rfl, hb11⟩
        obtain ⟨y2, y3⟩ := (hBy.below hb11 hBy.lt).cell2
        obtain ⟨p2, p3⟩ := (hBx.below hb11 hBx.lt).cell2
        have hSy2 := (hSy.below hb11 (Nat.le_refl _)).more hb11.size
        have hSx2 := (hSx.below hb11 (Nat.le_refl _)).more hb11.size
        have hbr2 := hbr.trans (hb11.mono hbr.size)
        clear y0 y1 u0 u1 p0 p1 hb11
        go_wp2_with fail
        refine (same_true 3 L9 _ _ w11 hSy2 hSx2 (by omega)).mono ?_
        rintro e w12 ⟨rfl, hb12⟩
        have hbr3 := hbr2.trans (hb12.mono hbr2.size)
        go_wp2_with fail
        go_roundw
        case rel => exact ⟨2, by omega, by go_num, hbr3⟩
        case measure => simp [intOf]
      · have dk : ((k : Int) == 1) = false := by simp; omega
        have dk2 : ¬ (k : Int) = 1 := by omega
        go_wp2_with fail
        refine (same_true h9 L9 _ _ W10 hSy hSz (by omega)).mono ?_
        rintro e w11 ⟨rfl, hb11⟩
        have hbr2 := hbr.trans (hb11.mono hbr.size)
        clear y0 y1 u0 u1 p0 p1 hb11
        go_wp2_with fail
        go_roundw
        case rel => exact ⟨k + 1, by omega, by go_num, hbr2⟩
        case measure => simp [intOf]; omega
    · go_wp2_with fail
      go_ret
      exact ⟨rfl, bchain hbw8 hb⟩
theorem byte_of {y : Int} (h : 0 ≤ y ∧ y ≤ 255) : ∃ z : UInt8, y = (z.toNat : Int) := ⟨UInt8.ofNat y.toNat, by rw [UInt8.toNat_ofNat']; omega⟩
theorem law_decF (h : Int) (s vb v : Value) (l b bs : List Int) (x y : Int) (w : World) (hs : Sl w (lt w.heap.size) 1 s l.length (l.map (.int .u64))) (hlu : ∀ x ∈ l, 0 ≤ x ∧ x < 18446744073709551616)
    (hvb : Sl w (lt w.heap.size) 1 vb b.length (b.map (.int .u8))) (hrb : ∀ x ∈ b, 0 ≤ x ∧ x ≤ 255) (hv : Sl w (lt w.heap.size) 1 v bs.length (bs.map (.int .u8))) (hr : ∀ x ∈ bs, 0 ≤ x ∧ x ≤ 255) (hm : bs.length ≤ maxLen) (hy : 0 ≤ y ∧ y ≤ 255) :
    Calls Try.prog 6 #[.agg #[.int .i64 h, s], vb, v, .int .i64 x, .int .u8 y] w fun e w' => e = .returned (.bool true) ∧ Below w.heap.size w w' := by
  obtain ⟨z, rfl⟩ := byte_of hy
  have hb := bsl_ints hvb hrb
  by_cases h5 : 1500 < l.length ∨ 2000 < (b.map fun x => UInt8.ofNat x.toNat).length
  · obtain ⟨A1, c1, rfl, _, _⟩ := hs.form
    obtain ⟨Ab, cb, rfl, _, _⟩ := hb.form
    exact law_decF_long h A1 c1 l Ab cb _ v x z w h5
  · exact law_decF_short h s vb v l _ bs x z w hs hlu hb hv hr hm (by omega) (by omega)
end Go.Proofs.Ytfainbgbeojcpaa
