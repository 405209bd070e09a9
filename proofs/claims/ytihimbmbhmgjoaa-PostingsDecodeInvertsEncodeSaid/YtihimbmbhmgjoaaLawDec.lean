/- PostingsDecode: the walk of the statement. -/
import Derived.Test.YtihimbmbhmgjoaaRefDec
import Derived.Test.YtihimbmbhmgjoaaFull
import Derived.Test.YtihimbmbhmgjoaaLists
import Derived.Test.YtihimbmbhmgjoaaLattice
import Derived.Test.YtihimbmbhmgjoaaDrawMod
namespace Go.Proofs.Ytihimbmbhmgjoaa
open Go.RowKit

/-- What decoding comes to: the list and the error number. -/
def IsDec (b : List UInt8) (l : List Int) (z : Int) : Prop := (IsPost b l ∧ z = 0) ∨ ((∀ l, ¬ IsPost b l) ∧ l = [] ∧ z = 22)
theorem IsDec.unique {b : List UInt8} {l m : List Int} {y z : Int} (h : IsDec b l y) (k : IsDec b m z) : l = m ∧ y = z := by
  rcases h with ⟨h1, rfl⟩ | ⟨h1, rfl, rfl⟩
  · rcases k with ⟨k1, rfl⟩ | ⟨k1, _, _⟩
    · exact ⟨h1.unique k1, rfl⟩
    · exact absurd h1 (k1 _)
  · rcases k with ⟨k1, _⟩ | ⟨_, rfl, rfl⟩
    · exact absurd k1 (h1 _)
    · exact ⟨rfl, rfl⟩
theorem IsDec.len {b : List UInt8} {l : List Int} {z : Int} (h : IsDec b l z) : l.length ≤ 4096 := by
  rcases h with ⟨h1, _⟩ | ⟨_, rfl, _⟩
  · exact (rise_of_check h1.1).2
  · simp
def DecOut (w : World) (b : List UInt8) (e : Ending) (w' : World) : Prop :=
  ∃ (l : List Int) (z : Int) (A : Option Addr) (c : Nat), IsDec b l z ∧ e = .returned (.tuple #[.slice A l.length c, .int .i64 z]) ∧ Sl w' (lt w'.heap.size) 1 (.slice A l.length c) l.length (l.map (.int .i64)) ∧ Below w.heap.size w w'
theorem DecRes.out {w w' : World} {b : List UInt8} {e : Ending} (h : DecRes w b e w') : DecOut w b e w' := by
  rcases h with ⟨l, v, h1, rfl, h2, h3⟩ | ⟨h1, rfl, h3⟩
  · obtain ⟨A, c, rfl, _, hs⟩ := (Sl.of_own h2).form
    exact ⟨l, 0, A, c, .inl ⟨h1, rfl⟩, rfl, hs, h3⟩
  · exact ⟨[], 22, none, 0, .inr ⟨h1, rfl, rfl⟩, rfl, Sl.nil _ _ _ _ _, h3⟩
theorem check_post {l : List Int} (h : Post l) : checkOf l = 0 := by
  obtain ⟨h1, h2, h3⟩ := h
  unfold checkOf
  have hb : ¬ l.any bad = true := by
    rw [List.any_eq_true]
    rintro ⟨x, hx, hbad⟩
    have := h2 x hx
    simp [bad] at hbad
    omega
  rw [if_neg (by omega), if_neg hb, if_pos h1]
theorem postB_len9 {l : List Int} (h : checkOf l = 0) : (postB l).length ≤ 900000 := by
  obtain ⟨q1, q2⟩ := rise_of_check h
  have h1 := uvar_len10 (n := l.length) (by omega)
  have h2 := headsOf_len l q1 (starts l.length)
  have h3 := bodiesOf_len l q1 (starts l.length)
  have h4 : (starts l.length).length ≤ 129 := by unfold starts; rw [List.length_map, List.length_range]; omega
  unfold postB
  rw [List.length_append, List.length_append]
  omega
theorem postB_pos (l : List Int) : 1 ≤ (postB l).length := by
  have := uvar_pos l.length
  unfold postB
  rw [List.length_append, List.length_append]
  omega

set_option maxHeartbeats 4000000 in
set_option maxRecDepth 100000 in
theorem law_dec (vb v : Value) (b : List UInt8) (bs : List Int) (x : Int) (y : UInt8) (w : World) (hvb : BSl w (lt w.heap.size) vb b) (hv : Sl w (lt w.heap.size) 1 v bs.length (bs.map (.int .u8))) (hr : ∀ x ∈ bs, 0 ≤ x ∧ x ≤ 255) (hm : bs.length ≤ maxLen) :
    Calls Try.prog 7 #[vb, v, .int .i64 x, .int .u8 y.toNat] w fun e w' => e = .returned (.bool true) ∧ Below w.heap.size w w' := by
  have hvb' : Sl w (lt w.heap.size) 1 vb b.length (b.map ub) := hvb
  obtain ⟨Ab, cb, rfl, hcb, hs⟩ := hvb'.form
  obtain ⟨Av, cv, rfl, _, hv⟩ := hv.form
  have hmb := hs.1
  clear hvb' hmb
  by_cases h5 : 600 < b.length
  · have h5' : decide ((600 : Int) < (b.length : Int)) = true := by simp; omega
    go_enter Try.func7, Try.ntmps7
    go_wp2_with fail
    refine (awake_true _).mono ?_
    rintro e w1 ⟨rfl, hb1⟩
    go_wp2_with fail
    go_ret
    exact ⟨rfl, hb1⟩
  · have h5' : decide ((600 : Int) < (b.length : Int)) = false := by simp; omega
    have HBL := keep (show b.length ≤ 1000000 by omega)
    go_enter Try.func7, Try.ntmps7
    go_wp2_with fail
    refine (awake_true _).mono ?_
    rintro e w1 ⟨rfl, hb1⟩
    have hv1 := (hv.below hb1 (Nat.le_refl _)).more hb1.size
    have hsb1 : BSl w1 (lt w.heap.size) (.slice Ab b.length cb) b := Sl.below hvb hb1 (Nat.le_refl _)
    clear hv hvb hs h5
    go_wp2_with fail
    refine (lists_any _ bs 1 _ hv1 hr hm (by omega)).mono ?_
    rintro e w2 ⟨v2, vs, ls, rfl, hvs, hE, hown, hb2⟩
    have hll := hE.len
    obtain ⟨va, rfl⟩ : ∃ va, vs = [va] := List.length_eq_one_iff.1 hvs
    obtain ⟨la, rfl⟩ : ∃ la, ls = [la] := List.length_eq_one_iff.1 (hll.symm.trans hvs)
    obtain ⟨⟨Aa, ca, rfl⟩, hSa, hPa, _⟩ := hE
    have hla := hPa.2.2
    have hz1 := hb1.size
    have hbw2 := bchain hb1 hb2
    have hsb2 : BSl w2 (lt w.heap.size) (.slice Ab b.length cb) b := Sl.below hsb1 hb2 hz1
    replace hSa := hSa.mono (S' := lt w2.heap.size) (fun _ h => h.2)
    obtain ⟨g, cp, rfl, _, _⟩ := hown.form (by omega)
    have e0 := hown.cellAt 0 (by omega)
    simp only [List.getElem?_cons_zero] at e0
    have hEn := refEnc_any _ la w2 hSa (by unfold maxLen; omega)
    unfold EncRes at hEn
    rw [if_pos (check_post hPa), check_post hPa] at hEn
    have hlen : Hid ((postB la).length ≤ 900000) := keep (postB_len9 (check_post hPa))
    have hge : Hid (1 ≤ (postB la).length) := keep (postB_pos la)
    have HEn := keep hEn
    clear hown hll hvs hPa hb2 hb1 hv1 hsb1 hEn hSa hz1
    obtain ⟨E, hEE⟩ : ∃ E, postB la = E := ⟨_, rfl⟩
    rw [hEE] at HEn hlen hge
    clear hEE
    go_wp2_with fail
    refine HEn.out.mono ?_
    rintro e w4 ⟨vN, rfl, hoN, hb4⟩
    have hbw4 := bchain hbw2 hb4
    have hsb4 : BSl w4 (lt w.heap.size) (.slice Ab b.length cb) b := Sl.below hsb2 hb4 hbw2.size
    have hz2 := hbw2.size
    have hoN' := hoN.base_ (base' := w.heap.size) hz2
    obtain ⟨AN, cN, rfl, hcN, hoN2⟩ := hoN'.form
    clear hoN hoN' hb4 hbw2 hsb2 hz2 e0 HEn
    have hbase := hbw4.size
    go_upto_region 4 with fail
    go_upto_region 5 with (refine wpList_appendBb elB rfl _ _ rfl w4.heap.size (.slice none 0 0) [] rfl (OwnB.nil _ _) (lt w4.heap.size) _ E rfl hoN2.slt (by have := hlen.out; simp; omega) (Nat.le_refl _) ?_; intro v5 w5 hown5 hb5 hg5)
    rw [List.nil_append] at hown5
    obtain ⟨A5, c5, rfl, hc5, hownA⟩ := hown5.form
    have hEl : (E.length : Int) ≤ 900000 := by have := hlen.out; omega
    have hEg : 1 ≤ (E.length : Int) := by have := hge.out; omega
    have hbw5 := hbw4.trans (hb5.mono hbase)
    have hsb5 : BSl w5 (lt w.heap.size) (.slice Ab b.length cb) b := Sl.below hsb4 hb5 hbase
    have hN5 : BSl w5 (lt w4.heap.size) (.slice AN E.length cN) E := Sl.below hoN2.slt hb5 (Nat.le_refl _)
    clear hown5 hb5 hg5 hoN2 hsb4 hbw4
    go_wp2_with fail
    refine (drawMod x (E.length : Int) w5 (by omega)).mono ?_
    rintro e w6 ⟨r, rfl, r0, r1, rfl⟩
    have hi0 := r1 hEg
    clear r1
    obtain ⟨i, rfl⟩ := Int.eq_ofNat_of_zero_le r0
    have hi : i < E.length := by omega
    obtain ⟨g5, rfl, hg5b, hg5l, _, hcell, hfz, hownS⟩ := hownA.setAt hi (E[i] ^^^ y)
    have hx8 := xor_u8 E[i] y
    simp only [ub] at hcell hownS
    obtain ⟨O, hO⟩ : ∃ O, O = E.set i (E[i] ^^^ y) := ⟨_, rfl⟩
    rw [← hO] at hownS
    have hOl : O.length = E.length := by rw [hO, List.length_set]
    have hOL := keep hOl
    clear hO hOl hownA
    generalize E[i] ^^^ y = z at *
    generalize E[i] = e0 at *
    go_upto_region 6 with fail
    obtain ⟨w7, hw7⟩ : ∃ w7, w7 = w5.setCell ⟨g5, i, none⟩ (.int .u8 (z.toNat : Int)) := ⟨_, rfl⟩
    rw [← hw7] at hownS ⊢
    have hb7 : Below w4.heap.size w5 w7 := by rw [hw7]; exact (Below.refl _ _).setCell (p := ⟨g5, i, none⟩) hg5b _
    have hz5 := hbw5.size
    have hbw7 := hbw5.trans (hb7.mono hbase)
    have hsb7 : BSl w7 (lt w.heap.size) (.slice Ab b.length cb) b := Sl.below hsb5 hb7 hbase
    have hN7 : BSl w7 (lt w4.heap.size) (.slice AN E.length cN) E := Sl.below hN5 hb7 (Nat.le_refl _)
    have hz7 := hb7.size
    have hz57 : w4.heap.size ≤ w7.heap.size := by
      have h1 : w5.heap.size = w7.heap.size := by rw [hw7]; simp [World.setCell]
      omega
    obtain ⟨bN, oN, hAN, hbN, hrN⟩ := Sl.row (w := w7) (S := lt w4.heap.size) (A := AN) (n := E.length) (c := cN) (size := 1) hN7 (by omega)
    subst hAN
    have hN7f : BSl w7 (lt w4.heap.size) (.slice (some ⟨bN, oN, none⟩) E.length E.length) E := ⟨by simp, _, _, rfl, Nat.le_refl _, fun _ => ⟨bN, oN, rfl, hbN, hrN⟩⟩
    have hcN' : (E.length : Int) ≤ (cN : Int) := by omega
    clear hw7 hb7 hbw5 hsb5 hN5 hcell hfz hx8 hi0 hi r0 hrN hz5
    go_wp2_with (refine wpList_pushFull elB rfl rfl _ _ 56 rfl rfl rfl bN oN 0 E (lt w4.heap.size) rfl (fun _ => rfl) (fun _ => rfl) hN7f (fun k hk => Nat.lt_of_lt_of_le hk hz57) (by omega) (by omega) ?_; intro qF vF wF hownF hbF)
    obtain ⟨AF, cF, rfl, hcF, hownF2⟩ := hownF.form
    have hF1 : (E ++ [(0 : UInt8)]).length = E.length + 1 := by simp
    have HF := keep (show BSl wF (lt wF.heap.size) (.slice AF (E ++ [(0 : UInt8)]).length cF) (E ++ [0]) from hownF2.slt)
    obtain ⟨EF, hEF⟩ : ∃ EF, E ++ [(0 : UInt8)] = EF := ⟨_, rfl⟩
    rw [hEF] at HF hF1 hcF
    rw [hEF]
    have hEFl := keep (show EF.length ≤ 1000000 by omega)
    have hbwF := bchain hbw7 hbF
    have hsbF : BSl wF (lt w.heap.size) (.slice Ab b.length cb) b := Sl.below hsb7 hbF (by have := hbw7.size; omega)
    have hNF : BSl wF (lt w4.heap.size) (.slice (some ⟨bN, oN, none⟩) E.length cN) E := Sl.below hN7 hbF hz57
    have hOF : BSl wF (lt w7.heap.size) (.slice (some ⟨g5, 0, none⟩) E.length c5) O := Sl.below hownS.slt hbF (Nat.le_refl _)
    have hzF := hbF.size
    clear hownF hownF2 hEF hF1 hsb7 hN7 hN7f hownS
    refine (drawMod x (E.length : Int) wF (by omega)).mono ?_
    rintro e w8 ⟨r, rfl, r0, r1, rfl⟩
    have hi0 := r1 hEg
    clear r1
    obtain ⟨j, rfl⟩ := Int.eq_ofNat_of_zero_le r0
    have hj2 : (j : Int) ≤ (cN : Int) := by omega
    have hT7 : BSl wF (lt w4.heap.size) (.slice (some ⟨bN, oN, none⟩) j cN) (E.take j) := by
      have hN7' : Sl wF (lt w4.heap.size) 1 (.slice (some ⟨bN, oN, none⟩) E.length cN) E.length (E.map ub) := hNF
      have := hN7'.take (k := j) (by omega)
      unfold BSl
      rw [Nat.mul_one] at this
      rwa [List.map_take, show (E.take j).length = j by simp; omega]
    go_upto_region 8 with (fail)
    obtain ⟨gx, hgx⟩ : ∃ gx, gx = wF.heap.size := ⟨_, rfl⟩
    obtain ⟨W8, hW8⟩ : ∃ W8, W8 = wF.alloc (.cells #[.slice Ab b.length cb, .slice (some ⟨g5, 0, none⟩) E.length c5, .slice AF EF.length cF, .slice (some ⟨bN, oN, none⟩) j cN] 22) := ⟨_, rfl⟩
    rw [← hW8, ← hgx]
    have hb8 : Below wF.heap.size wF W8 := by rw [hW8]; exact (Below.refl _ _).alloc (Nat.le_refl _) _
    have hB8 : Blk W8 gx 22 #[.slice Ab b.length cb, .slice (some ⟨g5, 0, none⟩) E.length c5, .slice AF EF.length cF, .slice (some ⟨bN, oN, none⟩) j cN] := by rw [hW8, hgx]; exact Blk.new _ _ _
    have hz78 := hb8.size
    have hbw8 := bchain hbwF hb8
    have hzw := hbwF.size
    have hq0 : Four W8 W8.heap.size (.slice Ab b.length cb) := ⟨b, Sl.mono (Sl.below hsbF hb8 (by omega)) (fun k hk => by have : k < w.heap.size := hk; show k < W8.heap.size; omega), HBL.out⟩
    have hq1 : Four W8 W8.heap.size (.slice (some ⟨g5, 0, none⟩) E.length c5) := ⟨O, Sl.mono (Sl.below hOF hb8 (by omega)) (fun k hk => by have : k < w7.heap.size := hk; show k < W8.heap.size; omega), by rw [hOL.out]; have := hlen.out; omega⟩
    have hq2 : Four W8 W8.heap.size (.slice AF EF.length cF) := ⟨EF, Sl.mono (Sl.below HF.out hb8 (Nat.le_refl _)) (fun k hk => by have : k < wF.heap.size := hk; show k < W8.heap.size; omega), hEFl.out⟩
    have hq3 : Four W8 W8.heap.size (.slice (some ⟨bN, oN, none⟩) j cN) := ⟨E.take j, Sl.mono (Sl.below hT7 hb8 (by omega)) (fun k hk => by have : k < w4.heap.size := hk; show k < W8.heap.size; omega), by rw [List.length_take]; have := hlen.out; omega⟩
    clear hW8 hgx hb8 hsbF hNF hOF hT7 hbw7 hbwF hz7 hz78 hi0 r0 hj2 hEl hEg hbF
    have hlx := hB8.lt
    go_loopw [13, 14, 15, 16, 17] (fun i _ _ _ _ wr => ∃ k : Nat, k ≤ 4 ∧ i = .int .i64 k ∧ Below W8.heap.size W8 wr) (fun i _ _ _ _ _ => 4 - (intOf i).toNat)
    case atStart => exact ⟨0, Nat.zero_le _, rfl, Below.refl _ _⟩
    case round =>
      obtain ⟨k, hk, rfl, hb⟩ := hrel
      obtain ⟨wq, rfl⟩ : ∃ wq : World, wq = wr := ⟨_, rfl⟩
      by_cases hlt : k < 4
      · obtain ⟨vx, hcx, l, hl, hll⟩ := four_at (hB8.below hb hlx) hq0 hq1 hq2 hq3 hlt
        have hlq : BSl wq (lt wq.heap.size) vx l := Sl.more (Sl.below hl hb (Nat.le_refl _)) hb.size
        obtain ⟨Ax, nx, cx, rfl⟩ : ∃ A n c, vx = .slice A n c := by obtain ⟨A, c, h, _⟩ := Sl.form hlq; exact ⟨A, _, c, h⟩
        have hi1 : (0 : Int) ≤ (k : Int) := by omega
        have hi2 : (k : Int) < 4 := by omega
        have HBq := keep hb
        have hgq : gx < wq.heap.size := Nat.lt_of_lt_of_le hlx hb.size
        clear hb hl
        go_wp2_with fail
        refine (dec_any _ l wq hlq hll).mono ?_
        rintro e w9 hdr
        obtain ⟨l1, z1, A1, c1, hD1, rfl, hS1, hb9⟩ := hdr.out
        clear hdr
        have hcx9 := (hb9.cell (p := ⟨gx, k, none⟩) hgq).trans hcx
        have hla : BSl w9 (lt w9.heap.size) (.slice Ax nx cx) l := hlq.up hb9
        have HD1 := keep hD1
        clear hcx hlq hD1
        go_wp2_with fail
        refine (refDec_any _ l w9 hla hll).mono ?_
        rintro e w10 hdr
        obtain ⟨l2, z2, A2, c2, hD2, rfl, hS2, hb10⟩ := hdr.out
        clear hdr
        obtain ⟨e1, e2⟩ := HD1.out.unique hD2
        subst e1 e2
        have hl4 := hD2.len
        have hS1' := hS1.up hb10
        have dne : (z1 != z1) = false := by simp
        have hbf := bchain hb9 hb10
        have hS2k := keep hS2
        have hS1k := keep hS1'
        clear hD2 hla hcx9 hb9 hb10 hS1 hS2 hS1'
        go_wp2_with fail
        refine (sameInts_true _ _ l1 _ hS1k.out hS2k.out (by unfold maxLen; omega)).mono ?_
        rintro e w11 ⟨rfl, hb11⟩
        have hfin2 := HBq.out.trans ((bchain hbf hb11).mono HBq.out.size)
        clear hb11 hbf
        go_wp2_with fail
        go_roundw
        case rel => exact ⟨k + 1, by omega, by go_num, hfin2⟩
        case measure => simp [intOf]; omega
      · go_wp2_with fail
        go_ret
        exact ⟨rfl, bchain hbw8 hb⟩
theorem byte_of {y : Int} (h : 0 ≤ y ∧ y ≤ 255) : ∃ z : UInt8, y = (z.toNat : Int) := ⟨UInt8.ofNat y.toNat, by rw [UInt8.toNat_ofNat']; omega⟩
theorem law_dec_int (vb v : Value) (b bs : List Int) (x y : Int) (w : World) (hvb : Sl w (lt w.heap.size) 1 vb b.length (b.map (.int .u8))) (hrb : ∀ x ∈ b, 0 ≤ x ∧ x ≤ 255) (hv : Sl w (lt w.heap.size) 1 v bs.length (bs.map (.int .u8))) (hr : ∀ x ∈ bs, 0 ≤ x ∧ x ≤ 255) (hm : bs.length ≤ maxLen) (hy : 0 ≤ y ∧ y ≤ 255) :
    Calls Try.prog 7 #[vb, v, .int .i64 x, .int .u8 y] w fun e w' => e = .returned (.bool true) ∧ Below w.heap.size w w' := by
  obtain ⟨z, rfl⟩ := byte_of hy
  exact law_dec vb v _ bs x z w (bsl_ints hvb hrb) hv hr hm
end Go.Proofs.Ytihimbmbhmgjoaa
