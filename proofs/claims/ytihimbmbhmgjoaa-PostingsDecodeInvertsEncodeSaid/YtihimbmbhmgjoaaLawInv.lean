/- PostingsDecodeInvertsEncode: the walk of the statement. -/
import Derived.Test.YtihimbmbhmgjoaaSeek
namespace Go.Proofs.Ytihimbmbhmgjoaa
open Go.RowKit

theorem sk_next {l : List Int} (h : Asc l) {i : Nat} (hi : i < l.length) (t : Int) (ht : (i = 0 ∧ t ≤ l[i]) ∨ ∃ j, ∃ hj : j < l.length, i = j + 1 ∧ t = l[j] + 1) : sk l t = (l[i], true) := by
  unfold Asc at h
  rw [List.pairwise_iff_getElem] at h
  rcases ht with ⟨rfl, ht⟩ | ⟨j, hj, rfl, rfl⟩
  · exact sk_some hi (fun j hj h0 => absurd h0 (by omega)) ht
  · refine sk_some hi (fun k hk hkj => ?_) (by have := h j (j + 1) hj hi (by omega); omega)
    by_cases e : k = j
    · subst e; omega
    · have := h k j hk hj (by omega); omega
theorem sk_past {l : List Int} (h : Asc l) (t : Int) (ht : l = [] ∨ ∃ j, ∃ hj : j < l.length, l.length = j + 1 ∧ t = l[j] + 1) : sk l t = (0, false) := by
  unfold Asc at h
  rw [List.pairwise_iff_getElem] at h
  refine sk_none (fun x hx => ?_)
  rcases ht with rfl | ⟨j, hj, hl, rfl⟩
  · cases hx
  · obtain ⟨k, hk, rfl⟩ := List.getElem_of_mem hx
    by_cases e : k = j
    · subst e; omega
    · have := h k j hk hj (by omega); omega

set_option maxHeartbeats 4000000 in
set_option maxRecDepth 100000 in
theorem law_inv (v : Value) (bs : List Int) (w : World) (hv : Sl w (lt w.heap.size) 1 v bs.length (bs.map (.int .u8))) (hr : ∀ x ∈ bs, 0 ≤ x ∧ x ≤ 255) (hm : bs.length ≤ maxLen) :
    Calls Try.prog 8 #[v] w fun e w' => e = .returned (.bool true) ∧ Below w.heap.size w w' := by
  obtain ⟨Av, cv, rfl, _, hv⟩ := hv.form
  go_enter Try.func8, Try.ntmps8
  go_wp2_with fail
  refine (awake_true _).mono ?_
  rintro e w1 ⟨rfl, hb1⟩
  have hv1 := (hv.below hb1 (Nat.le_refl _)).more hb1.size
  clear hv
  go_wp2_with fail
  refine (lists_any _ bs 1 _ hv1 hr hm (by omega)).mono ?_
  rintro e w2 ⟨v2, vs, ls, rfl, hvs, hE, hown, hb2⟩
  have hll := hE.len
  obtain ⟨va, rfl⟩ : ∃ va, vs = [va] := List.length_eq_one_iff.1 hvs
  obtain ⟨l, rfl⟩ : ∃ la, ls = [la] := List.length_eq_one_iff.1 (hll.symm.trans hvs)
  obtain ⟨⟨Aa, ca, rfl⟩, hSa, hPa, _⟩ := hE
  have hla := hPa.2.2
  have hbw2 := bchain hb1 hb2
  replace hSa := hSa.mono (S' := lt w2.heap.size) (fun _ h => h.2)
  obtain ⟨g, cp, rfl, _, _⟩ := hown.form (by omega)
  have e0 := hown.cellAt 0 (by omega)
  simp only [List.getElem?_cons_zero] at e0
  have hEn := enc_any _ l w2 hSa (by unfold maxLen; omega)
  have hck := check_post hPa
  unfold EncRes at hEn
  rw [if_pos hck, hck] at hEn
  have hlen : (postB l).length ≤ 1000000 := postB_len hck
  have HP := keep hPa
  have HIP : Hid (IsPost (postB l) l) := keep ⟨hck, rfl⟩
  have HEn := keep hEn
  clear hown hll hvs hPa hb2 hb1 hv1 hEn hck
  obtain ⟨E, hEE⟩ : ∃ E, postB l = E := ⟨_, rfl⟩
  rw [hEE] at HEn hlen HIP
  clear hEE
  go_wp2_with fail
  refine HEn.out.mono ?_
  rintro e w4 ⟨vN, rfl, hoN, hb4⟩
  have hbw4 := bchain hbw2 hb4
  have hS4 := hSa.up hb4
  have hB4 := hoN.slt
  obtain ⟨AN, cN, rfl, hcN, _⟩ := hoN.form
  clear hoN hb4 hbw2 e0 HEn hSa
  go_wp2_with fail
  refine (dec_any _ E w4 hB4 hlen).mono ?_
  rintro e w5 hdr
  obtain ⟨l1, z1, A1, c1, hD1, rfl, hS1, hb5⟩ := hdr.out
  obtain ⟨e1, e2⟩ := hD1.unique (.inl ⟨HIP.out, rfl⟩)
  subst e1 e2
  have hS5 := hS4.up hb5
  have hB5 : BSl w5 (lt w5.heap.size) (.slice AN E.length cN) E := hB4.up hb5
  have hbw5 := bchain hbw4 hb5
  have HS5 := keep hS5
  have HS1 := keep hS1
  clear hdr hD1 hS4 hB4 hb5 hbw4 hS5 hS1
  go_wp2_with fail
  refine (sameInts_true _ _ l1 _ HS1.out HS5.out (by unfold maxLen; omega)).mono ?_
  rintro e w6 ⟨rfl, hb6⟩
  have HS6 := keep (HS5.out.up hb6)
  have HB6 : Hid (BSl w6 (lt w6.heap.size) (.slice AN E.length cN) E) := keep (hB5.up hb6)
  have hbw6 := bchain hbw5 hb6
  clear hB5 hb6 hbw5 HS1 HS5
  go_upto_region 10 with fail
  go_loopw [8, 9, 10, 11, 12] (fun t i _ _ _ wr => ∃ (k : Nat) (q : Int), i = .int .i64 k ∧ t = .int .i64 q ∧ Hid (k ≤ l1.length + 1) ∧ Hid (k ≤ l1.length → (k = 0 ∧ q = 0) ∨ ∃ j, ∃ hj : j < l1.length, k = j + 1 ∧ q = l1[j] + 1) ∧ Hid (Below w6.heap.size w6 wr)) (fun _ i _ _ _ _ => l1.length + 1 - (intOf i).toNat)
  case atStart => exact ⟨0, 0, rfl, rfl, keep (by omega), keep (fun _ => .inl ⟨rfl, rfl⟩), keep (Below.refl _ _)⟩
  case round =>
    obtain ⟨k, q, rfl, rfl, hk, hq, hbr⟩ := hrel
    by_cases hle : k ≤ l1.length
    · have hq' := hq.out hle
      have i1 : (k : Int) ≤ (l1.length : Int) := by omega
      have hBr : BSl wr (lt wr.heap.size) (.slice AN E.length cN) E := HB6.out.up hbr.out
      by_cases hlt : k < l1.length
      · have hsk := keep (sk_next HP.out.1 hlt q (by
          rcases hq' with ⟨h1, h2⟩ | h
          · exact .inl ⟨h1, by rw [h2]; exact (HP.out.2.1 _ (List.getElem_mem _)).1⟩
          · exact .inr h))
        have hxb := HP.out.2.1 l1[k] (List.getElem_mem _)
        have hnx : Hid (k + 1 ≤ l1.length → (k + 1 = 0 ∧ l1[k] + 1 = 0) ∨ ∃ j, ∃ hj : j < l1.length, k + 1 = j + 1 ∧ l1[k] + 1 = l1[j] + 1) := keep (fun _ => .inr ⟨k, hlt, rfl, rfl⟩)
        obtain ⟨b1, o1, u1, rfl, hb1, hx1, hc1⟩ := HS6.out.at_ hlt
        have hu : u1 = .int .i64 l1[k] := by simpa [hlt] using hx1.symm
        subst hu
        have hcr := (hbr.out.cell (p := ⟨b1, o1 + k, none⟩) hb1).trans hc1
        have i2 : (k : Int) < (l1.length : Int) := by omega
        have dlt : decide (k < l1.length) = true := by simpa using hlt
        have hb1' : b1 < wr.heap.size := Nat.lt_of_lt_of_le hb1 hbr.out.size
        have HQ := keep hq'
        clear hx1 hc1 hq' hq
        obtain ⟨X, hX⟩ : ∃ X, l1[k] = X := ⟨_, rfl⟩
        rw [hX] at hsk hxb hnx hcr
        have hx0 : 0 ≤ X := hxb.1
        have hx1 : X < 4096 := hxb.2
        clear hX hxb
        go_wp2_with fail
        refine (seek_any _ E q wr hBr hlen).mono ?_
        rintro e w7 ⟨l2, z2, hD2, rfl, hb7⟩
        obtain ⟨e1, e2⟩ := hD2.unique (.inl ⟨HIP.out, rfl⟩)
        subst e1 e2
        rw [hsk.out]
        have hc7 := (hb7.cell (p := ⟨b1, o1 + k, none⟩) hb1').trans hcr
        have hbr7 := keep (hbr.out.trans (hb7.mono hbr.out.size))
        have dxx : (X != X) = false := by simp
        clear hD2 hcr hb7 hsk
        go_wp2_with fail
        go_roundw
        case rel => exact ⟨k + 1, X + 1, by go_num, rfl, keep (by omega), hnx, hbr7⟩
        case measure => simp [intOf]; omega
      · have hke : k = l1.length := by omega
        have hsk := keep (sk_past HP.out.1 q (by
          rcases hq' with ⟨h1, h2⟩ | ⟨j, hj, h1, h2⟩
          · exact .inl (List.eq_nil_of_length_eq_zero (by omega))
          · exact .inr ⟨j, hj, by omega, h2⟩))
        have i2 : ¬ (k : Int) < (l1.length : Int) := by omega
        have dlt : decide (k < l1.length) = false := by simpa using hlt
        have hnx : Hid (k + 1 ≤ l1.length → (k + 1 = 0 ∧ (0 : Int) + 1 = 0) ∨ ∃ j, ∃ hj : j < l1.length, k + 1 = j + 1 ∧ (0 : Int) + 1 = l1[j] + 1) := keep (fun h => absurd h (by omega))
        clear hke hq' hq
        go_wp2_with fail
        refine (seek_any _ E q wr hBr hlen).mono ?_
        rintro e w7 ⟨l2, z2, hD2, rfl, hb7⟩
        obtain ⟨e1, e2⟩ := hD2.unique (.inl ⟨HIP.out, rfl⟩)
        subst e1 e2
        rw [hsk.out]
        have hbr7 := keep (hbr.out.trans (hb7.mono hbr.out.size))
        clear hD2 hb7 hsk
        go_wp2_with fail
        go_roundw
        case rel => exact ⟨k + 1, 0 + 1, by go_num, rfl, keep (by omega), hnx, hbr7⟩
        case measure => simp [intOf]; omega
    · have i1 : ¬ (k : Int) ≤ (l1.length : Int) := by omega
      have d1 : decide (k ≤ l1.length) = false := by simpa using hle
      go_wp2_with fail
      go_ret
      exact ⟨rfl, hbw6.trans (hbr.out.mono hbw6.size)⟩
end Go.Proofs.Ytihimbmbhmgjoaa
