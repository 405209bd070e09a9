/- The contract of the reference's Text. -/
import Derived.Test.YtimldjlegbdldaaText
namespace Go.Proofs.Ytimldjlegbdldaa
open Go.RowKit

theorem byte_is (b : UInt8) (k : UInt8) (c : Int) (hc : ub k = .int .u8 c) : ((b.toNat : Int) == c) = decide (b = k) := by
  have hk : (k.toNat : Int) = c := by simpa [ub] using hc
  rw [Bool.eq_iff_iff]
  simp only [beq_iff_eq, decide_eq_true_eq]
  constructor
  · intro h
    have h' : b.toNat = k.toNat := by omega
    exact UInt8.toNat_inj.1 h'
  · intro h; subst h; exact hk
set_option maxRecDepth 100000 in
set_option maxHeartbeats 1000000 in
theorem textRef_any (v : Value) (l : List UInt8) (w : World) (h : BSl w (lt w.heap.size) v l) (hm : l.length ≤ 1000000000) :
    Calls Try.prog 11 #[v] w (TextRes w l) := by
  obtain ⟨A, c, rfl, hc, h⟩ := h.forms
  have hst : stripB l = if endsB l 10 then (if endsB (chopB l) 13 then chopB (chopB l) else chopB l) else l := rfl
  obtain ⟨s, hs⟩ : ∃ s, stripB l = s := ⟨_, rfl⟩
  have hsl : s.length ≤ 1000000000 := by have := stripB_le l; rw [hs] at this; omega
  unfold TextRes
  rw [hs] at hst ⊢
  have HS := keep hst
  clear hst hs
  rcases Nat.eq_zero_or_pos l.length with h0 | h0
  · obtain rfl : l = [] := List.eq_nil_of_length_eq_zero h0
    have hs : s = [] := by rw [HS.out]; rfl
    subst hs
    have hw := repairRef_any (.slice A 0 c) [] w h (by simp)
    simp only [List.length_nil] at hc ⊢
    go_enter Try.func11, Try.ntmps11
    go_wp2_with (refine wpList_toB elB rfl _ _ rfl 0 rfl h rfl (by omega) (Nat.zero_le _) ?_; intro v1 h1)
    refine (repairRef_any _ _ _ h1 (by simp)).mono ?_
    rintro e w2 ⟨rfl, hb2⟩
    go_wp2_with fail
    go_ret2
    exact ⟨rfl, hb2⟩
  · obtain ⟨n, hn⟩ : ∃ n, l.length = n + 1 := ⟨l.length - 1, by omega⟩
    have hei := endsB_iff l 10 n hn
    obtain ⟨b, o, rfl, hb, hcell⟩ := h.byte (k := n) (by omega)
    have ht := byte_is (l.getD n 0) 10 10 rfl
    rw [← hei] at ht
    obtain ⟨x, hx⟩ : ∃ x, ((l.getD n 0).toNat : Int) = x := ⟨_, rfl⟩
    rw [hx] at ht hcell
    have hH := h
    rw [hn] at h hc hm ⊢
    have HM := keep hm
    have z0 : (0 : Int) < ((n + 1 : Nat) : Int) := by omega
    have z1 : decide (0 < n + 1) = true := by simp
    have z2 : (n : Int) < ((n + 1 : Nat) : Int) := by omega
    have z3 : (0 : Int) ≤ (n : Int) := by omega
    have z4 : (n : Int) ≤ 1000000000000 := by omega
    have z5 : decide (0 < (n : Int) + 1) = true := by simp
    clear hm
    cases he : endsB l 10 with
    | false =>
      rw [he] at ht
      have hsl2 : s = l := by rw [HS.out, he]; rfl
      have HN := keep hn
      have HL := keep hsl2
      clear he hei hx hn hsl2
      go_enter Try.func11, Try.ntmps11
      go_wp2_with (refine wpList_toB elB rfl _ _ rfl (n + 1) rfl h rfl (by omega) (by rw [HN.out]; exact Nat.le_refl _) ?_; intro v1 h1; rw [List.take_of_length_le (by rw [HN.out]; exact Nat.le_refl _)] at h1)
      refine (repairRef_any _ _ _ h1 (by rw [HN.out]; exact HM.out)).mono ?_
      rintro e w2 ⟨rfl, hb2⟩
      go_wp2_with fail
      go_ret2
      exact ⟨tuple_str (by rw [HL.out]) (by rw [HL.out]), hb2⟩
    | true =>
      rw [he] at ht
      have hmm : chopB l = l.take n := by unfold chopB; rw [hn, Nat.add_sub_cancel]
      have hml : (l.take n).length = n := by rw [List.length_take]; omega
      have hS2 : s = if endsB (l.take n) 13 then chopB (l.take n) else l.take n := by rw [HS.out, he, hmm]; rfl
      have hmd : ∀ j, j < n → (l.take n).getD j 0 = l.getD j 0 := fun j hj => by
        simp [List.getD_eq_getElem?_getD, hj]
      rcases Nat.eq_zero_or_pos n with h1 | h1
      · subst h1
        have hsl2 : s = l.take 0 := by rw [hS2, List.take_zero]; rfl
        have HN := keep hn
        have HL := keep hsl2
        clear he hei hx hn hsl2 hS2 hmm hml hmd
        rw [Nat.zero_add] at h ⊢
        rw [Nat.add_zero] at hcell
        go_enter Try.func11, Try.ntmps11
        go_wp2_with (refine wpList_toB elB rfl _ _ rfl 0 rfl h rfl (by omega) (Nat.zero_le _) ?_; intro v1 h1)
        refine (repairRef_any _ _ _ h1 (by simp)).mono ?_
        rintro e w2 ⟨rfl, hb2⟩
        go_wp2_with fail
        go_ret2
        exact ⟨tuple_str (by rw [HL.out]; simp) (by rw [HL.out]; simp), hb2⟩
      · obtain ⟨m, hmn⟩ : ∃ m, n = m + 1 := ⟨n - 1, by omega⟩
        have hei2 := endsB_iff (l.take n) 13 m (by rw [hml, hmn])
        rw [hmd m (by omega)] at hei2
        obtain ⟨b', o', e1, _, hcell2⟩ := hH.byte (k := m) (by omega)
        cases e1
        have ht2 := byte_is (l.getD m 0) 13 13 rfl
        rw [← hei2] at ht2
        obtain ⟨y, hy⟩ : ∃ y, ((l.getD m 0).toNat : Int) = y := ⟨_, rfl⟩
        rw [hy] at ht2 hcell2
        have y0 : (0 : Int) ≤ (n : Int) - 1 := by omega
        have y1 : (n : Int) - 1 < ((n + 1 : Nat) : Int) := by omega
        have y2 : decide (0 < n) = true := by simp; omega
        have y4 : decide (0 < (n : Int)) = true := by simp; omega
        have hcell3 : w.cell? ⟨b, o + ((n : Int) - 1).toNat, none⟩ = some (.int .u8 y) := by rw [show ((n : Int) - 1).toNat = m by omega]; exact hcell2
        rw [show m = n - 1 by omega] at hcell2
        have HMN := keep hmn
        clear hmn
        cases he2 : endsB (l.take n) 13 with
        | false =>
          rw [he2] at ht2
          have hsl2 : s = l.take n := by rw [hS2, he2]; rfl
          have HN := keep hn
          have HL := keep hsl2
          clear he hei hx hn hsl2 hS2 hmm hml hmd hei2 he2 hy
          go_enter Try.func11, Try.ntmps11
          go_wp2_with (refine wpList_toB elB rfl _ _ rfl n rfl h rfl (by omega) (by rw [HN.out]; have := HMN.out; omega) ?_; intro v1 h1)
          refine (repairRef_any _ _ _ h1 (by rw [List.length_take]; have := HM.out; have := HMN.out; omega)).mono ?_
          rintro e w2 ⟨rfl, hb2⟩
          go_wp2_with fail
          go_ret2
          exact ⟨tuple_str (by rw [HL.out]) (by rw [HL.out]), hb2⟩
        | true =>
          rw [he2] at ht2
          have hsl2 : s = l.take m := by
            rw [hS2, he2, if_pos rfl]
            unfold chopB
            rw [hml, HMN.out, Nat.add_sub_cancel, List.take_take, Nat.min_eq_left (by omega)]
          have HN := keep hn
          have HL := keep hsl2
          clear he hei hx hn hsl2 hS2 hmm hml hmd hei2 he2 hy
          go_enter Try.func11, Try.ntmps11
          go_wp2_with (refine wpList_toB elB rfl _ _ rfl m rfl h rfl (by have := HMN.out; omega) (by rw [HN.out]; have := HMN.out; omega) ?_; intro v1 h1)
          refine (repairRef_any _ _ _ h1 (by rw [List.length_take]; have := HM.out; have := HMN.out; omega)).mono ?_
          rintro e w2 ⟨rfl, hb2⟩
          go_wp2_with fail
          go_ret2
          exact ⟨tuple_str (by rw [HL.out]) (by rw [HL.out]), hb2⟩
end Go.Proofs.Ytimldjlegbdldaa
