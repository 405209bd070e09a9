/- The reference's Put at four bytes; SameBytes. -/
import Derived.Test.YtkjhnipjhefndaaRefPut
namespace Go.Proofs.Ytkjhnipjhefndaa
open Go.RowKit

set_option maxRecDepth 100000 in
theorem put4_any (B : Nat) (v : Value) (l : List UInt8) (n : Nat) (w : World) (h : OwnB w B v l) (hB : B ≤ w.heap.size) (hn : n < 4294967296) (hl : l.length + 4 ≤ 140737488355328) :
    Calls Try.prog 51 #[v, .int .u64 n, .int .i64 4] w (PutRes w B v (l ++ crcB n)) := by
  have HL := keep hl
  have HB := keep hB
  clear hl hB
  go_enter Try.func51, Try.ntmps51
  go_wp2
  go_loopw [0, 7] (fun v' i wr => ∃ j : Nat, j ≤ 4 ∧ i = .int .i64 (3 - (j : Int)) ∧ Put1 w B v v' (l ++ (crcB n).take j) wr) (fun _ i _ => (intOf i + 1).toNat)
  case atStart => exact ⟨0, by omega, rfl, by simpa using Put1.refl h⟩
  case round =>
    obtain ⟨j, hj, rfl, hP⟩ := hrel
    have HB1 := keep (show B ≤ wr.heap.size from Nat.le_trans HB.out hP.f.size)
    have HL1 := keep (show (l ++ (crcB n).take j).length + 1 ≤ 140737488355328 ∨ j = 4 by
      have := HL.out
      by_cases h4 : j = 4
      · exact .inr h4
      · left; simp [crcB]; omega)
    have hb0 : Hid (Value.int .u8 ((n : Int) / 16777216 % 256) = ub (UInt8.ofNat (n / 16777216)) ∧ Value.int .u8 ((n : Int) / 16777216) = ub (UInt8.ofNat (n / 16777216))) := ⟨ubN _ _ (by omega), ubN _ _ (by omega)⟩
    have hb1 : Hid (Value.int .u8 ((n : Int) / 65536 % 256) = ub (UInt8.ofNat (n / 65536))) := ubN _ _ (by omega)
    have hb2 : Hid (Value.int .u8 ((n : Int) / 256 % 256) = ub (UInt8.ofNat (n / 256))) := ubN _ _ (by omega)
    have hb3 : Hid (Value.int .u8 ((n : Int) % 256) = ub (UInt8.ofNat n)) := ubN _ _ (by omega)
    obtain rfl | rfl | rfl | rfl | rfl : j = 0 ∨ j = 1 ∨ j = 2 ∨ j = 3 ∨ j = 4 := by omega
    · replace HL1 := keep (HL1.out.resolve_right (by omega))
      go_wp2_with (refine wpList_pushB' elB rfl rfl _ _ 20 rfl rfl rfl B _ (UInt8.ofNat (n / 16777216)) _ (by first | exact hb0.out.1 | exact hb0.out.2) (fun _ => rfl) (fun _ => rfl) hP.o HL1.out HB1.out ?_; intro q v2 w2 hown2 hg2 hk2; have HR := keep (hP.trans (Put1.of_push hown2 hg2 hk2)))
      go_roundw
      case rel => exact ⟨1, by omega, rfl, by have := HR.out; simpa [crcB] using this⟩
      case measure => simp [intOf]
    · replace HL1 := keep (HL1.out.resolve_right (by omega))
      go_wp2_with (refine wpList_pushB' elB rfl rfl _ _ 20 rfl rfl rfl B _ (UInt8.ofNat (n / 65536)) _ (by exact hb1.out) (fun _ => rfl) (fun _ => rfl) hP.o HL1.out HB1.out ?_; intro q v2 w2 hown2 hg2 hk2; have HR := keep (hP.trans (Put1.of_push hown2 hg2 hk2)))
      go_roundw
      case rel => exact ⟨2, by omega, rfl, by have := HR.out; simpa [crcB] using this⟩
      case measure => simp [intOf]
    · replace HL1 := keep (HL1.out.resolve_right (by omega))
      go_wp2_with (refine wpList_pushB' elB rfl rfl _ _ 20 rfl rfl rfl B _ (UInt8.ofNat (n / 256)) _ (by exact hb2.out) (fun _ => rfl) (fun _ => rfl) hP.o HL1.out HB1.out ?_; intro q v2 w2 hown2 hg2 hk2; have HR := keep (hP.trans (Put1.of_push hown2 hg2 hk2)))
      go_roundw
      case rel => exact ⟨3, by omega, rfl, by have := HR.out; simpa [crcB] using this⟩
      case measure => simp [intOf]
    · replace HL1 := keep (HL1.out.resolve_right (by omega))
      go_wp2_with (refine wpList_pushB' elB rfl rfl _ _ 20 rfl rfl rfl B _ (UInt8.ofNat n) _ (by exact hb3.out) (fun _ => rfl) (fun _ => rfl) hP.o HL1.out HB1.out ?_; intro q v2 w2 hown2 hg2 hk2; have HR := keep (hP.trans (Put1.of_push hown2 hg2 hk2)))
      go_roundw
      case rel => exact ⟨4, by omega, rfl, by have := HR.out; simpa [crcB] using this⟩
      case measure => simp [intOf]
    · go_wp2_with fail
      go_ret
      exact ⟨_, rfl, by simpa [crcB] using hP⟩
theorem take_eq_snoc {a b : List UInt8} {k : Nat} (hk : k < a.length) (hb : k < b.length) (h : a.take k = b.take k) (e : a[k] = b[k]) : a.take (k + 1) = b.take (k + 1) := by
  rw [List.take_succ_eq_append_getElem hk, List.take_succ_eq_append_getElem hb, h, e]
theorem ub_ne {x y : UInt8} (h : x ≠ y) : ((x.toNat : Int) != (y.toNat : Int)) = true := by
  simp only [bne_iff_ne, ne_eq]
  intro e
  exact h (UInt8.toNat_inj.1 (by omega))
set_option maxRecDepth 100000 in
theorem sameBytes_any (a b : Value) (la lb : List UInt8) (Sa Sb : Nat → Prop) (w : World) (ha : BSl w Sa a la) (hb : BSl w Sb b lb) (ma : la.length ≤ maxLen) (mb : lb.length ≤ maxLen) :
    Calls Try.prog 19 #[a, b] w fun e w' => e = .returned (.bool (decide (la = lb))) ∧ Below w.heap.size w w' := by
  have ha' : Sl w Sa 1 a la.length (la.map ub) := ha
  have hb' : Sl w Sb 1 b lb.length (lb.map ub) := hb
  obtain ⟨A, ca, rfl, hca, ha⟩ := ha'.form
  obtain ⟨B, cb, rfl, hcb, hb⟩ := hb'.form
  clear ha' hb'
  unfold maxLen at ma mb
  by_cases hlen : la.length = lb.length
  · go_enter Try.func19, Try.ntmps19
    go_wp2_with fail
    go_loopw [5] (fun i wr => ∃ k : Nat, k ≤ la.length ∧ i = .int .i64 k ∧ Hid (la.take k = lb.take k) ∧ Below w.heap.size w wr) (fun i _ => la.length - (intOf i).toNat)
    case atStart => exact ⟨0, Nat.zero_le _, rfl, rfl, Below.refl _ _⟩
    case round =>
      obtain ⟨k, hk, rfl, hE, hbr⟩ := hrel
      by_cases hlt : k < la.length
      · have hlt' : k < lb.length := by omega
        obtain ⟨b1, o1, u1, rfl, hb1, hu1, hc1⟩ := ha.at_ hlt
        obtain ⟨b2, o2, u2, rfl, hb2, hu2, hc2⟩ := hb.at_ hlt'
        have e1 : u1 = ub la[k] := by simpa [hlt] using hu1.symm
        have e2 : u2 = ub lb[k] := by simpa [hlt'] using hu2.symm
        subst e1 e2
        have hd1 := (hbr.cell (World.block_lt_of_cell? w _ hc1)).trans hc1
        have hd2 := (hbr.cell (World.block_lt_of_cell? w _ hc2)).trans hc2
        simp only [ub] at hd1 hd2
        clear hu1 hu2 hc1 hc2
        have i1 : (k : Int) < (la.length : Int) := by omega
        have i2 : (k : Int) < (lb.length : Int) := by omega
        have HL := keep hlen
        clear hlen
        have hEq := keep (fun e => take_eq_snoc hlt hlt' hE.out e)
        have hNe : Hid (la[k] ≠ lb[k] → decide (la = lb) = false) := keep (fun e => decide_eq_false (fun h => e (by subst h; rfl)))
        generalize la[k] = x at *
        generalize lb[k] = y at *
        by_cases hxy : x = y
        · have HXY := keep hxy
          have g1 : ((x.toNat : Int) != (y.toNat : Int)) = false := by rw [hxy]; simp
          clear hxy
          go_upto_region 6 with fail
          go_quiet (fail)
          go_wp2_with fail
          go_roundw
          case rel => exact ⟨k + 1, by omega, by go_num, keep (hEq.out HXY.out), below_drewN hbr _⟩
          case measure => simp [intOf]; omega
        · have HXY := keep hxy
          have g1 := ub_ne hxy
          clear hxy
          go_upto_region 6 with fail
          go_quiet (fail)
          go_wp2_with fail
          go_ret
          exact ⟨ret_bool (hNe.out HXY.out).symm, below_drewN hbr _⟩
      · have hEnd : decide (la = lb) = true := decide_eq_true (by
          have := hE.out
          rwa [List.take_of_length_le (by omega), List.take_of_length_le (by omega)] at this)
        have HE := keep hEnd
        clear hEnd
        go_wp2_with fail
        go_ret
        exact ⟨ret_bool HE.out.symm, hbr⟩
  · have HE : Hid (decide (la = lb) = false) := keep (decide_eq_false (fun h => hlen (by rw [h])))
    have hne : (la.length : Int) ≠ (lb.length : Int) := by omega
    go_enter Try.func19, Try.ntmps19
    go_wp2_with fail
    go_ret
    exact ⟨ret_bool HE.out.symm, Below.refl _ _⟩
end Go.Proofs.Ytkjhnipjhefndaa
