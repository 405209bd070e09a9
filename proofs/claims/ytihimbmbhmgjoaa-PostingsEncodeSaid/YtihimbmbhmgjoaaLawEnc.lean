/- PostingsEncode: the walk of the statement. -/
import Derived.Test.YtihimbmbhmgjoaaEnc
import Derived.Test.YtihimbmbhmgjoaaSameB
import Derived.Test.YtihimbmbhmgjoaaLists
import Derived.Test.YtihimbmbhmgjoaaLattice
namespace Go.Proofs.Ytihimbmbhmgjoaa
open Go.RowKit

set_option maxHeartbeats 2000000 in
set_option maxRecDepth 100000 in
theorem law_enc (v vc : Value) (l : List Int) (bs : List Int) (w : World) (hs : Sl w (lt w.heap.size) 1 v l.length (l.map (.int .i64))) (hlm : l.length ≤ maxLen)
    (hsc : Sl w (lt w.heap.size) 1 vc bs.length (bs.map (.int .u8))) (hr : ∀ x ∈ bs, 0 ≤ x ∧ x ≤ 255) (hm : bs.length ≤ maxLen) :
    Calls Try.prog 6 #[v, vc] w fun e w' => e = .returned (.bool true) ∧ Below w.heap.size w w' := by
  obtain ⟨A, c, rfl, hc, hs⟩ := hs.form
  have hlm' := hlm
  unfold maxLen at hlm'
  go_enter Try.func6, Try.ntmps6
  go_wp2_with fail
  refine (awake_true _).mono ?_
  rintro e w1 ⟨rfl, hb1⟩
  by_cases hlen : 500 < l.length
  · have d1 : decide ((500 : Int) < l.length) = true := by simp; omega
    go_wp2_with fail
    go_ret
    exact ⟨rfl, hb1⟩
  · have d1 : decide ((500 : Int) < l.length) = false := by simp; omega
    go_wp2_with fail
    refine (lists_any vc bs 1 _ (hsc.up hb1) hr hm (by omega)).mono ?_
    rintro e w2 ⟨v2, vs, ls, rfl, hvs, hE, hown, hb2⟩
    have hll := hE.len
    obtain ⟨va, rfl⟩ : ∃ va, vs = [va] := List.length_eq_one_iff.1 hvs
    obtain ⟨la, rfl⟩ : ∃ la, ls = [la] := List.length_eq_one_iff.1 (hll.symm.trans hvs)
    obtain ⟨⟨Aa, ca, rfl⟩, hSa, hPa, _⟩ := hE
    have hla := hPa.2.2
    have hbw := bchain hb1 hb2
    replace hSa := hSa.mono (S' := lt w2.heap.size) (fun _ h => h.2)
    have hsl := hs.up hbw
    obtain ⟨g, cp, rfl, _, _⟩ := hown.form (by omega)
    have e0 := hown.cellAt 0 (by omega)
    simp only [List.getElem?_cons_zero] at e0
    clear hown hll hvs hPa hb2 hb1 hs
    go_wp2_with fail
    obtain ⟨W, hW⟩ : ∃ W, W = w2.alloc (.cells #[.slice A l.length c, .slice Aa la.length ca] 26) := ⟨_, rfl⟩
    have hBk : Blk W w2.heap.size 26 #[.slice A l.length c, .slice Aa la.length ca] := hW ▸ Blk.new _ _ _
    have hbW : Below w2.heap.size w2 W := hW ▸ (Below.refl _ w2).alloc (Nat.le_refl _) _
    rw [← hW]
    clear hW
    have hlb := hBk.lt
    replace hbw := bchain hbw hbW
    replace hsl := hsl.up hbW
    replace hSa := hSa.up hbW
    have hll : l.length ≤ 500 := by omega
    clear hbW
    go_loopw [6, 7, 8, 9, 10] (fun i _ _ _ _ wr => ∃ j : Nat, j ≤ 2 ∧ i = .int .i64 j ∧ Below W.heap.size W wr) (fun i _ _ _ _ _ => 2 - (intOf i).toNat)
    case atStart => exact ⟨0, Nat.zero_le _, rfl, Below.refl _ _⟩
    case round =>
      obtain ⟨j, hj, rfl, hbr⟩ := hrel
      by_cases hj2 : j < 2
      · obtain ⟨vj, lj, hcell, hSj, hlj⟩ : ∃ (vj : Value) (lj : List Int), wr.cell? ⟨w2.heap.size, j, none⟩ = some vj ∧ Sl wr (lt wr.heap.size) 1 vj lj.length (lj.map (.int .i64)) ∧ lj.length ≤ 500 := by
          have hB := hBk.below hbr hlb
          match j, hj2 with
          | 0, _ => exact ⟨_, l, (hB.cell 0).trans rfl, hsl.up hbr, hll⟩
          | 1, _ => exact ⟨_, la, (hB.cell 1).trans rfl, hSa.up hbr, by omega⟩
        obtain ⟨Aj, cj, rfl, _, hSj⟩ := hSj.form
        have j1 : (j : Int) < 2 := by omega
        have hlm2 : lj.length ≤ maxLen := by unfold maxLen; omega
        have hEnc := keep (enc_any _ lj _ hSj hlm2)
        obtain ⟨z, hz⟩ : ∃ z, checkOf lj = z := ⟨_, rfl⟩
        obtain ⟨LL, hLL⟩ : ∃ LL, (if checkOf lj = 0 then postB lj else []) = LL := ⟨_, rfl⟩
        have HRef := keep (fun W hW => refEnc_any (.slice Aj lj.length cj) lj W hW hlm2)
        unfold EncRes at hEnc HRef
        rw [hLL, hz] at hEnc HRef
        have hLLl : LL.length ≤ 1000000000 := by rw [← hLL]; exact Nat.le_trans (postB_bd lj) (by omega)
        have dz : (z != z) = false := by simp
        clear hz hLL hlm2
        go_wp2_with fail
        refine hEnc.out.mono ?_
        rintro e w3 ⟨v3, rfl, ho3, hb3⟩
        have hlbr : w2.heap.size < wr.heap.size := Nat.lt_of_lt_of_le hlb hbr.size
        have hcell3 := (hb3.cell (p := ⟨w2.heap.size, j, none⟩) hlbr).trans hcell
        have HS3 := keep (hSj.up hb3)
        have hB3 := ho3.slt
        clear ho3 hcell
        go_wp2_with fail
        refine (HRef.out _ HS3.out).mono ?_
        rintro e w4 ⟨v4, rfl, ho4, hb4⟩
        have HB3 := keep (hB3.up hb4)
        have HB4 := keep ho4.slt
        have hbf := bchain (bchain hbr hb3) hb4
        clear hB3 ho4 hb3 hb4 hcell3 hSj
        go_wp2_with fail
        refine (sameB_any _ _ LL LL _ HB3.out HB4.out hLLl).mono ?_
        rintro e w5 ⟨rfl, hb5⟩
        have dd : decide (LL = LL) = true := by simp
        rw [dd]
        clear dd
        go_wp2_with fail
        go_roundw
        case rel => exact ⟨j + 1, by omega, by go_num, bchain hbf hb5⟩
        case measure => simp [intOf]; omega
      · have j1 : (2 : Int) ≤ (j : Int) := by omega
        go_wp2_with fail
        go_ret
        exact ⟨rfl, bchain hbw hbr⟩
end Go.Proofs.Ytihimbmbhmgjoaa
