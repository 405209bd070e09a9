/- TemplateOrder: the walk of the statement. -/
import Derived.Test.YtibljgnajbblaaaR14W
namespace Go.Proofs.Ytibljgnajbblaaa
open Go.RowKit

theorem grownBy_setNew {a w : World} {g : Nat} {row : Option Nat} (h : a.grownBy w row) (hg : a.heap.size ≤ g) (i : Nat) (u : Value) : a.grownBy (w.setCell ⟨g, i, none⟩ u) row :=
  ⟨h.os, h.tape, h.output, by simpa [World.setCell] using h.size, fun k hk hne => (Below.heap_setCell w _ u k (by intro e; have e2 : k = g := e; omega)).trans (h.block k hk hne)⟩
set_option maxHeartbeats 8000000 in
set_option maxRecDepth 100000 in
theorem law_order (vc vs : Value) (bs cs : List Int) (w : World)
    (hsc : Sl w (lt w.heap.size) 1 vc bs.length (bs.map (.int .u8))) (hr : ∀ x ∈ bs, 0 ≤ x ∧ x ≤ 255) (hm : bs.length ≤ maxLen)
    (hss : Sl w (lt w.heap.size) 1 vs cs.length (cs.map (.int .u8))) (hr2 : ∀ x ∈ cs, 0 ≤ x ∧ x ≤ 255) (hm2 : cs.length ≤ maxLen) :
    Calls Try.prog 4 #[vc, vs] w fun e w' => e = .returned (.bool true) ∧ Below w.heap.size w w' := by
  have HSS := keep hss
  clear hss
  go_enter Try.func4, Try.ntmps4
  go_wp2_with fail
  refine (awake_true _).mono ?_
  rintro e w1 ⟨rfl, hb1'⟩
  have hS1 := hsc.upW hb1'
  clear hsc
  go_wp2_with fail
  refine (drawNew _ bs 200 _ hS1 hr (by omega) hm).mono ?_
  rintro e w2 ⟨gc, rfl, hgc, hC2, hb2⟩
  have hbw2 := bchain hb1' hb2
  have hgl := hC2.lt_
  have hz1 := hb1'.size
  clear hS1 hb1' hb2
  go_wp2_with fail
  refine (lines_any gc 24 _ hC2 (by omega)).mono ?_
  rintro e w3 ⟨vl, S, rfl, hSl, hSz, hV, _, hg3⟩
  obtain ⟨A2, c2, rfl, hc2⟩ := own_sl hV
  have hb3 : Below w.heap.size w w3 := below_grown hbw2 hg3 hbw2.size (by omega)
  have HV := keep hV
  have HSZ := keep hSz
  have HB3 := keep hb3
  clear hV hSz hg3 hb3 hC2 hbw2
  go_wp2_with fail
  refine (drawNew _ cs 60 _ (HSS.out.upW HB3.out) hr2 (by omega) hm2).mono ?_
  rintro e W ⟨g2, rfl, hg2, hC4, hb4⟩
  have HB4 := keep (HB3.out.trans (hb4.mono HB3.out.size))
  have HVL := keep (own_str (own_bel HV.out hb4))
  have HNS := keep (codes_noStr hC4)
  have hg2l := hC4.lt_
  have HC4 := keep hC4
  have hg2w : w.heap.size ≤ g2 := Nat.le_trans HB3.out.size hg2
  have HVS := keep (HVL.out.str)
  have HONE := keep (oneCells (fun s : ByteArray => Value.string s) (fun _ => rfl) S)
  have HLA : Hid (0 + S.length ≤ maxLen) := keep (by unfold maxLen; omega)
  have HLB : Hid ((0 + S.length) * 16 ≤ 140737488355328) := keep (by omega)
  clear hb4 hC4 HV HSS hc2
  go_wp2_with (refine wpList_appendS elSg rfl (.const (.slice none 0 0)) (.tmp 17) rfl W.heap.size (.slice none 0 0) 0 [] rfl (World.ownsRow_nil _ _ _ _) _ (.slice A2 S.length c2) S.length (S.map .string) rfl HVS.out HONE.out HLA.out HLB.out (Nat.le_refl _) ?_; intro v5 w5 hown5 hb5 hg5)
  rw [Nat.zero_add, List.nil_append] at hown5
  obtain ⟨A5, c5, rfl, _⟩ := own_sl hown5
  have HO5 := keep hown5
  have HW5 : Hid (W.grownBy w5 (some g2)) := keep (grownBy_of_below hb5 _)
  have HC5 := keep (HC4.out.under hb5 hg2l)
  have hsI : (S.length : Int) ≤ 24 := by omega
  clear hown5 hb5 hg5 HC4
  have hl := run_len_slice (P := Try.prog) w5 22 3 A5 S.length c5 (by kernel_rfl)
  go_simp
  clear hl
  go_wp2_with fail
  go_loopw [8, 9] (fun u8 _ wr => ∃ (k : Int) (M : List ByteArray), u8 = .int .i64 k ∧ -1 ≤ k ∧ k < (S.length : Int) ∧ Hid (M.Perm S) ∧ Hid (wr.ownsRow W.heap.size 9 1 (.slice A5 S.length c5) S.length (M.map .string)) ∧ Hid (Codes wr g2) ∧ Hid (W.grownBy wr (some g2))) (fun u8 _ _ => (intOf u8).toNat)
  case atStart => exact ⟨(S.length : Int) - 1, S, rfl, by omega, by omega, keep (List.Perm.refl _), HO5, HC5, HW5⟩
  case round =>
    obtain ⟨k, M, rfl, hk0, hk1, hP, hO, hC, hW⟩ := hrel
    obtain ⟨wo, rfl⟩ : ∃ wo : World, wo = wr := ⟨_, rfl⟩
    have HML : Hid (M.length = S.length) := keep hP.out.length_eq
    by_cases hp : 0 < k
    · have hd : decide (0 < k) = true := by simpa using hp
      obtain ⟨j, rfl⟩ := Int.eq_ofNat_of_zero_le (show 0 ≤ k by omega)
      obtain ⟨g, c, hgv⟩ : ∃ g cap, Value.slice A5 S.length c5 = .slice (some ⟨g, 0, none⟩) S.length cap := by
        rcases hO.out.2 with ⟨_, hz⟩ | ⟨g, cap, cur, hv, _⟩
        · omega
        · exact ⟨g, cap, hv⟩
      injection hgv with hgA _ hcA
      subst hgA
      subst hcA
      have HN := keep (drawNext g2 ((j : Int) + 1) wo hC.out (by omega) (by omega))
      go_wp2_with fail
      refine HN.out.mono ?_
      rintro e w6 ⟨r, rfl, r0, r1, _, hC6, hg6⟩
      obtain ⟨i, rfl⟩ := Int.eq_ofNat_of_zero_le r0
      have hij : i ≤ j := by have := r1 (by omega); omega
      have hjS : j < S.length := by omega
      have ho6 := own_grown hO.out hg6 hg2l
      have hiM : i < M.length := by have := HML.out; omega
      have hjM : j < M.length := by have := HML.out; omega
      obtain ⟨a, ha⟩ : ∃ a, M[i] = a := ⟨_, rfl⟩
      obtain ⟨b, hb⟩ : ∃ b, M[j] = b := ⟨_, rfl⟩
      have ci : w6.cell? ⟨g, i, none⟩ = some (.string a) := by
        rw [own_cell ho6 rfl i (by omega), List.getElem?_map, List.getElem?_eq_getElem hiM, ha]
        rfl
      have cj : w6.cell? ⟨g, j, none⟩ = some (.string b) := by
        rw [own_cell ho6 rfl j (by omega), List.getElem?_map, List.getElem?_eq_getElem hjM, hb]
        rfl
      have fi : w6.frozen? ⟨g, i, none⟩ = false := own_frozen ho6 rfl i
      have fj : w6.frozen? ⟨g, j, none⟩ = false := own_frozen ho6 rfl j
      have cz : (w6.setCell ⟨g, i, none⟩ (.string b)).cell? ⟨g, j, none⟩ = some (.string b) := by
        by_cases e : i = j
        · subst e
          exact World.cell?_setCell_same' _ _ _ (by rw [ci]; rfl)
        · exact (World.cell?_setCell_other _ ⟨g, i, none⟩ ⟨g, j, none⟩ _ (by intro h; injection h with _ h; exact e h)).trans cj
      have hs1 := own_store ho6 rfl i (.string b)
      have hs2 := own_store hs1 rfl j (.string a)
      have hset : ((M.map Value.string).set i (.string b)).set j (.string a) = ((M.set i M[j]).set j M[i]).map .string := by
        rw [ha, hb, ← List.map_set, ← List.map_set]
      rw [hset] at hs2
      have HS2 := keep hs2
      have HPM : Hid (((M.set i M[j]).set j M[i]).Perm S) := keep ((swap_perm hjM hiM).trans hP.out)
      have hgw : W.heap.size ≤ g := (hO.out.lt g rfl).1
      have hw6 := grownBy_trans hW.out hg6
      have HW2 : Hid (W.grownBy ((w6.setCell ⟨g, i, none⟩ (.string b)).setCell ⟨g, j, none⟩ (.string a)) (some g2)) := keep (grownBy_setNew (grownBy_setNew hw6 hgw i _) hgw j _)
      have HC2 : Hid (Codes ((w6.setCell ⟨g, i, none⟩ (.string b)).setCell ⟨g, j, none⟩ (.string a)) g2) := keep (hC6.grown (grownBy_set (grownBy_set (World.grownBy.refl w6 (some g)) i _) j _) (by omega))
      have j1 : (j : Int) < (S.length : Int) := by omega
      have j2 : (j : Int) ≤ 24 := by omega
      have i1 : (i : Int) < (S.length : Int) := by omega
      have i2 : (i : Int) ≤ 24 := by omega
      clear ho6 hs1 hs2 hset hw6 hC6 hg6 ha hb hO hC hW hP HN r0 r1
      go_wp2_with fail
      go_region
      go_wp2_with fail
      refine ⟨⟨(j : Int) - 1, (M.set i M[j]).set j M[i], rfl, by omega, by omega, HPM, HS2, HC2, keep (grownBy_drew HW2.out)⟩, ?_⟩
      simp [intOf]
      omega
    · have hd : decide (0 < k) = false := by simpa using hp
      have hbz : Below w.heap.size w wo := below_grown HB4.out hW.out HB4.out.size hg2w
      have HM1 := keep (mineL_any _ S wo ((HVL.out.strGrown hW.out HNS.out).str) (fun s hs => by have := HSZ.out s hs; omega) (by omega))
      have HM2 := keep fun W' (h : Below wo.heap.size wo W') => mineL_any (.slice A5 S.length c5) M W' (by
        have h1 := (own_str (own_bel hO.out h)).str
        rw [← HML.out] at h1 ⊢
        exact h1) (fun s hs => by have := HSZ.out s (hP.out.mem_iff.1 hs); omega) (by have := HML.out; omega)
      have HBZ := keep hbz
      clear hbz hO hC hW
      go_wp2_with fail
      refine HM1.out.mono ?_
      rintro e w6 ⟨v1, R1, rfl, ho1, ht1, hp1, hs1, hl1, hb1⟩
      obtain ⟨A1, c1, rfl, _⟩ := own_sl ho1
      have HM3 := keep (HM2.out w6 hb1)
      have HO1 := keep ho1
      have HT1 := keep ht1
      have HP1 := keep hp1
      have HS1 := keep hs1
      have HB1 := keep hb1
      clear ho1 ht1 hp1 hs1 hb1 HM1 HM2
      go_wp2_with fail
      refine HM3.out.mono ?_
      rintro e w7 ⟨v2, R2, rfl, ho2, ht2, hp2, hs2, hl2, hb2⟩
      obtain ⟨A7, c7, rfl, _⟩ := own_sl ho2
      have hst := order_eq hP.out.symm HP1.out HS1.out hp2 hs2
      have hm1 : MS w7 (.slice A1 R1.length c1) R1 := ⟨Sl.of_own (own_bel HO1.out hb2), fun t ht => TkM.r (B := wo.heap.size) ⟨own_bel (HT1.out t ht).1 hb2, (HT1.out t ht).2⟩⟩
      have hm2' : MS w7 (.slice A7 R2.length c7) R2 := ⟨Sl.of_own ho2, fun t ht => (ht2 t ht).r⟩
      have HSAME := keep (same_any _ _ R1 R2 w7 hm1 hm2' hst (by omega))
      have HB2 := keep (HBZ.out.trans ((bchain HB1.out hb2).mono HBZ.out.size))
      clear ho2 ht2 hp2 hs2 hb2 hst hm1 hm2' HM3 HO1 HT1 HP1 HS1 HB1
      go_wp2_with fail
      refine HSAME.out.mono ?_
      rintro e w8 ⟨rfl, hb8⟩
      have HB8 := keep (HB2.out.trans (hb8.mono HB2.out.size))
      clear hb8
      go_wp2_with fail
      go_ret
      exact ⟨rfl, HB8.out⟩
end Go.Proofs.Ytibljgnajbblaaa
