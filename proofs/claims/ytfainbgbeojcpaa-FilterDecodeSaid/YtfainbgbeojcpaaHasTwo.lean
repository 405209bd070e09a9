/- Has of the filter and its reference. -/
import Derived.Test.YtfainbgbeojcpaaHas
namespace Go.Proofs.Ytfainbgbeojcpaa
open Go.RowKit

theorem has1_any (g : Nat) (h : Int) (v : Value) (l : List Int) (p : Int) (w : World) (S : Nat → Prop) (hB : Blk w g 27 #[.int .i64 h, v]) (hs : Sl w S 1 v l.length (l.map (.int .u64))) (h2 : l.length ≤ 1024) (hp : 0 ≤ p ∧ p < 64 * l.length) :
    Calls Try.prog 48 #[.int .i64 p, .pointer (some ⟨g, 0, none⟩)] w fun e w' => e = .returned (.bool (!hasB l p)) ∧ w = w' := by
  obtain ⟨A, c, rfl, hc, hs⟩ := hs.form
  obtain ⟨q0, q1⟩ := hB.cell2
  clear hB
  go_enter Try.func48, Try.ntmps48
  go_wp2_with fail
  refine (setHas_any _ l p _ _ hs h2 hp).mono ?_
  rintro e w' ⟨rfl, rfl⟩
  generalize hb : hasB l p = b
  have HB := keep hb
  clear hb
  go_wp2_with fail
  go_ret
  exact ⟨ret_bool (by rw [HB.out]), rfl⟩

theorem any_take {p : Int → Bool} {l : List Int} {k : Nat} (hlt : k < l.length) (h : (l.take k).any p = false) (hp : p l[k] = false) : (l.take (k + 1)).any p = false := by
  rw [List.take_add_one, List.any_append, h, List.getElem?_eq_getElem hlt]
  simp [hp]
def IdxRes (w : World) (l ps : List Int) (e : Ending) (w' : World) : Prop := ∃ r : Int, e = .returned (.int .i64 r) ∧ decide (0 ≤ r) = ps.any (fun p => !hasB l p) ∧ w = w'
theorem indexHas_any (g : Nat) (h : Int) (v vp : Value) (l ps : List Int) (w : World) (S S' : Nat → Prop) (hB : Blk w g 27 #[.int .i64 h, v]) (hs : Sl w S 1 v l.length (l.map (.int .u64))) (h2 : l.length ≤ 1024)
    (hp : Sl w S' 1 vp ps.length (ps.map (.int .i64))) (hps : ps.length ≤ 1000) (hpb : ∀ p ∈ ps, 0 ≤ p ∧ p < 64 * l.length) :
    Calls Try.prog 55 #[vp, .func (.func 48) #[] #[.pointer (some ⟨g, 0, none⟩)]] w (IdxRes w l ps) := by
  have HPB := keep hpb
  clear hpb
  obtain ⟨A, c, rfl, hc, hp⟩ := hp.form
  go_enter Try.func55, Try.ntmps55
  go_wp2_with fail
  go_loop [5, 8] (fun _ i => ∃ k : Nat, k ≤ ps.length ∧ i = .int .i64 k ∧ Hid ((ps.take k).any (fun p => !hasB l p) = false)) (fun _ i => ps.length - (intOf i).toNat)
  case atStart => exact ⟨0, Nat.zero_le _, rfl, keep (by simp)⟩
  case round =>
    obtain ⟨k, hk, rfl, hnot⟩ := hrel
    by_cases hlt : k < ps.length
    · obtain ⟨b1, o1, u1, rfl, hb1, hx1, hc1⟩ := hp.at_ hlt
      have hu : u1 = .int .i64 ps[k] := by simpa [hlt] using hx1.symm
      subst hu
      have hi2 : (k : Int) < (ps.length : Int) := by omega
      clear hx1
      go_wp2_with fail
      refine (has1_any g h v l ps[k] _ _ hB hs h2 (HPB.out _ (List.getElem_mem _))).mono ?_
      rintro e w1 ⟨he, rfl⟩
      cases hb : hasB l ps[k]
      · rw [hb] at he
        subst he
        have HB := keep hb
        clear hb
        go_wp2_with fail
        go_ret
        refine ⟨_, rfl, ?_, rfl⟩
        have : ps.any (fun p => !hasB l p) = true := List.any_eq_true.2 ⟨ps[k], List.getElem_mem _, by rw [HB.out]; rfl⟩
        rw [this]; simp
      · rw [hb] at he
        subst he
        have HB := keep hb
        clear hb
        go_wp2_with fail
        go_round
        case rel => exact ⟨k + 1, by omega, by go_num, keep (any_take hlt hnot.out (by rw [HB.out]; rfl))⟩
        case measure => simp [intOf]; omega
    · obtain rfl : k = ps.length := by omega
      go_wp2_with fail
      go_ret
      refine ⟨_, rfl, ?_, rfl⟩
      have := hnot.out
      rw [List.take_length] at this
      rw [this]; rfl

theorem containsHas_any (g : Nat) (h : Int) (v vp : Value) (l ps : List Int) (w : World) (S S' : Nat → Prop) (hB : Blk w g 27 #[.int .i64 h, v]) (hs : Sl w S 1 v l.length (l.map (.int .u64))) (h2 : l.length ≤ 1024)
    (hp : Sl w S' 1 vp ps.length (ps.map (.int .i64))) (hps : ps.length ≤ 1000) (hpb : ∀ p ∈ ps, 0 ≤ p ∧ p < 64 * l.length) :
    Calls Try.prog 47 #[vp, .func (.func 48) #[] #[.pointer (some ⟨g, 0, none⟩)]] w fun e w' => e = .returned (.bool (ps.any fun p => !hasB l p)) ∧ w = w' := by
  have H := keep (indexHas_any g h v vp l ps w S S' hB hs h2 hp hps hpb)
  clear hB hs hp hpb
  go_enter Try.func47, Try.ntmps47
  go_wp2_with fail
  refine H.out.mono ?_
  rintro e w1 ⟨r, rfl, hr, rfl⟩
  have hR := keep hr
  clear hr
  go_wp2_with fail
  go_ret
  exact ⟨ret_bool hR.out, rfl⟩

def hasAll (l ps : List Int) : Bool := ps.all (hasB l)
theorem hasAll_any (l ps : List Int) : (!(ps.any fun p => !hasB l p)) = hasAll l ps := by
  induction ps with
  | nil => rfl
  | cons a ps ih =>
    simp only [List.any_cons, hasAll, List.all_cons, Bool.not_or, Bool.not_not] at ih ⊢
    rw [ih]
theorem poss_bd (s : ByteArray) (k n : Nat) (h : 1 ≤ n) : ∀ p ∈ poss s k n, 0 ≤ p ∧ p < 64 * n := by
  intro p hp
  simp only [poss, List.mem_map] at hp
  obtain ⟨i, _, rfl⟩ := hp
  exact pos_bd _ _ _ _ h

theorem has_any (k : Nat) (v : Value) (l : List Int) (s : ByteArray) (w : World) (hs : Sl w (lt w.heap.size) 1 v l.length (l.map (.int .u64))) (h1 : 1 ≤ l.length) (h2 : l.length ≤ 1024) (hk : k ≤ 8) (hm : s.size ≤ maxLen) :
    Calls Try.prog 30 #[.agg #[.int .i64 k, v], .string s] w fun e w' => e = .returned (.bool (hasAll l (poss s k l.length))) ∧ Below w.heap.size w w' := by
  obtain ⟨A, c, rfl, hc, hs⟩ := hs.form
  have hb0 := (Below.refl w.heap.size w).alloc (Nat.le_refl _) (.cells #[.int .i64 k, .slice A l.length c] 27)
  have hB := Blk.new w 27 #[.int .i64 k, .slice A l.length c]
  have HPB := keep (poss_bd s k l.length h1)
  have hpl : (poss s k l.length).length = k := poss_len _ _ _
  have HPL := keep hpl
  clear hpl
  go_enter Try.func30, Try.ntmps30
  go_wp2_with fail
  refine (positions_any k _ _ _ _ _ hm hk h1 h2).mono ?_
  rintro e w1 ⟨vp, rfl, hown, hb1⟩
  have hB1 := hB.below hb1 (by simp)
  have hs1 := (hs.below hb0 (Nat.le_refl _)).below hb1 (by simp)
  have hS : Sl w1 (lt w1.heap.size) 1 vp (poss s k l.length).length ((poss s k l.length).map (.int .i64)) := by rw [HPL.out]; exact Sl.of_own hown
  have hbf : Below w.heap.size w w1 := hb0.trans (hb1.mono (by simp))
  have hps : (poss s k l.length).length ≤ 1000 := by rw [HPL.out]; omega
  clear hs hown hB hb1 hb0
  generalize hpsq : poss s k l.length = ps at *
  have HPS := keep hpsq
  clear hpsq
  go_wp2_with fail
  refine (containsHas_any w.heap.size k _ vp l ps _ _ _ hB1 hs1 h2 hS hps HPB.out).mono ?_
  rintro e w2 ⟨rfl, rfl⟩
  generalize hb : (ps.any fun p => !hasB l p) = b
  have HB := keep hb
  clear hb
  go_wp2_with fail
  go_ret
  exact ⟨ret_bool (by rw [← HB.out, HPS.out]; exact hasAll_any l ps), hbf⟩

set_option maxHeartbeats 1000000 in
theorem refHas_any (k : Nat) (v : Value) (l : List Int) (s : ByteArray) (w : World) (hs : Sl w (lt w.heap.size) 1 v l.length (l.map (.int .u64))) (h1 : 1 ≤ l.length) (h2 : l.length ≤ 1024) (hk : k ≤ 8) (hm : s.size ≤ maxLen) (hU : ∀ x ∈ l, U64 x) :
    Calls Try.prog 31 #[.agg #[.int .i64 k, v], .string s] w fun e w' => e = .returned (.bool (hasAll l (poss s k l.length))) ∧ Below w.heap.size w w' := by
  obtain ⟨A, c, rfl, hc, hs⟩ := hs.form
  have hb0 := (Below.refl w.heap.size w).alloc (Nat.le_refl _) (.cells #[.int .i64 k, .slice A l.length c] 27)
  have hB := Blk.new w 27 #[.int .i64 k, .slice A l.length c]
  have HPB := keep (poss_bd s k l.length h1)
  have hpl : (poss s k l.length).length = k := poss_len _ _ _
  have HPL := keep hpl
  have HU := keep hU
  clear hpl hU
  go_enter Try.func31, Try.ntmps31
  go_wp2_with fail
  refine (refPositions_any k _ _ _ _ _ hm hk h1 h2).mono ?_
  rintro e w1 ⟨vp, rfl, hown, hb1⟩
  have hB1 := hB.below hb1 (by simp)
  have hs1 := (hs.below hb0 (Nat.le_refl _)).below hb1 (by simp)
  have hS : Sl w1 (lt w1.heap.size) 1 vp (poss s k l.length).length ((poss s k l.length).map (.int .i64)) := by rw [HPL.out]; exact Sl.of_own hown
  have hbf : Below w.heap.size w w1 := hb0.trans (hb1.mono (by simp))
  have hps : (poss s k l.length).length ≤ 1000 := by rw [HPL.out]; omega
  clear hs hown hB hb1 hb0
  generalize hpsq : poss s k l.length = ps at *
  have HPS := keep hpsq
  clear hpsq
  obtain ⟨Ap, cp, rfl, _, hS⟩ := hS.form
  have hl1 := hB1.lt
  go_wp2_with fail
  go_loopw [6] (fun i wr => ∃ j : Nat, j ≤ ps.length ∧ i = .int .i64 j ∧ Hid ((ps.take j).any (fun p => !hasB l p) = false) ∧ Below w1.heap.size w1 wr) (fun i _ => ps.length - (intOf i).toNat)
  case atStart => exact ⟨0, Nat.zero_le _, rfl, keep (by simp), Below.refl _ _⟩
  case round =>
    obtain ⟨j, hj, rfl, hnot, hbr⟩ := hrel
    have hfin := hbf.trans (hbr.mono hbf.size)
    by_cases hlt : j < ps.length
    · obtain ⟨b3, o3, u3, rfl, hb3, hx3, hc3⟩ := (hS.below hbr (Nat.le_refl _)).at_ hlt
      have hu : u3 = .int .i64 ps[j] := by simpa [hlt] using hx3.symm
      subst hu
      have hpb := HPB.out ps[j] (List.getElem_mem _)
      have hbc := bitVal_cases (p := ps[j]) HU.out
      have hmem : ps[j] ∈ ps := List.getElem_mem _
      have HAT := keep (fun h => any_take (p := fun p => !hasB l p) hlt hnot.out h)
      generalize hpj : ps[j] = p at *
      clear hpj
      obtain ⟨q, r, hpq, hr64⟩ : ∃ q r : Nat, p = 64 * (q : Int) + (r : Int) ∧ r < 64 := ⟨(p / 64).toNat, (p % 64).toNat, by omega, by omega⟩
      have hqn : q < l.length := by omega
      obtain ⟨b4, o4, u4, rfl, hb4, hx4, hc4⟩ := (hs1.below hbr (by omega)).at_ hqn
      have hu : u4 = .int .u64 l[q] := by simpa [hqn] using hx4.symm
      subst hu
      have hbv : bitVal l p = bits .and .u64 (l[q] / 2 ^ r) 1 := by
        have e1 : (p / 64).toNat = q := by omega
        have e2 : (p % 64).toNat = r := by omega
        rw [bitVal, e1, e2]
        simp [hqn]
      have hB2 := hB1.below hbr hl1
      obtain ⟨q0, q1⟩ := hB2.cell2
      have i2 : (0 : Int) ≤ (j : Int) := by omega
      have i3 : (j : Int) < (ps.length : Int) := by omega
      have i4 : (0 : Int) ≤ (q : Int) := by omega
      have i5 : (q : Int) < (l.length : Int) := by omega
      have i6 : (0 : Int) ≤ (r : Int) := by omega
      have i7 : (r : Int) < 64 := by omega
      have e1 : p.tdiv 64 = (q : Int) := by rw [Int.tdiv_eq_ediv_of_nonneg hpb.1]; omega
      have e2 : p.tmod 64 = (r : Int) := by rw [Int.tmod_eq_emod_of_nonneg hpb.1]; omega
      have e3 : IntKind.i64.wrap (q : Int) = q := IntWalk.i64_in _ (by omega)
      have HBV := keep hbv
      clear hx3 hx4 hpq hbv hB2
      rcases hbc with hz | hz
      · have dz : (bits .and .u64 (l[q] / 2 ^ r) 1 == 0) = true := by rw [← HBV.out, hz]; rfl
        have HZ := keep hz
        clear hz
        go_wp2_with fail
        go_quiet (fail)
        go_wp2_with fail
        go_ret
        refine ⟨ret_bool ?_, below_drewN hfin _⟩
        rw [HPS.out, ← hasAll_any]
        have : ps.any (fun p => !hasB l p) = true := List.any_eq_true.2 ⟨p, hmem, by rw [hasB, HZ.out]; rfl⟩
        rw [this]; rfl
      · have dz : (bits .and .u64 (l[q] / 2 ^ r) 1 == 0) = false := by rw [← HBV.out, hz]; rfl
        have HZ := keep hz
        clear hz
        go_wp2_with fail
        go_quiet (fail)
        go_wp2_with fail
        go_roundw
        case rel => exact ⟨j + 1, by omega, by go_num, keep (HAT.out (by rw [hasB, HZ.out]; rfl)), below_drewN hbr _⟩
        case measure => simp [intOf]; omega
    · obtain rfl : j = ps.length := by omega
      go_wp2_with fail
      go_ret
      refine ⟨ret_bool ?_, hfin⟩
      rw [HPS.out, ← hasAll_any]
      have := hnot.out
      rw [List.take_length] at this
      rw [this]; rfl
end Go.Proofs.Ytfainbgbeojcpaa
