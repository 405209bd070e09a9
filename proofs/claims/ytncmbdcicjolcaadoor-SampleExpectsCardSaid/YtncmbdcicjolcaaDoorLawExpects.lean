/- SampleExpects: the walk of the statement, and the sums over all keys. -/
import Derived.Test.YtncmbdcicjolcaaDoorLawCounts
import Derived.Test.YtncmbdcicjolcaaDoorApply
namespace Go.Proofs.YtncmbdcicjolcaaDoor
open Go.RowKit

theorem Sl.upE {w w' : World} {size n : Nat} {v : Value} {xs : List Value} (h : Sl w (lt w.heap.size) size v n xs) (hb : Below w.heap.size w w') : Sl w' (lt w'.heap.size) size v n xs := (h.below hb (Nat.le_refl _)).more hb.size

/-- The totals over the first k keys. -/
def sumK (l : List (ByteArray × Int)) (E : List Ev) (k : Int) : Int := (E.map fun e => weightOf l e.tr * cnt (shash e.tr) (5040 / weightOf l e.tr) k).sum
theorem sumK_cons (l : List (ByteArray × Int)) (e : Ev) (E : List Ev) (k : Int) : sumK l (e :: E) k = weightOf l e.tr * cnt (shash e.tr) (5040 / weightOf l e.tr) k + sumK l E k := by simp [sumK]
theorem div_bd {x : Int} (h : vld x = true) : 0 ≤ 5040 / x ∧ 5040 / x ≤ 5040 := by
  have := vld_bd h
  exact ⟨Int.ediv_nonneg (by omega) (by omega), Int.ediv_le_self _ (by omega)⟩
theorem div_all {x : Int} (h : vld x = true) : x * (5040 / x) = 5040 := by
  have h1 : x ∈ divs := by simpa [vld] using h
  have h2 : ∀ y ∈ divs, y * (5040 / y) = 5040 := by decide
  exact h2 x h1
theorem sumK_zero (l : List (ByteArray × Int)) (E : List Ev) : sumK l E 0 = 0 := by
  induction E with
  | nil => rfl
  | cons e E ih =>
    have := shash_bd e.tr
    rw [sumK_cons, ih, cnt_zero _ _ this.1 this.2]
    simp
theorem sumK_all (l : List (ByteArray × Int)) (E : List Ev) : sumK l E 5040 = 5040 * (E.length : Int) := by
  induction E with
  | nil => rfl
  | cons e E ih =>
    have h1 := shash_bd e.tr
    have hv := weight_vld l e.tr
    have h2 := div_bd hv
    rw [sumK_cons, ih, cnt_all _ _ h1.1 h1.2 h2.1 h2.2, div_all hv, List.length_cons]
    omega
theorem tot_cons (e : Ev) (E : List Ev) : tot (e :: E) = e.wt + tot E := by simp [tot]
theorem smp_cons (l : List (ByteArray × Int)) (key : Int) (e : Ev) (E : List Ev) : smp l key (e :: E) = if keepB key e.tr (weightOf l e.tr) = true then { e with wt := weightOf l e.tr } :: smp l key E else smp l key E := by
  unfold smp
  cases h : keepB key e.tr (weightOf l e.tr) <;> simp [h]
theorem sumK_step (l : List (ByteArray × Int)) (E : List Ev) (k : Int) (k0 : 0 ≤ k) (k1 : k < 5040) : sumK l E (k + 1) = sumK l E k + tot (smp l k E) := by
  induction E with
  | nil => rfl
  | cons e E ih =>
    have h1 := shash_bd e.tr
    have hv := weight_vld l e.tr
    have h2 := div_bd hv
    rw [sumK_cons, sumK_cons, ih, cnt_step _ _ _ h1.1 h1.2 h2.1 h2.2 k0 k1, smp_cons]
    have hk : k % 5040 = k := Int.emod_eq_of_lt k0 k1
    unfold keepB
    rw [hk]
    by_cases hc : (shash e.tr + k) % 5040 < 5040 / weightOf l e.tr
    · rw [if_pos hc, if_pos (by simpa using hc), tot_cons]
      simp only [Int.mul_add, Int.mul_one]
      omega
    · rw [if_neg hc, if_neg (by simpa using hc)]
      simp only [Int.add_zero]
      omega
theorem smp_le (l : List (ByteArray × Int)) (key : Int) (E : List Ev) : (smp l key E).length ≤ E.length := by
  have := smp_len l key E E.length
  rwa [List.take_length] at this
theorem smp_ok {l : List (ByteArray × Int)} {key : Int} {E : List Ev} (h : ∀ e ∈ E, EvS e) : ∀ e ∈ smp l key E, EvS e ∧ vld e.wt = true := by
  intro e he
  unfold smp at he
  obtain ⟨a, ha, rfl⟩ := List.mem_map.1 he
  have := h a (List.mem_filter.1 ha).1
  exact ⟨⟨this.ln, this.fd, this.tr⟩, weight_vld _ _⟩

set_option maxHeartbeats 4000000 in
set_option maxRecDepth 100000 in
theorem law_expects_row (vc : Value) (bs : List Int) (w : World) (h : Divs w w.heap.size)
    (hsc : Sl w (lt w.heap.size) 1 vc bs.length (bs.map (.int .u8))) (hr : ∀ x ∈ bs, 0 ≤ x ∧ x ≤ 255) (hm : bs.length ≤ maxLen) :
    Calls Tryd.prog 7 #[vc] w fun e w' => e = .returned (.bool true) ∧ Below w.heap.size w w' := by
  go_enter Tryd.func7, Tryd.ntmps7
  go_wp2_with fail
  refine (awake_true _ h).mono ?_
  rintro e w1 ⟨rfl, hb1⟩
  have hS1 := hsc.upE hb1
  clear hsc
  go_wp2_with fail
  refine (drawNew _ bs 160 _ hS1 hr (by omega) hm).mono ?_
  rintro e w2 ⟨gc, rfl, hgc, hC2, hb2⟩
  have hbw2 := bchain hb1 hb2
  have hgl := hC2.lt_
  have hz1 := hb1.size
  clear hS1 hb1 hb2
  go_wp2_with fail
  refine (samplings_any gc _ hC2).mono ?_
  rintro e w3 ⟨v3, l, rfl, hl2, hll, hown, hC3, hG⟩
  clear hll hC2
  go_wp2_with fail
  refine (events_any gc 5 _ hC3 (by omega)).mono ?_
  rintro e w4 ⟨v4, D, rfl, hown4, hD5, hDok, hC4, hG4⟩
  replace hown := own_grown hown hG4 hgl
  have hG5 := grownBy_trans hG hG4
  have hz3 := hG.size
  have hb7 : Below w.heap.size w w4 := below_grown hbw2 hG5 hbw2.size (by omega)
  obtain ⟨E, hE⟩ : ∃ E, D.map (·.1) = E := ⟨_, rfl⟩
  have hlen : D.length = E.length := by rw [← hE, List.length_map]
  have hES : ∀ e ∈ E, EvS e := by
    intro e he
    rw [← hE] at he
    obtain ⟨t, ht, rfl⟩ := List.mem_map.1 he
    exact (hDok t ht).shapes
  rw [hE, hlen] at hown4
  rw [hlen] at hD5
  have hSl := Sl.of_own hown
  have hSe := Sl.of_own hown4
  have hDW := h.below hb7
  have hzW := hb7.size
  have HES := keep hES
  clear hE hlen hDok hC4 hG4 hG5 hG hC3 hown hown4 hbw2 hES D
  go_wp2_with fail
  go_loopw [6, 7, 8, 9] (fun s j _ _ wr => ∃ (k : Nat) (m : Int), k ≤ 5040 ∧ s = .int .i64 m ∧ j = .int .i64 k ∧ 0 ≤ m ∧ m ≤ 25200 * k ∧ Hid (m = sumK l E k) ∧ Below w4.heap.size w4 wr) (fun _ j _ _ _ => 5040 - (intOf j).toNat)
  case atStart => exact ⟨0, 0, by omega, rfl, rfl, by omega, by omega, keep (sumK_zero l E).symm, Below.refl _ _⟩
  case round =>
    obtain ⟨k, m, hk, rfl, rfl, m0, m1, hM, hbr⟩ := hrel
    by_cases hlt : k < 5040
    · have i1 : (k : Int) < 5040 := by omega
      obtain ⟨wo, rfl⟩ : ∃ wo : World, wo = wr := ⟨_, rfl⟩
      have hDx := hDW.below (hbr.mono hzW)
      have hzx := hbr.size
      go_wp2_with fail
      refine (apply_any v3 l k v4 E wo _ hDx (Nat.le_trans hzW hzx) (hSl.upE hbr) (by omega) HES.out (hSe.upE hbr) (by omega)).mono ?_
      rintro e w5 ⟨v5, rfl, ho5, hb5⟩
      have hbx := bchain hbr hb5
      have hsl := smp_le l k E
      have hok := smp_ok (l := l) (key := k) HES.out
      have hbd := tot_bd (fun e he => (hok e he).2)
      have hst := sumK_step l E k (by omega) i1
      have hS5 := Sl.of_own ho5
      generalize smp l k E = X at hsl hok hbd hst hS5
      clear ho5 hb5
      go_wp2_with fail
      refine (total_any v5 X w5 _ (hDW.below (hbx.mono hzW)) (Nat.le_trans hzW hbx.size) hok hS5 (by omega)).mono ?_
      rintro e w6 ⟨rfl, hb6⟩
      have t0 := hbd.1
      have t1 : tot X ≤ 25200 := by have := hbd.2; omega
      have HST := keep hst
      clear hbd hst hok hS5
      generalize tot X = t at *
      go_wp2_with fail
      go_roundw
      case rel => exact ⟨k + 1, m + t, by omega, by go_num, by go_num, by omega, by omega, keep (by have := HST.out; have := hM.out; push_cast; omega), bchain hbx hb6⟩
      case measure => simp [intOf]; omega
    · obtain rfl : k = 5040 := by omega
      have hmm : m = 5040 * (E.length : Int) := hM.out.trans (sumK_all l E)
      clear hM
      subst hmm
      have e5 : (E.length : Int) ≤ 5 := by omega
      obtain ⟨A, c, rfl, _⟩ := hSe.form
      go_wp2_with fail
      go_ret
      exact ⟨rfl, bchain hb7 hbr⟩
end Go.Proofs.YtncmbdcicjolcaaDoor
