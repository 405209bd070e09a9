/- The sanity check of the statements about miner. -/
import Derived.Test.YtigogjlbemkhdaaGreatRefState
namespace Go.Proofs.YtigogjlbemkhdaaGreat
open Go.RowKit
theorem toks_ab : (toks ⟨#[97, 32, 98]⟩).isSome = true := by kernel_rfl
theorem removed_one {P : List TP} {T : List (List UInt8)} (h : ∀ U, cnt P U = if T = U then 1 else 0) (hs : Srt P) (hp : Pos P) : P = [(T, 1)] := by
  refine cnt_ext hs (List.pairwise_singleton _ _) hp (fun t ht => by rw [List.mem_singleton.1 ht]; exact Int.le_refl _) fun U => ?_
  rw [h, cnt, cnt]
  simp only
  omega
set_option maxHeartbeats 4000000 in
set_option maxRecDepth 100000 in
theorem awake_true (w : World) : Calls Tryz.prog 4 #[] w fun e w' => e = .returned (.bool true) ∧ Below w.heap.size w w' := by
  obtain ⟨T, hT⟩ := Option.isSome_iff_exists.1 toks_ab
  have g0 : Good (st []) 1048575 := ⟨List.Pairwise.nil, fun t ht => (by cases ht), by simp [st, sumP]⟩
  have h1 := fun w' => addLine (.slice none 0 0) [] ⟨#[97, 32, 98]⟩ w' (MS.nil w') g0 (by decide)
  rw [hT] at h1
  have H1 := keep h1
  have HT := keep hT
  clear h1 hT g0
  go_enter Tryz.func4, Tryz.ntmps4
  go_wp2_with fail
  refine (H1.out w).mono ?_
  rintro e w1 ⟨v1, L1, rfl, hn1, ha1⟩
  have ha1' : Added (st []) (st L1) (strs T) 1 := ha1
  have hb1 := hn1.2.2
  have hs1 : sumP (st L1) = 1 := by rw [ha1'.t]; rfl
  have h2 := addLine v1 L1 ⟨#[97, 32, 98]⟩ w1 hn1.ms ⟨ha1'.s, ha1'.p, by omega⟩ (by decide)
  rw [HT.out] at h2
  have H2 := keep h2
  obtain ⟨A1, c1, rfl, _⟩ := own_sl hn1.1
  have HA1 := keep ha1'
  clear h2 hn1 ha1 ha1' H1 hs1
  go_wp2_with fail
  refine H2.out.mono ?_
  rintro e w2 ⟨v2, L2, rfl, hn2, ha2⟩
  have ha2' : Added (st L1) (st L2) (strs T) 1 := ha2
  have hb2 := bchain hb1 hn2.2.2
  have hs2 : sumP (st L2) = 2 := by rw [ha2'.t, HA1.out.t]; rfl
  have h3 := removeLine v2 L2 ⟨#[97, 32, 98]⟩ w2 hn2.ms ⟨ha2'.s, ha2'.p, by omega⟩ (by decide)
  rw [HT.out] at h3
  have H3 := keep h3
  obtain ⟨A2, c2, rfl, _⟩ := own_sl hn2.1
  have HA2 := keep ha2'
  clear h3 hn2 ha2 ha2' H2 hs2 hb1
  go_wp2_with fail
  refine H3.out.mono ?_
  rintro e w3 ⟨v3, L3, ok, rfl, hn3, hr3⟩
  have hb3 := bchain hb2 hn3.2.2
  have hc2 : cnt (st L2) (strs T) ≠ 0 := by rw [HA2.out.c, HA1.out.c]; simp [st, cnt]
  have hr3' : ok = true ∧ Removed (st L2) (st L3) (strs T) := by
    have hr : (if cnt (st L2) (strs T) = 0 then ok = false ∧ st L3 = st L2 else ok = true ∧ Removed (st L2) (st L3) (strs T)) := hr3
    rw [if_neg hc2] at hr
    exact hr
  obtain ⟨rfl, hrm⟩ := hr3'
  have hone : st L3 = [(strs T, 1)] := removed_one (fun U => by rw [hrm.c, HA2.out.c, HA1.out.c]; simp only [st, List.map_nil, cnt]; split <;> omega) hrm.s hrm.p
  have hl3 : L3.length = 1 := by have := congrArg List.length hone; rw [st_len] at this; exact this
  obtain ⟨t, rfl⟩ : ∃ t, L3 = [t] := List.length_eq_one_iff.1 hl3
  have hct : t.ct = 1 := by
    have h4 : (strs t.tk, t.ct) = (strs T, (1 : Int)) := by simpa [st] using hone
    exact congrArg Prod.snd h4
  obtain ⟨A3, c3, rfl, _⟩ := own_sl hn3.1
  have hms := Sl.of_own hn3.1
  obtain ⟨b, o, rfl, _, c0, c1'⟩ := tm_cells (k := 0) hms (by simp)
  simp only [List.getElem_cons_zero, Nat.zero_mul, Nat.add_zero] at c0 c1'
  rw [hct] at c1'
  clear hn3 hr3 hrm hone hl3 hms HA1 HA2 HT H3 hb2 hc2 hct
  go_wp2_with fail
  go_ret
  exact ⟨rfl, hb3⟩
end Go.Proofs.YtigogjlbemkhdaaGreat
