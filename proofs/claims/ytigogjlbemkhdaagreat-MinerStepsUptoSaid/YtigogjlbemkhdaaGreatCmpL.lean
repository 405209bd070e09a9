/- slices.Compare of strings. -/
import Derived.Test.YtigogjlbemkhdaaGreatCmp
import Derived.Test.YtigogjlbemkhdaaGreatOrI
namespace Go.Proofs.YtigogjlbemkhdaaGreat
open Go.RowKit
def cmpL : List (List UInt8) → List (List UInt8) → Int
  | [], [] => 0
  | [], _ :: _ => -1
  | _ :: _, [] => 1
  | a :: l, b :: m => if cmpB a b = 0 then cmpL l m else cmpB a b
def strs (T : List ByteArray) : List (List UInt8) := T.map lb
theorem str_at {w : World} {S : Nat → Prop} {A : Option Addr} {c k : Nat} {T : List ByteArray} (h : Sl w S 1 (.slice A T.length c) T.length (T.map .string)) (hk : k < T.length) :
    ∃ b o, A = some ⟨b, o, none⟩ ∧ S b ∧ w.cell? ⟨b, o + k, none⟩ = some (.string T[k]) := by
  obtain ⟨b, o, u, hA, hb, hu, hc⟩ := h.at_ hk
  have : u = .string T[k] := by simpa [hk] using hu.symm
  subst this
  exact ⟨b, o, hA, hb, hc⟩
theorem cmpL_step {T S : List ByteArray} {k : Nat} (h1 : k < T.length) (h2 : k < S.length) (h : cmpB (lb T[k]) (lb S[k]) = 0) : cmpL (strs (T.drop k)) (strs (S.drop k)) = cmpL (strs (T.drop (k + 1))) (strs (S.drop (k + 1))) := by
  rw [List.drop_eq_getElem_cons h1, List.drop_eq_getElem_cons h2]
  simp only [strs, List.map_cons, cmpL, if_pos h]
theorem cmpL_stop {T S : List ByteArray} {k : Nat} (h1 : k < T.length) (h2 : k < S.length) (h : cmpB (lb T[k]) (lb S[k]) ≠ 0) : cmpL (strs (T.drop k)) (strs (S.drop k)) = cmpB (lb T[k]) (lb S[k]) := by
  rw [List.drop_eq_getElem_cons h1, List.drop_eq_getElem_cons h2]
  simp only [strs, List.map_cons, cmpL, if_neg h]
theorem cmpL_more {T S : List ByteArray} {k : Nat} (h1 : k < T.length) (h2 : S.length ≤ k) : cmpL (strs (T.drop k)) (strs (S.drop k)) = 1 := by
  rw [List.drop_eq_getElem_cons h1, List.drop_eq_nil_of_le h2]
  simp only [strs, List.map_cons, List.map_nil, cmpL]
theorem cmpL_end {T S : List ByteArray} (h2 : T.length ≤ S.length) : cmpL (strs (T.drop T.length)) (strs (S.drop T.length)) = if T.length < S.length then -1 else 0 := by
  rw [List.drop_length]
  split
  · next h => rw [List.drop_eq_getElem_cons h]; simp only [strs, List.map_cons, List.map_nil, cmpL]
  · next h => rw [List.drop_eq_nil_of_le (by omega)]; simp only [strs, List.map_nil, cmpL]
set_option maxHeartbeats 2000000 in
theorem cmp_strs (v1 v2 : Value) (T S : List ByteArray) (w : World) (S1 S2 : Nat → Prop) (h1 : Sl w S1 1 v1 T.length (T.map .string)) (h2 : Sl w S2 1 v2 S.length (S.map .string)) (hT : T.length ≤ 1048576) :
    Calls Tryz.prog 43 #[v1, v2] w fun e w' => e = .returned (.int .i64 (cmpL (strs T) (strs S))) ∧ w' = w := by
  obtain ⟨A1, c1, rfl, hc1, h1⟩ := h1.form
  obtain ⟨A2, c2, rfl, hc2, h2⟩ := h2.form
  go_enter Tryz.func43, Tryz.ntmps43
  go_wp2_with fail
  go_loop [5, 6, 7, 8, 11] (fun _ _ _ _ i => ∃ k : Nat, k ≤ T.length ∧ k ≤ S.length ∧ i = .int .i64 k ∧ Hid (cmpL (strs T) (strs S) = cmpL (strs (T.drop k)) (strs (S.drop k)))) (fun _ _ _ _ i => T.length - (intOf i).toNat)
  case atStart => exact ⟨0, Nat.zero_le _, Nat.zero_le _, rfl, keep rfl⟩
  case round =>
    obtain ⟨k, hk, hks, rfl, hE⟩ := hrel
    by_cases hlt : k < T.length
    · obtain ⟨b, o, rfl, hb, c0⟩ := str_at h1 hlt
      have i1 : (k : Int) < (T.length : Int) := by omega
      have i2 : (k : Int) ≤ 1048576 := by omega
      by_cases hlt2 : k < S.length
      · obtain ⟨b2, o2, rfl, hb2, d0⟩ := str_at h2 hlt2
        have hst := cmpL_step hlt hlt2
        have hsp := cmpL_stop hlt hlt2
        generalize T[k] = t at c0 hst hsp
        generalize S[k] = s at d0 hst hsp
        have i3 : (k : Int) < (S.length : Int) := by omega
        have HST := keep hst
        have HSP := keep hsp
        clear hst hsp
        go_wp2_with fail
        refine (cmp_str t s w).mono ?_
        rintro e w' ⟨rfl, rfl⟩
        by_cases hz : cmpB (lb t) (lb s) = 0
        · rw [hz]
          have HZ := keep (HST.out hz)
          clear hz HST HSP
          go_wp2_with fail
          go_round
          case rel => exact ⟨k + 1, by omega, by omega, by go_num, keep (hE.out.trans HZ.out)⟩
          case measure => simp [intOf]; omega
        · have HZ := keep (HSP.out hz)
          generalize cmpB (lb t) (lb s) = c at hz HZ
          have hne : (c != 0) = true := by simpa using hz
          clear hz HST HSP
          go_wp2_with fail
          go_ret
          exact ⟨ret_int (by rw [hE.out, HZ.out]), rfl⟩
      · have hm := cmpL_more hlt (show S.length ≤ k by omega)
        have i3 : (S.length : Int) ≤ (k : Int) := by omega
        have HM := keep hm
        clear hm
        go_wp2_with fail
        go_ret
        exact ⟨ret_int (by rw [hE.out, HM.out]), rfl⟩
    · obtain rfl : k = T.length := by omega
      have hm := cmpL_end hks
      by_cases hlt2 : T.length < S.length
      · rw [if_pos hlt2] at hm
        have HM := keep hm
        have i3 : (T.length : Int) < (S.length : Int) := by omega
        clear hm
        go_wp2_with fail
        go_ret
        exact ⟨ret_int (by rw [hE.out, HM.out]), rfl⟩
      · rw [if_neg hlt2] at hm
        have HM := keep hm
        have i3 : ¬ ((T.length : Int) < (S.length : Int)) := by omega
        clear hm
        go_wp2_with fail
        go_ret
        exact ⟨ret_int (by rw [hE.out, HM.out]), rfl⟩
end Go.Proofs.YtigogjlbemkhdaaGreat
