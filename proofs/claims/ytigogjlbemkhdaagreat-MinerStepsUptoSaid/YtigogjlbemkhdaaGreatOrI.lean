/- cmp.Or of ints. -/
import Derived.Test.YtigogjlbemkhdaaGreatLib
namespace Go.Proofs.YtigogjlbemkhdaaGreat
open Go.RowKit
/-- cmp.Or of a row of numbers: the first that is not nought. -/
def orL (l : List Int) : Int := (l.find? fun x => x != 0).getD 0
theorem orL_two (a b : Int) : orL [a, b] = if a = 0 then b else a := by
  unfold orL
  by_cases ha : a = 0
  · subst ha
    by_cases hb : b = 0
    · subst hb; rfl
    · simp [hb]
  · simp [ha]
theorem orL_skip {l : List Int} {k : Nat} (hk : k < l.length) (h : l[k] = 0) : orL (l.drop k) = orL (l.drop (k + 1)) := by
  rw [List.drop_eq_getElem_cons hk]
  unfold orL
  rw [List.find?_cons_of_neg (by simp [h])]
theorem orL_take {l : List Int} {k : Nat} (hk : k < l.length) (h : l[k] ≠ 0) : orL (l.drop k) = l[k] := by
  rw [List.drop_eq_getElem_cons hk]
  unfold orL
  rw [List.find?_cons_of_pos (by simpa using h)]
  rfl
theorem or_int (v : Value) (l : List Int) (w : World) (S : Nat → Prop) (h : Sl w S 1 v l.length (l.map (.int .i64))) (hl : l.length ≤ 1048576) :
    Calls Tryz.prog 41 #[v] w fun e w' => e = .returned (.int .i64 (orL l)) ∧ w' = w := by
  obtain ⟨A, c, rfl, hc, h⟩ := h.form
  go_enter Tryz.func41, Tryz.ntmps41
  go_wp2_with fail
  go_loop [5, 8] (fun _ i => ∃ k : Nat, k ≤ l.length ∧ i = .int .i64 k ∧ Hid (orL l = orL (l.drop k))) (fun _ i => l.length - (intOf i).toNat)
  case atStart => exact ⟨0, Nat.zero_le _, rfl, keep rfl⟩
  case round =>
    obtain ⟨k, hk, rfl, hE⟩ := hrel
    by_cases hlt : k < l.length
    · obtain ⟨b, o, u, rfl, hb, hu, c0⟩ := h.at_ hlt
      have hu' : u = .int .i64 l[k] := by simpa [hlt] using hu.symm
      subst hu'
      have hs := orL_skip hlt
      have ht := orL_take hlt
      generalize l[k] = x at c0 hs ht
      have i1 : (k : Int) < (l.length : Int) := by omega
      have i2 : (k : Int) ≤ 1048576 := by omega
      clear hu
      by_cases hx : x = 0
      · subst hx
        have HS := keep (hs rfl)
        clear hs ht
        go_wp2_with fail
        go_round
        case rel => exact ⟨k + 1, by omega, by go_num, keep (hE.out.trans HS.out)⟩
        case measure => simp [intOf]; omega
      · have HT := keep (ht hx)
        have hne : (x != 0) = true := by simpa using hx
        clear hs ht hx
        go_wp2_with fail
        go_ret
        exact ⟨ret_int (by rw [hE.out, HT.out]), rfl⟩
    · obtain rfl : k = l.length := by omega
      go_wp2_with fail
      go_ret
      exact ⟨ret_int (by rw [hE.out, List.drop_length]; rfl), rfl⟩
end Go.Proofs.YtigogjlbemkhdaaGreat
