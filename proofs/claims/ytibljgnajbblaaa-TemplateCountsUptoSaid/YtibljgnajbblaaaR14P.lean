/- The Template statements: lines and their counts as plain data (printed by gen/r14p.py out of XKeepsP). No program in sight. -/
import Derived.Test.YtibljgnajbblaaaTmMineL
import Derived.Test.YtibljgnajbblaaaTokEq
import Derived.Test.YtibljgnajbblaaaRefState
namespace Go.Proofs.Ytibljgnajbblaaa
open Go.RowKit
theorem sp_ok : ∀ (l cur : List UInt8), (∀ c ∈ cur, spR c.toNat = false) → ∀ w ∈ sp l cur, ∀ c ∈ w, spR c.toNat = false
  | [], cur, hc, w, hw => by
    unfold sp at hw
    split at hw
    · cases hw
    · rw [List.mem_singleton.1 hw]; exact hc
  | x :: l, cur, hc, w, hw => by
    unfold sp at hw
    split at hw
    · split at hw
      · exact sp_ok l [] (fun c h => by cases h) w hw
      · rcases List.mem_cons.1 hw with h | h
        · rw [h]; exact hc
        · exact sp_ok l [] (fun c h => by cases h) w h
    · rename_i hx
      refine sp_ok l (cur ++ [x]) (fun c h => ?_) w hw
      rcases List.mem_append.1 h with h | h
      · exact hc c h
      · rw [List.mem_singleton.1 h]
        simpa using hx
theorem tokW_ok {l : List UInt8} {U : List (List UInt8)} (h : tokW l = some U) : 1 ≤ U.length ∧ U.length ≤ 60 ∧ ∀ u ∈ U, (u.any fun c => (spR c.toNat || dgR c.toNat)) = false := by
  unfold tokW at h
  split at h
  · cases h
  · rename_i hc
    have hU : (words l).map vrL = U := Option.some.inj h
    subst hU
    rw [List.length_map]
    refine ⟨by omega, by omega, fun u hu => ?_⟩
    obtain ⟨w, hw, rfl⟩ := List.mem_map.1 hu
    unfold vrL
    split
    · rfl
    · rename_i hd
      rw [List.any_eq_false]
      intro c hcm
      have h1 := sp_ok l [] (fun c h => by cases h) w hw c hcm
      have h2 : dgR c.toNat = false := by
        have h3 : (w.any fun c => dgR c.toNat) = false := by simpa using hd
        rw [List.any_eq_false] at h3
        simpa using h3 c hcm
      rw [h1, h2]
      decide
theorem cntS_pos {T : List ByteArray} {U : List (List UInt8)} (h : 0 < cntS T U) : ∃ s ∈ T, tokW (lb s) = some U := by
  induction T with
  | nil => simp [cntS] at h
  | cons s T ih =>
    rw [cntS] at h
    by_cases e : tokW (lb s) = some U
    · exact ⟨s, by simp, e⟩
    · rw [if_neg e] at h
      obtain ⟨x, hx, hx2⟩ := ih (by omega)
      exact ⟨x, by simp [hx], hx2⟩
theorem cntS_nonneg (T : List ByteArray) (U : List (List UInt8)) : 0 ≤ cntS T U := by
  induction T with
  | nil => simp [cntS]
  | cons s T ih => rw [cntS]; split <;> omega
theorem cntS_split {T : List ByteArray} {k : Nat} (hk : k < T.length) (U : List (List UInt8)) : cntS T U = cntS (T.take k ++ T.drop (k + 1)) U + if tokW (lb T[k]) = some U then 1 else 0 := by
  have e : T = T.take k ++ ([T[k]] ++ T.drop (k + 1)) := by rw [List.singleton_append, ← List.drop_eq_getElem_cons hk, List.take_append_drop]
  conv => lhs; rw [e]
  rw [cntS_append, cntS_append, cntS_append]
  simp only [cntS]
  omega
theorem lnT_cons (s : ByteArray) (T : List ByteArray) : lnT (s :: T) = ((toks s).map fun W => (strs W, (1 : Int))).toList ++ lnT T := by
  unfold lnT
  rw [List.filterMap_cons]
  cases toks s <;> rfl
theorem cnt_lnT (T : List ByteArray) (U : List (List UInt8)) : cnt (lnT T) U = cntS T U := by
  induction T with
  | nil => rfl
  | cons s T ih =>
    rw [lnT_cons, cntS, ← ih, ← toks_eq]
    cases ho : toks s with
    | none => simp
    | some W => simp [cnt]
theorem lnT_pos (T : List ByteArray) : Pos (lnT T) := fun t ht => by
  obtain ⟨s, _, hs⟩ := List.mem_filterMap.1 ht
  cases ho : toks s with
  | none => rw [ho] at hs; cases hs
  | some W =>
    rw [ho] at hs
    have : (strs W, (1 : Int)) = t := Option.some.inj hs
    rw [← this]
    exact Int.le_refl 1
theorem lnT_sum (T : List ByteArray) : sumP (lnT T) = ((lnT T).length : Int) := by
  induction T with
  | nil => rfl
  | cons s T ih =>
    rw [lnT_cons]
    cases ho : toks s with
    | none => simpa using ih
    | some W =>
      simp only [Option.map_some, Option.toList_some, List.singleton_append, sumP_cons, List.length_cons]
      rw [ih]
      omega
theorem posl_self {l : List TP} (h : Pos l) : posl l = l := List.filter_eq_self.2 fun t ht => decide_eq_true (h t ht)
theorem srt_eq : ∀ {a b : List TP}, Srt a → Srt b → a.Perm b → a = b
  | [], b, _, _, h => (List.nil_perm.1 h).symm
  | x :: a, [], _, _, h => by have := h.length_eq; simp at this
  | x :: a, y :: b, ha, hb, h => by
    have e : x = y := by
      have h1 : x ∈ y :: b := h.mem_iff.1 (by simp)
      have h2 : y ∈ x :: a := h.mem_iff.2 (by simp)
      rcases List.mem_cons.1 h1 with h1 | h1
      · exact h1
      · rcases List.mem_cons.1 h2 with h2 | h2
        · exact h2.symm
        · have q1 := hb.head x h1
          have q2 := ha.head y h2
          have := cmpT_flip.1 q1
          omega
    subst e
    rw [srt_eq (List.pairwise_cons.1 ha).2 (List.pairwise_cons.1 hb).2 (List.Perm.cons_inv h)]
/-- Elements with the counts of lines have the lines' templates. -/
theorem lines_eq {A R1 R2 : List Tm} {T : List ByteArray} (hp : Pos (tpL A)) (hc : ∀ U, cnt (tpL A) U = cntS T U) (h1 : (tpL R1).Perm (ofA (tpL A))) (s1 : Srt (tpL R1)) (h2 : (tpL R2).Perm (ofA (lnT T))) (s2 : Srt (tpL R2)) : st R1 = st R2 := by
  have he : Eqv (tpL A) (lnT T) := ⟨hp, lnT_pos T, fun U => by rw [cnt_lnT]; exact hc U⟩
  have hq : (ofA (tpL A)).Perm (ofA (lnT T)) := Eqv.of (by rw [posl_self he.1, posl_self he.2.1]; exact he)
  exact srt_eq s1 s2 (h1.trans (hq.trans h2.symm))
theorem order_eq {R1 R2 : List Tm} {S T : List ByteArray} (hS : S.Perm T) (h1 : (tpL R1).Perm (ofA (lnT S))) (s1 : Srt (tpL R1)) (h2 : (tpL R2).Perm (ofA (lnT T))) (s2 : Srt (tpL R2)) : st R1 = st R2 := by
  have he : Eqv (lnT S) (lnT T) := Eqv.of_perm (lnT_pos S) (hS.filterMap _)
  have hq : (ofA (lnT S)).Perm (ofA (lnT T)) := Eqv.of (by rw [posl_self he.1, posl_self he.2.1]; exact he)
  exact srt_eq s1 s2 (h1.trans (hq.trans h2.symm))
end Go.Proofs.Ytibljgnajbblaaa
