/- template.Mine. -/
import Derived.Test.YtibljgnajbblaaaTmOf
import Derived.Test.YtibljgnajbblaaaTokens
namespace Go.Proofs.Ytibljgnajbblaaa
open Go.RowKit
/-- The elements of lines: each with the count 1. -/
def lnT (S : List ByteArray) : List TP := S.filterMap fun s => (toks s).map fun T => (strs T, (1 : Int))
theorem lnT_some {S : List ByteArray} {s : ByteArray} {T : List ByteArray} (h : toks s = some T) : lnT (S ++ [s]) = lnT S ++ [(strs T, 1)] := by
  unfold lnT
  rw [List.filterMap_append]
  simp [h]
theorem lnT_none {S : List ByteArray} {s : ByteArray} (h : toks s = none) : lnT (S ++ [s]) = lnT S := by
  unfold lnT
  rw [List.filterMap_append]
  simp [h]
def MineLOut (S : List ByteArray) (w : World) (x : Ending) (w' : World) : Prop :=
  ∃ v' R, x = .returned v' ∧ w'.ownsRow w.heap.size 33 2 v' R.length (tms R) ∧ (∀ t ∈ R, TkM w' w.heap.size t) ∧ (tpL R).Perm (ofA (lnT S)) ∧ Srt (tpL R) ∧ R.length ≤ S.length ∧ Below w.heap.size w w'
set_option maxRecDepth 100000 in
theorem mineL_any (v : Value) (S : List ByteArray) (w : World) (hs : Sl w (lt w.heap.size) 1 v S.length (S.map .string)) (hz : ∀ s ∈ S, s.size ≤ 4294967296) (hm : S.length ≤ 100000) :
    Calls Try.prog 11 #[v] w (MineLOut S w) := by
  obtain ⟨A0, c0, rfl, _, hs⟩ := hs.form
  have HS := keep hs
  have HZ := keep hz
  clear hs hz
  go_enter Try.func11, Try.ntmps11
  go_wp2_with fail
  go_loopw [3, 10] (fun u3 i wr => ∃ (j : Nat) (v3 : Value) (A : List Tm), j ≤ S.length ∧ i = .int .i64 j ∧ u3 = v3 ∧ A.length ≤ j ∧ Hid (wr.ownsRow w.heap.size 33 2 v3 A.length (tms A)) ∧ Hid (∀ t ∈ A, TkM wr w.heap.size t ∧ t.ct = 1) ∧ Hid (tpL A = lnT (S.take j)) ∧ Hid (Below w.heap.size w wr)) (fun _ i _ => S.length - (intOf i).toNat)
  case atStart => exact ⟨0, _, [], Nat.zero_le _, rfl, rfl, Nat.le_refl _, keep (World.ownsRow_nil _ _ _ _), keep (by intro t ht; cases ht), keep rfl, keep (Below.refl _ _)⟩
  case round =>
    obtain ⟨j, v3, A, hj, rfl, rfl, hAl, hO, hTk, hP, hB⟩ := hrel
    obtain ⟨wo, rfl⟩ : ∃ wo : World, wo = wr := ⟨_, rfl⟩
    obtain ⟨OA, OC, rfl, _⟩ := own_sl hO.out
    by_cases hlt : j < S.length
    · obtain ⟨b, o, rfl, hb, q0⟩ := str_at (HS.out.below hB.out (Nat.le_refl _)) hlt
      have HTOK := keep (tokens_any S[j] wo (HZ.out _ (List.getElem_mem hlt)))
      have i1 : (j : Int) < (S.length : Int) := by omega
      have i2 : (j : Int) ≤ 1000000 := by omega
      go_wp2_with fail
      refine HTOK.out.mono ?_
      rintro e w2 ⟨tv, T, rfl, hT, hT6, hown2, hb2⟩
      obtain ⟨TA, TC, rfl, _⟩ := own_sl hown2
      have HO2 := keep (own_bel hO.out hb2)
      have HTk2 : Hid (∀ t ∈ A, TkM w2 w.heap.size t ∧ t.ct = 1) := keep (fun t ht => ⟨⟨own_bel (hTk.out t ht).1.1 hb2, (hTk.out t ht).1.2⟩, (hTk.out t ht).2⟩)
      have HN2 := keep (own_base hown2 hB.out.size)
      have HB2 := keep (hB.out.trans (hb2.mono hB.out.size))
      clear hown2 hb2
      cases ho : toks S[j] with
      | none =>
        have HP2 : Hid (tpL A = lnT (S.take (j + 1))) := keep (by rw [List.take_succ_eq_append_getElem hlt, lnT_none ho]; exact hP.out)
        simp only [Option.isSome]
        clear ho hT
        go_wp2_with fail
        go_roundw
        case rel => exact ⟨j + 1, _, A, by omega, by go_num, rfl, by omega, HO2, HTk2, HP2, HB2⟩
        case measure => simp [intOf]; omega
      | some T2 =>
        have hT2 : T = T2 := by rw [hT, ho]; rfl
        subst hT2
        have HP2 : Hid (tpL (A ++ [⟨.slice TA T.length TC, T, 1⟩]) = lnT (S.take (j + 1))) := keep (by
          rw [List.take_succ_eq_append_getElem hlt, lnT_some ho, ← hP.out]
          simp [tpL])
        simp only [Option.isSome]
        have hx1 : ∀ c ∈ (Value.agg #[.slice TA T.length TC, .int .i64 1]).cells.toList, c.oneCell' = true := by
          intro c hc
          simp [Value.cells] at hc
          rcases hc with rfl | rfl <;> rfl
        have HX1 := keep hx1
        have hwz : w.heap.size ≤ w2.heap.size := HB2.out.size
        clear ho hT hx1
        go_wp2_with (refine wpList_push elTm rfl rfl (.tmp 22) (.tmp 20) 23 rfl rfl rfl w.heap.size (.slice OA A.length OC) (.agg #[.slice TA T.length TC, .int .i64 1]) A.length (tms A) ?_ ?_ ?_ ?_ ?_ ?_ ?_ ?_ ?_ ?_ ?_)
        case refine_1 => rfl
        case refine_2 => intro q; rfl
        case refine_3 => intro q; rfl
        case refine_4 => exact HO2.out
        case refine_5 => rfl
        case refine_6 => exact HX1.out
        case refine_7 => decide
        case refine_8 => unfold maxLen; omega
        case refine_9 => omega
        case refine_10 => exact hwz
        case refine_11 =>
          intro g cap w9 hown9 hb9 hg9 hn9 hgl9
          have HO9 : Hid (w9.ownsRow w.heap.size 33 2 (.slice (some ⟨g, 0, none⟩) (A.length + 1) cap) (A ++ [(⟨.slice TA T.length TC, T, 1⟩ : Tm)]).length (tms (A ++ [(⟨.slice TA T.length TC, T, 1⟩ : Tm)]))) := keep (by
            rw [List.length_append, tms_append]
            exact hown9)
          have hkeep : ∀ t : Tm, TkM w2 w.heap.size t → TkM w9 w.heap.size t := fun t ht => ⟨ht.1.kept hg9 (own_part ht.1 HO2.out (by decide)), ht.2⟩
          have HTk9 : Hid (∀ t ∈ A ++ [(⟨.slice TA T.length TC, T, 1⟩ : Tm)], TkM w9 w.heap.size t ∧ t.ct = 1) := keep (fun t ht => by
            rcases List.mem_append.1 ht with h | h
            · exact ⟨hkeep t (HTk2.out t h).1, (HTk2.out t h).2⟩
            · rw [List.mem_singleton.1 h]
              exact ⟨hkeep _ ⟨HN2.out, hT6⟩, rfl⟩)
          have HB9 := keep (HB2.out.trans hb9)
          clear hown9 hb9 hg9 hn9 hgl9 hkeep
          go_wp2_with fail
          go_roundw
          case rel => exact ⟨j + 1, _, _, by omega, by go_num, rfl, by rw [List.length_append]; simp; omega, HO9, HTk9, HP2, HB9⟩
          case measure => simp [intOf]; omega
    · obtain rfl : j = S.length := by omega
      have HOF := keep (of_any (oB := 0) (.slice OA A.length OC) A wo (Sl.of_own hO.out) (fun t ht => (hTk.out t ht).1.r) (fun t ht => by rw [(hTk.out t ht).2]; decide) (by omega) (Nat.zero_le _))
      have HPA : Hid (tpL A = lnT S) := keep (by have h := hP.out; rwa [List.take_length] at h)
      clear hlt hj hP
      go_wp2_with fail
      refine HOF.out.mono ?_
      rintro e w5 ⟨v5, R, rfl, ho5, ht5, hp5, hs5, hl5, hb5⟩
      have hBB : w.heap.size ≤ wo.heap.size := hB.out.size
      have HOUT : Hid (MineLOut S w (.returned v5) w5) := keep ⟨_, R, rfl, own_base ho5 hBB, fun t ht => ⟨own_base (ht5 t ht).1 hBB, (ht5 t ht).2⟩, by rw [← HPA.out]; exact hp5, hs5, by omega, hB.out.trans (hb5.mono hBB)⟩
      obtain ⟨VA, VC, rfl, _⟩ := own_sl ho5
      clear ho5 ht5 hp5 hs5 hl5 hb5
      go_wp2_with fail
      go_ret
      exact HOUT.out
end Go.Proofs.Ytibljgnajbblaaa
