/- The reference's Tokens. -/
import Derived.Test.YtigogjlbemkhdaaGreatTokens
namespace Go.Proofs.YtigogjlbemkhdaaGreat
open Go.RowKit
theorem space_any (c : Nat) (w : World) : Calls Tryz.prog 66 #[.int .u8 c] w fun e w' => e = .returned (.bool (spR c)) ∧ w = w' := by
  by_cases h1 : c = 32
  · subst h1
    go_enter Tryz.func66, Tryz.ntmps66
    go_wp2
    go_ret
    exact ⟨rfl, rfl⟩
  · by_cases h2 : c = 9
    · subst h2
      go_enter Tryz.func66, Tryz.ntmps66
      go_wp2
      go_ret
      exact ⟨rfl, rfl⟩
    · have e1 : ((c : Int) == 32) = false := by simp; omega
      have e2 : ((c : Int) == 9) = false := by simp; omega
      have e3 : spR c = false := by simp [spR]; omega
      rw [e3]
      clear e3
      go_enter Tryz.func66, Tryz.ntmps66
      go_wp2
      go_ret
      exact ⟨rfl, rfl⟩
theorem digit_any (c : Nat) (w : World) : Calls Tryz.prog 65 #[.int .u8 c] w fun e w' => e = .returned (.bool (dgR c)) ∧ w = w' := by
  by_cases h1 : 48 ≤ c <;> by_cases h2 : c ≤ 57
  all_goals
    have e3 : dgR c = (decide (48 ≤ c) && decide (c ≤ 57)) := rfl
    have z1 : (48 : Int) ≤ (c : Int) ↔ 48 ≤ c := by omega
    have z2 : (c : Int) ≤ 57 ↔ c ≤ 57 := by omega
    simp only [h1, h2, decide_true, decide_false, Bool.and_true, Bool.and_false] at e3
    rw [e3]
    clear e3
    go_enter Tryz.func65, Tryz.ntmps65
    go_wp2
    all_goals first | (exfalso; omega) | (go_ret; exact ⟨by first | rfl | simp, rfl⟩)
/-- Words between spaces. -/
def sp : List UInt8 → List UInt8 → List (List UInt8)
  | [], cur => if cur = [] then [] else [cur]
  | c :: l, cur => if spR c.toNat = true then (if cur = [] then sp l [] else cur :: sp l []) else sp l (cur ++ [c])
def words (l : List UInt8) : List (List UInt8) := sp l []
theorem sp_skip {s : ByteArray} {k : Nat} (h : k < s.size) (hs : spR s[k].toNat = true) : sp ((lb s).drop k) [] = sp ((lb s).drop (k + 1)) [] := by
  rw [List.drop_eq_getElem_cons (show k < (lb s).length by simpa [lb] using h), sp, if_pos (by exact hs), if_pos rfl]
theorem sp_more {s : ByteArray} {k : Nat} (h : k < s.size) (hs : spR s[k].toNat = false) (cur : List UInt8) : sp ((lb s).drop k) cur = sp ((lb s).drop (k + 1)) (cur ++ [s[k]]) := by
  rw [List.drop_eq_getElem_cons (show k < (lb s).length by simpa [lb] using h), sp, if_neg (by rw [show ((lb s)[k]'(by simpa [lb] using h)) = s[k] from rfl, hs]; decide)]
  rfl
theorem sp_word {s : ByteArray} {j : Nat} {cur : List UInt8} (hc : cur ≠ []) (h : j = s.size ∨ ∃ h : j < s.size, spR s[j].toNat = true) : sp ((lb s).drop j) cur = cur :: sp ((lb s).drop j) [] := by
  rcases h with rfl | ⟨h, hs⟩
  · rw [List.drop_eq_nil_of_le (by simp [lb]), sp, sp, if_neg hc, if_pos rfl]
  · rw [List.drop_eq_getElem_cons (show j < (lb s).length by simpa [lb] using h), sp, if_pos (by exact hs), if_neg hc, sp, if_pos (by exact hs), if_pos rfl]
theorem lb_ext (s : ByteArray) (a b : Nat) : lb (s.extract a b) = ((lb s).drop a).take (b - a) := Lib.extract_data s a b
theorem lb_extract_snoc {s : ByteArray} {k j : Nat} (hk : k ≤ j) (h : j < s.size) : lb (s.extract k (j + 1)) = lb (s.extract k j) ++ [s[j]] := by
  rw [lb_ext, lb_ext, show j + 1 - k = (j - k) + 1 by omega]
  have hl : j - k < ((lb s).drop k).length := by rw [List.length_drop]; simp [lb]; omega
  rw [List.take_succ_eq_append_getElem hl]
  congr 1
  rw [List.getElem_drop]
  simp only [show k + (j - k) = j by omega]
  rfl
theorem strs_append (A B : List ByteArray) : strs (A ++ B) = strs A ++ strs B := by simp [strs]
theorem ext_size (s : ByteArray) (a b : Nat) : (s.extract a b).size ≤ s.size := by
  rw [ByteArray.size_extract]
  omega
theorem mid_same {α : Type} (f : α → α) {l : List α} {k : Nat} (h : k < l.length) (e : f l[k] = l[k]) : (l.take k).map f ++ l.drop k = (l.take (k + 1)).map f ++ l.drop (k + 1) := by
  rw [List.drop_eq_getElem_cons h, List.take_succ_eq_append_getElem h, List.map_append, List.append_assoc, List.map_singleton, e]
  rfl
def RfRes (s : ByteArray) (w : World) (x : Ending) (w' : World) : Prop := ∃ v T, x = .returned v ∧ strs T = words (lb s) ∧ T.length ≤ s.size ∧ (∀ t ∈ T, t.size ≤ s.size) ∧ w'.ownsRow w.heap.size 9 1 v T.length (T.map .string) ∧ Below w.heap.size w w'
set_option maxHeartbeats 4000000 in
theorem refFields_any (s : ByteArray) (w : World) (hs : s.size ≤ 4294967296) : Calls Tryz.prog 50 #[.string s] w (RfRes s w) := by
  go_enter Tryz.func50, Tryz.ntmps50
  go_wp2_with fail
  go_loopw [3, 4, 5] (fun out a _ wr => ∃ (k : Nat) (T : List ByteArray), k ≤ s.size ∧ T.length ≤ k ∧ a = .int .i64 k ∧ Hid (wr.ownsRow w.heap.size 9 1 out T.length (T.map .string)) ∧ Hid (strs T ++ sp ((lb s).drop k) [] = words (lb s)) ∧ Hid (Below w.heap.size w wr) ∧ Hid (∀ t ∈ T, t.size ≤ s.size)) (fun _ a _ _ => s.size - (intOf a).toNat)
  case atStart => exact ⟨0, [], Nat.zero_le _, Nat.le_refl _, rfl, keep (World.ownsRow_nil _ _ _ _), keep rfl, keep (Below.refl _ _), keep (by simp)⟩
  case round =>
    obtain ⟨k, T, hk, hTk, rfl, hO, hW, hB, hZ⟩ := hrel
    obtain ⟨wo, rfl⟩ : ∃ wo : World, wo = wr := ⟨_, rfl⟩
    by_cases hlt : k < s.size
    · have hsk := sp_skip hlt
      have hsm := sp_more hlt
      have hex := lb_extract_snoc (Nat.le_refl k) hlt
      have hcall := fun w' => space_any s[k].toNat w'
      have hu : (s[k].toNat : Int) < 256 := by have := s[k].toNat_lt; omega
      have HC := keep hcall
      have i1 : (k : Int) < (s.size : Int) := by omega
      have i2 : (s.size : Int) ≤ 4294967296 := by omega
      have HSK := keep hsk
      have HLT := keep hlt
      clear hcall hsk hsm hex
      obtain ⟨A, c, hv⟩ := own_sl hO.out
      obtain ⟨hv, _⟩ := hv
      subst hv
      go_wp2_with fail
      refine (HC.out wo).mono ?_
      rintro e w1 ⟨rfl, rfl⟩
      cases hsp : spR s[k].toNat
      · have HSP := keep hsp
        clear hsp HSK HC
        go_wp2_with fail
        go_loop [4] (fun a => ∃ j : Nat, k ≤ j ∧ j ≤ s.size ∧ a = .int .i64 j ∧ Hid (sp ((lb s).drop k) [] = sp ((lb s).drop j) (lb (s.extract k j)))) (fun a => s.size - (intOf a).toNat)
        case atStart => exact ⟨k, Nat.le_refl _, hk, rfl, keep (by rw [lb_ext, Nat.sub_self, List.take_zero])⟩
        case round =>
          obtain ⟨j, hkj, hj, rfl, hI⟩ := hrel
          by_cases hjl : j < s.size
          · have hcall := fun w' => space_any s[j].toNat w'
            have hsm := fun h => sp_more hjl h (lb (s.extract k j))
            rw [← lb_extract_snoc hkj hjl] at hsm
            have hwd := fun (h : spR s[j].toNat = true) (hc : lb (s.extract k j) ≠ []) => sp_word hc (.inr ⟨hjl, h⟩)
            have hu2 : (s[j].toNat : Int) < 256 := by have := s[j].toNat_lt; omega
            have hne : spR s[j].toNat = true → k < j := fun h => by
              rcases Nat.lt_or_ge k j with h1 | h1
              · exact h1
              · obtain rfl : k = j := by omega
                exact absurd (HSP.out.symm.trans h) (by decide)
            have HC := keep hcall
            have HSM := keep hsm
            have HWD := keep hwd
            have HNE := keep hne
            clear hcall hsm hwd hne
            have j1 : (j : Int) < (s.size : Int) := by omega
            go_wp2_with fail
            refine (HC.out wo).mono ?_
            rintro e w1 ⟨rfl, rfl⟩
            cases hsj : spR s[j].toNat
            · have HM := keep (HSM.out hsj)
              clear hsj HSM HWD HNE HC
              go_wp2_with fail
              go_round
              case rel => exact ⟨j + 1, by omega, by omega, by go_num, keep (hI.out.trans HM.out)⟩
              case measure => simp [intOf]; omega
            · have hkj2 := HNE.out hsj
              have hne2 : lb (s.extract k j) ≠ [] := by
                intro e
                have := congrArg List.length e
                rw [lb_ext, List.length_take, List.length_drop] at this
                simp [lb] at this
                omega
              have HM := keep (HWD.out hsj hne2)
              clear hsj HSM HWD HNE HC hne2
              have HBS := keep hB.out.size
              have q1 : (k : Int) ≤ (j : Int) := by omega
              go_wp2_with (refine wpList_push1 elSg rfl rfl _ _ _ rfl rfl rfl w.heap.size (.slice A T.length c) (.string (s.extract k j)) T.length _ rfl (fun _ => rfl) (fun _ => rfl) hO.out rfl (by unfold maxLen; omega) (by omega) HBS.out ?_; intro g8 cap8 w8 hown8 hb8 _ _ _)
              go_roundw
              case rel =>
                refine ⟨j, T ++ [s.extract k j], hj, by rw [List.length_append]; simp; omega, rfl, keep ?_, keep ?_, keep (hB.out.trans hb8), keep (by intro t ht; rcases List.mem_append.1 ht with ht | ht; exact hZ.out t ht; rw [List.mem_singleton.1 ht]; exact ext_size _ _ _)⟩
                · rw [List.length_append, List.map_append]; exact hown8
                · rw [← hW.out, hI.out, HM.out, strs_append, List.append_assoc]; rfl
              case measure => simp [intOf]; omega
          · obtain rfl : j = s.size := by omega
            have hne2 : lb (s.extract k s.size) ≠ [] := by
              intro e
              have := congrArg List.length e
              rw [lb_ext, List.length_take, List.length_drop] at this
              simp [lb] at this
              omega
            have HM := keep (sp_word (s := s) hne2 (.inl rfl))
            clear hne2
            have HBS := keep hB.out.size
            have q1 : (k : Int) ≤ (s.size : Int) := by omega
            go_wp2_with (refine wpList_push1 elSg rfl rfl _ _ _ rfl rfl rfl w.heap.size (.slice A T.length c) (.string (s.extract k s.size)) T.length _ rfl (fun _ => rfl) (fun _ => rfl) hO.out rfl (by unfold maxLen; omega) (by omega) HBS.out ?_; intro g8 cap8 w8 hown8 hb8 _ _ _)
            go_roundw
            case rel =>
              refine ⟨s.size, T ++ [s.extract k s.size], Nat.le_refl _, by rw [List.length_append]; simp; omega, rfl, keep ?_, keep ?_, keep (hB.out.trans hb8), keep (by intro t ht; rcases List.mem_append.1 ht with ht | ht; exact hZ.out t ht; rw [List.mem_singleton.1 ht]; exact ext_size _ _ _)⟩
              · rw [List.length_append, List.map_append]; exact hown8
              · rw [← hW.out, hI.out, HM.out, strs_append, List.append_assoc]; rfl
            case measure => simp [intOf]; omega
      · have HM := keep (HSK.out hsp)
        clear hsp HSK HC
        go_wp2_with fail
        go_roundw
        case rel => exact ⟨k + 1, T, by omega, by omega, by go_num, hO, keep (by rw [← hW.out, HM.out]), hB, hZ⟩
        case measure => simp [intOf]; omega
    · obtain rfl : k = s.size := by omega
      go_wp2_with fail
      go_ret
      have := hW.out
      rw [List.drop_eq_nil_of_le (by simp [lb]), sp, if_pos rfl, List.append_nil] at this
      exact ⟨_, T, rfl, this, hTk, hZ.out, hO.out, hB.out⟩
def vrL (l : List UInt8) : List UInt8 := if l.any (fun c => dgR c.toNat) = true then [] else l
def hasDg (s : ByteArray) : Bool := (lb s).any fun c => dgR c.toNat
theorem any_drop {s : ByteArray} {k : Nat} (h : k < s.size) : ((lb s).drop k).any (fun c => dgR c.toNat) = (dgR s[k].toNat || ((lb s).drop (k + 1)).any (fun c => dgR c.toNat)) := by
  rw [List.drop_eq_getElem_cons (show k < (lb s).length by simpa [lb] using h), List.any_cons]; rfl
theorem refDigit_any (s : ByteArray) (w : World) (hs : s.size ≤ 4294967296) : Calls Tryz.prog 51 #[.string s] w fun e w' => e = .returned (.bool (hasDg s)) ∧ w = w' := by
  go_enter Tryz.func51, Tryz.ntmps51
  go_wp2_with fail
  go_loop [3] (fun i => ∃ k : Nat, k ≤ s.size ∧ i = .int .i64 k ∧ Hid (hasDg s = ((lb s).drop k).any fun c => dgR c.toNat)) (fun i => s.size - (intOf i).toNat)
  case atStart => exact ⟨0, Nat.zero_le _, rfl, keep rfl⟩
  case round =>
    obtain ⟨k, hk, rfl, hI⟩ := hrel
    by_cases hlt : k < s.size
    · have hcall := fun w' => digit_any s[k].toNat w'
      have hst := any_drop hlt
      have hu : (s[k].toNat : Int) < 256 := by have := s[k].toNat_lt; omega
      have HC := keep hcall
      have HST := keep hst
      clear hcall hst
      have i1 : (k : Int) < (s.size : Int) := by omega
      have i2 : (s.size : Int) ≤ 4294967296 := by omega
      go_wp2_with fail
      refine (HC.out w).mono ?_
      rintro e w1 ⟨rfl, rfl⟩
      cases hd : dgR s[k].toNat
      · have HM := keep (HST.out)
        rw [hd, Bool.false_or] at HM
        clear hd HST HC
        go_wp2_with fail
        go_round
        case rel => exact ⟨k + 1, by omega, by go_num, keep (hI.out.trans HM.out)⟩
        case measure => simp [intOf]; omega
      · have HM := keep (HST.out)
        rw [hd, Bool.true_or] at HM
        clear hd HST HC
        go_wp2_with fail
        go_ret
        exact ⟨ret_bool (by rw [hI.out, HM.out]), rfl⟩
    · obtain rfl : k = s.size := by omega
      go_wp2_with fail
      go_ret
      exact ⟨ret_bool (by rw [hI.out, List.drop_eq_nil_of_le (by simp [lb])]; rfl), rfl⟩
def rvr (s : ByteArray) : ByteArray := if hasDg s = true then ⟨#[]⟩ else s
theorem lb_rvr (s : ByteArray) : lb (rvr s) = vrL (lb s) := by
  unfold rvr vrL hasDg
  split
  · rfl
  · rfl
theorem strs_rvr (T : List ByteArray) : strs (T.map rvr) = (strs T).map vrL := by
  unfold strs
  rw [List.map_map, List.map_map]
  refine List.map_congr_left fun s _ => lb_rvr s
/-- The tokens of a line. -/
def tokW (l : List UInt8) : Option (List (List UInt8)) := if (words l).length = 0 ∨ 60 < (words l).length then none else some ((words l).map vrL)
def RTokRes (o : Option (List (List UInt8))) (w : World) (x : Ending) (w' : World) : Prop :=
  ∃ (v : Value) (T : List ByteArray), x = .returned (.tuple #[v, .bool o.isSome]) ∧ strs T = o.getD [] ∧ T.length ≤ 60 ∧ w'.ownsRow w.heap.size 9 1 v T.length (T.map .string) ∧ Below w.heap.size w w'
set_option maxHeartbeats 4000000 in
theorem refTok_any (s : ByteArray) (w : World) (hs : s.size ≤ 4294967296) : Calls Tryz.prog 29 #[.string s] w (RTokRes (tokW (lb s)) w) := by
  have HF := keep (refFields_any s w hs)
  go_enter Tryz.func29, Tryz.ntmps29
  go_wp2_with fail
  refine HF.out.mono ?_
  rintro e w1 ⟨v, l, rfl, hl, hls, hzs, ho, hb⟩
  obtain ⟨A, c, rfl, _⟩ := own_sl ho
  have HO := keep ho
  have hwl : (words (lb s)).length = l.length := by rw [← hl, strs_len]
  have hL := keep hl
  have HWL := keep hwl
  have HZS := keep hzs
  clear ho HF hl hwl hzs
  by_cases h0 : l.length = 0
  · have ht : tokW (lb s) = none := if_pos (.inl (by rw [HWL.out]; exact h0))
    have h0' : (l.length : Int) = 0 := by omega
    have HT := keep ht
    clear ht
    go_wp2_with fail
    go_ret2
    exact ⟨_, [], by rw [HT.out]; rfl, by rw [HT.out]; rfl, by simp, World.ownsRow_nil _ _ _ _, hb⟩
  · by_cases h60 : 60 < l.length
    · have ht : tokW (lb s) = none := if_pos (.inr (by rw [HWL.out]; exact h60))
      have h0' : ¬ ((l.length : Int) = 0) := by omega
      have h1' : (60 : Int) < (l.length : Int) := by omega
      have d1 : ((l.length : Int) == 0) = false := by simpa using h0
      have HT := keep ht
      clear ht
      go_wp2_with fail
      go_ret2
      exact ⟨_, [], by rw [HT.out]; rfl, by rw [HT.out]; rfl, by simp, World.ownsRow_nil _ _ _ _, hb⟩
    · have ht : tokW (lb s) = some ((words (lb s)).map vrL) := if_neg (by rw [HWL.out]; omega)
      have h0' : ¬ ((l.length : Int) = 0) := by omega
      have h1' : ¬ ((60 : Int) < (l.length : Int)) := by omega
      have h60' : l.length ≤ 60 := by omega
      have d1 : ((l.length : Int) == 0) = false := by simpa using h0
      have d2 : decide ((60 : Int) < (l.length : Int)) = false := by simpa using h1'
      have HT := keep ht
      clear ht h60
      go_wp2_with fail
      obtain ⟨g, hg⟩ : ∃ g, A = some ⟨g, 0, none⟩ := by
        rcases HO.out.2 with ⟨_, hz⟩ | ⟨g, cap, cur, hv, _⟩
        · exact absurd hz h0
        · injection hv with hv; exact ⟨g, hv⟩
      subst hg
      have hsz : ∀ t ∈ l, t.size ≤ 4294967296 := fun t ht => Nat.le_trans (HZS.out t ht) hs
      have HSZ := keep hsz
      clear hsz
      go_loopw [5] (fun i wr => ∃ k : Nat, k ≤ l.length ∧ i = .int .i64 k ∧ Hid (wr.ownsRow w.heap.size 9 1 (.slice (some ⟨g, 0, none⟩) l.length c) l.length (((l.take k).map rvr ++ l.drop k).map .string)) ∧ Hid (Below w.heap.size w wr)) (fun i _ => l.length - (intOf i).toNat)
      case atStart => exact ⟨0, Nat.zero_le _, rfl, keep (by simpa using HO.out), keep hb⟩
      case round =>
        obtain ⟨k, hk, rfl, hO, hB⟩ := hrel
        obtain ⟨wo, rfl⟩ : ∃ wo : World, wo = wr := ⟨_, rfl⟩
        by_cases hlt : k < l.length
        · have hk2 : (((l.take k).map rvr ++ l.drop k).map Value.string)[k]? = some (.string l[k]) := by rw [List.getElem?_map, mid_get rvr hlt]; rfl
          have c0 : wo.cell? ⟨g, k, none⟩ = some (.string l[k]) := (own_cell hO.out rfl k (by omega)).trans hk2
          have hset : (((l.take k).map rvr ++ l.drop k).map Value.string).set k (.string (rvr l[k])) = (((l.take (k + 1)).map rvr ++ l.drop (k + 1)).map Value.string) := by rw [← mid_set rvr hlt, List.map_set]
          have hsame : rvr l[k] = l[k] → (((l.take k).map rvr ++ l.drop k).map Value.string) = (((l.take (k + 1)).map rvr ++ l.drop (k + 1)).map Value.string) := fun e => by
            rw [mid_same rvr hlt e]
          have hz := HSZ.out _ (List.getElem_mem hlt)
          have f0 : wo.frozen? ⟨g, k, none⟩ = false := own_frozen hO.out rfl k
          have hst := own_store hO.out rfl k (.string (rvr l[k]))
          rw [hset] at hst
          have hgw : w.heap.size ≤ g := (hO.out.lt g rfl).1
          have hbn := hB.out.setCell (p := ⟨g, k, none⟩) hgw (.string (rvr l[k]))
          have hrv : rvr l[k] = if hasDg l[k] = true then ⟨#[]⟩ else l[k] := rfl
          generalize l[k] = t at c0 hset hsame hz hst hbn hrv
          have HSAME := keep hsame
          have HST := keep hst
          clear hset hk2 hsame hst
          have i1 : (k : Int) < (l.length : Int) := by omega
          have i2 : (k : Int) ≤ 1048576 := by omega
          have HBN := keep hbn
          have HRV := keep hrv
          clear hbn hrv
          go_wp2_with fail
          refine (refDigit_any t wo hz).mono ?_
          rintro e w2 ⟨rfl, rfl⟩
          cases hd : hasDg t
          · have hrv := HRV.out
            rw [hd, if_neg (by decide)] at hrv
            have hO2 := hO.out
            rw [HSAME.out hrv] at hO2
            have HO2 := keep hO2
            clear hd hrv hO2 HST HBN
            go_wp2_with fail
            go_roundw
            case rel => exact ⟨k + 1, by omega, by go_num, HO2, hB⟩
            case measure => simp [intOf]; omega
          · have hrv := HRV.out
            rw [hd, if_pos rfl] at hrv
            have hst := HST.out
            have hbn := HBN.out
            rw [hrv] at hst hbn
            have HST2 := keep hst
            have HBN2 := keep hbn
            clear hd hrv hst hbn HST HBN HRV HSAME
            go_wp2_with fail
            go_roundw
            case rel => exact ⟨k + 1, by omega, by go_num, HST2, HBN2⟩
            case measure => simp [intOf]; omega
        · obtain rfl : k = l.length := by omega
          go_wp2_with fail
          go_ret2
          refine ⟨_, l.map rvr, by rw [HT.out]; rfl, by rw [HT.out, strs_rvr, hL.out]; rfl, by rw [List.length_map]; exact h60', ?_, hB.out⟩
          have := hO.out
          rw [List.take_length, List.drop_length, List.append_nil] at this
          rw [List.length_map]
          exact this
end Go.Proofs.YtigogjlbemkhdaaGreat
