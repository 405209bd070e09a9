/- The Template statements: lines, Text, awake. -/
import Derived.Test.YtibljgnajbblaaaR14P
import Derived.Test.YtibljgnajbblaaaRefState
import Derived.Test.YtibljgnajbblaaaShelf
namespace Go.Proofs.Ytibljgnajbblaaa
open Go.RowKit
variable {oB : Nat}

/-- slices.Clone of strings (as in XInsSg). -/
theorem clone_Sg (v : Value) (n : Nat) (xs : List Value) (w : World) (S : Nat → Prop) (h : Sl w S 1 v n xs) (h1 : ∀ u ∈ xs, u.oneCell' = true) (hS : ∀ b, S b → b < w.heap.size) (hn : n ≤ 1000000) :
    Calls Try.prog 28 #[v] w fun x w' => ∃ v', x = .returned v' ∧ w'.ownsRow w.heap.size 9 1 v' n xs ∧ Below w.heap.size w w' := by
  obtain ⟨A, c, rfl, hc, hs⟩ := h.form
  have H1 := keep h1
  have HS := keep hs
  clear h1 h hs
  cases A with
  | none =>
    obtain rfl : n = 0 := by
      rcases Nat.eq_zero_or_pos n with h0 | h0
      · exact h0
      · obtain ⟨_, _, h, _⟩ := HS.out.row h0; cases h
    obtain rfl : xs = [] := List.eq_nil_of_length_eq_zero (by simpa using HS.out.1)
    have hnil := fun (w : World) => Lib.run_eql_slice_nil (P := Try.prog) w 22 9 none 0 c 0 0 Try.underlying22
    go_enter Try.func28, Try.ntmps28
    go_wp2_with fail
    go_ret
    exact ⟨_, rfl, World.ownsRow_nil _ _ _ _, Below.refl _ _⟩
  | some ad =>
    have hb : Below w.heap.size w (w.alloc (.cells #[] 9)) := (Below.refl _ w).alloc (Nat.le_refl _) _
    have ho := own_empty2 w 9 1
    have hz : w.heap.size ≤ (w.alloc (.cells #[] 9)).heap.size := by simp
    have hs2 := HS.out.keep (w' := w.alloc (.cells #[] 9)) fun p hp => hb.cell (hS _ hp)
    have HS2 := keep hs2
    clear hs2
    have hnil := fun (w : World) => Lib.run_eql_slice_nil (P := Try.prog) w 22 9 (some ad) n c 0 0 Try.underlying22
    go_enter Try.func28, Try.ntmps28
    go_wp2_with (refine wpList_appendS elSg rfl _ _ rfl w.heap.size _ 0 [] rfl ho _ _ n xs rfl HS2.out H1.out (by unfold maxLen; omega) (by omega) hz ?_; intro v' w' hown' hb' hg')
    go_ret
    rw [Nat.zero_add, List.nil_append] at hown'
    exact ⟨_, rfl, hown', hb.trans hb'⟩


def LinesRes (w : World) (gc most : Nat) (x : Ending) (w' : World) : Prop :=
  ∃ (vl : Value) (S : List ByteArray), x = .returned vl ∧ S.length ≤ most ∧ (∀ s ∈ S, s.size ≤ 1000) ∧ w'.ownsRow w.heap.size 9 1 vl S.length (S.map .string) ∧ Codes w' gc ∧ w.grownBy w' (some gc)
set_option maxHeartbeats 4000000 in
theorem lines_any (gc most : Nat) (w : World) (h : Codes w gc) (hmo : most ≤ 100) : Calls Try.prog 10 #[.pointer (some ⟨gc, 0, none⟩), .int .i64 most] w (LinesRes w gc most) := by
  have hl := h.lt_
  go_enter Try.func10, Try.ntmps10
  go_wp2_with fail
  refine (drawNext gc _ _ h (by omega) (by omega)).mono ?_
  rintro x w1 ⟨r, rfl, r0, r1, _, hC1, hg1⟩
  have r2 := r1 (by omega)
  clear r1
  go_wp2_with fail
  go_loopw [5, 6] (fun vl n wr => ∃ (m : Int) (S : List ByteArray), n = .int .i64 m ∧ 0 ≤ m ∧ m + S.length = r ∧ Hid (wr.ownsRow w.heap.size 9 1 vl S.length (S.map .string)) ∧ Hid (∀ s ∈ S, s.size ≤ 1000) ∧ Codes wr gc ∧ Hid (w.grownBy wr (some gc))) (fun _ n _ => (intOf n).toNat)
  case atStart => exact ⟨r, [], rfl, r0, by simp, keep (World.ownsRow_nil _ _ _ _), keep (by simp), hC1, keep hg1⟩
  case round =>
    clear hC1 hg1
    obtain ⟨m, S, rfl, hm0, hml, hV, hZ, hC, hW⟩ := hrel
    have hm5 : m ≤ 101 := by omega
    have hl5 : (S.length : Int) ≤ 101 := by omega
    have HML := keep hml
    clear hml
    obtain ⟨Av, cv, hv2, _⟩ := own_sl hV.out
    subst hv2
    by_cases hp : 0 < m
    · have hd : decide (0 < m) = true := by simpa using hp
      go_wp2_with fail
      refine (makeLine gc _ hC).mono ?_
      rintro x w2 ⟨s, rfl, hs, hC2, hg2⟩
      have HV2 := keep (own_grown hV.out hg2 hl)
      have HW2 := keep (grownBy_trans hW.out hg2)
      have hz2 := HW2.out.size
      clear hC hg2 hV hW
      go_wp2_with (refine wpList_push1 elSg rfl rfl _ _ _ rfl rfl rfl w.heap.size (.slice Av S.length cv) (.string s) S.length _ rfl (fun _ => rfl) (fun _ => rfl) HV2.out rfl (by unfold maxLen; omega) (by omega) hz2 ?_; intro g8 cap8 w8 hown8 hb8 hg8 hor8 _)
      have hC8 := hC2.under hb8 hl
      have HW8 := keep (grownBy_below HW2.out hb8)
      clear hg8 hor8 hC2 HW2 hb8
      go_roundw
      case rel =>
        refine ⟨m - 1, S ++ [s], by go_num, by omega, by have := HML.out; simp; omega, keep ?_, keep ?_, hC8, HW8⟩
        · rw [List.length_append, List.map_append]; exact hown8
        · intro t ht
          rcases List.mem_append.1 ht with ht | ht
          · exact hZ.out t ht
          · rw [List.mem_singleton.1 ht]; omega
      case measure => simp [intOf]; omega
    · have hd : decide (0 < m) = false := by simpa using hp
      go_wp2_with fail
      go_ret
      exact ⟨_, S, rfl, by have := HML.out; omega, hZ.out, hV.out, hC, hW.out⟩
/-- A token in a template's text. -/
def phB (s : ByteArray) : ByteArray := if s.toList = [] then ⟨#[60, 42, 62]⟩ else s
def textB (T : List ByteArray) : ByteArray := ⟨(Lib.join ((T.map phB).map (·.data.toList)) [32]).toArray⟩
theorem mid_getP {l : List ByteArray} {k : Nat} (h : k < l.length) : ((l.take k).map phB ++ l.drop k)[k]? = some l[k] := mid_get phB h
set_option maxHeartbeats 4000000 in
theorem text_any (t : Tm) (w : World) (h : TkR oB w t) (h0 : t.tk ≠ []) (hz : (Lib.join ((t.tk.map phB).map (·.data.toList)) [32]).length ≤ 140737488355328) :
    Calls Try.prog 14 #[.agg (tmV t).toArray] w fun e w' => e = .returned (.string (textB t.tk)) ∧ Below w.heap.size w w' := by
  obtain ⟨tv, T, ct⟩ := t
  obtain ⟨A, n, c, hv⟩ := h.form
  simp only at hv h0 hz
  subst hv
  have hn : n = T.length := by obtain ⟨_, _, _, hv, _⟩ := h.1; injection hv
  subst hn
  have hTl : T.length ≤ 1000000 := h.2
  have hT0 : 0 < T.length := List.length_pos_iff.2 h0
  have hal : Below w.heap.size w (w.alloc (.cells #[.slice A T.length c, .int .i64 ct] 33)) := (Below.refl _ w).alloc (Nat.le_refl _) _
  have HCL := keep (clone_Sg (.slice A T.length c) T.length (T.map .string) _ _ (h.1.strUp hal) (oneCells _ (fun _ => rfl) T) (fun _ hb => hb.lt_) hTl)
  have HAL := keep hal
  have HZ := keep hz
  simp only [tmV]
  clear h hal hz h0
  go_enter Try.func14, Try.ntmps14
  go_wp2_with fail
  refine HCL.out.mono ?_
  rintro e w2 ⟨tv2, rfl, ho2, hb2⟩
  obtain ⟨g, c2, hgv⟩ : ∃ g cap, tv2 = .slice (some ⟨g, 0, none⟩) T.length cap := by
    rcases ho2.2 with ⟨_, hz⟩ | ⟨g, cap, cur, hv, _⟩
    · omega
    · exact ⟨g, cap, hv⟩
  subst hgv
  have HO2 := keep ho2
  have HB2 := keep (bchain HAL.out hb2)
  have hgw : w.heap.size ≤ g := Nat.le_trans HAL.out.size (ho2.lt g rfl).1
  clear ho2 hb2 HCL
  go_wp2_with fail
  go_loopw [10] (fun i wr => ∃ k : Nat, k ≤ T.length ∧ i = .int .i64 k ∧ Hid (wr.ownsRow w.heap.size 9 1 (.slice (some ⟨g, 0, none⟩) T.length c2) T.length (((T.take k).map phB ++ T.drop k).map .string)) ∧ Hid (Below w.heap.size w wr)) (fun i _ => T.length - (intOf i).toNat)
  case atStart => exact ⟨0, Nat.zero_le _, rfl, keep (own_base HO2.out HAL.out.size), HB2⟩
  case round =>
    obtain ⟨k, hk, rfl, hO, hB⟩ := hrel
    obtain ⟨wo, rfl⟩ : ∃ wo : World, wo = wr := ⟨_, rfl⟩
    by_cases hlt : k < T.length
    · obtain ⟨s, hs⟩ : ∃ s, T[k] = s := ⟨_, rfl⟩
      have c0 : wo.cell? ⟨g, k, none⟩ = some (.string s) := by
        rw [own_cell hO.out rfl k (by omega), List.getElem?_map, mid_getP hlt, hs]
        rfl
      have f0 : wo.frozen? ⟨g, k, none⟩ = false := own_frozen hO.out rfl k
      have hst := own_store hO.out rfl k (.string (phB s))
      have hset : ((((T.take k).map phB ++ T.drop k).map Value.string).set k (.string (phB s))) = ((T.take (k + 1)).map phB ++ T.drop (k + 1)).map .string := by
        rw [← List.map_set, ← hs, mid_set phB hlt]
      rw [hset] at hst
      have HST := keep hst
      have i1 : (k : Int) < (T.length : Int) := by omega
      have i2 : (k : Int) ≤ 1000000 := by omega
      clear hst hset
      cases hq : (s.toList == ([] : List UInt8)) with
      | true =>
        have hp : phB s = ⟨#[60, 42, 62]⟩ := by unfold phB; rw [if_pos (by simpa using hq)]
        rw [hp] at HST
        have HB7 := keep (hB.out.setCell (p := ⟨g, k, none⟩) hgw (.string ⟨#[60, 42, 62]⟩))
        clear hp
        go_wp2_with fail
        go_roundw
        case rel => exact ⟨k + 1, by omega, by go_num, HST, HB7⟩
        case measure => simp [intOf]; omega
      | false =>
        have hp : phB s = s := by unfold phB; rw [if_neg (by simpa using hq)]
        have HK : Hid (wo.ownsRow w.heap.size 9 1 (.slice (some ⟨g, 0, none⟩) T.length c2) T.length (((T.take (k + 1)).map phB ++ T.drop (k + 1)).map .string)) := keep (by
          rw [← mid_same phB hlt (by rw [hs]; exact hp)]
          exact hO.out)
        clear hp HST
        go_wp2_with fail
        go_roundw
        case rel => exact ⟨k + 1, by omega, by go_num, HK, hB⟩
        case measure => simp [intOf]; omega
    · obtain rfl : k = T.length := by omega
      have ho : wo.ownsRow w.heap.size 9 1 (.slice (some ⟨g, 0, none⟩) T.length c2) T.length ((T.map phB).map .string) := by
        have h := hO.out
        rwa [List.take_length, List.drop_length, List.append_nil] at h
      have hcc : T.length ≤ c2 := by
        obtain ⟨_, c3, hv, hc3, _⟩ := (Sl.of_own ho).form
        injection hv with _ _ hv
        omega
      have hj := Try.strings_Join g 0 c2 (T.map phB) ⟨#[32]⟩ wo (fun j x hx => by
        have hjl : j < T.length := by simpa using (List.getElem?_eq_some_iff.1 hx).1
        rw [Nat.zero_add, own_cell ho rfl j (by omega), List.getElem?_map, hx]
        rfl) ((ho.lt g rfl).2) (by rw [List.length_map]; omega) (by rw [List.length_map]; exact hcc) HZ.out
      rw [List.length_map] at hj
      have HJ := keep hj
      clear ho hj hO hcc
      go_wp2_with fail
      refine HJ.out.mono ?_
      rintro e w9 ⟨rfl, hb9⟩
      have HB9 := keep (hB.out.trans (hb9.mono hB.out.size))
      clear hb9
      go_wp2_with fail
      go_ret
      exact ⟨by unfold textB; rw [List.map_map]; rfl, HB9.out⟩
end Go.Proofs.Ytibljgnajbblaaa
