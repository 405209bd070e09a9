/- template.Find and Less. -/
import Derived.Test.YtibljgnajbblaaaR14W
import Derived.Test.YtibljgnajbblaaaIxTm
import Derived.Test.YtibljgnajbblaaaPartP
import Derived.Laws.EntriesVeiled
namespace Go.Proofs.Ytibljgnajbblaaa
open Go.RowKit

/-- A template's token and a line's. -/
def ef (x y : ByteArray) : Bool := (x.toList == ([] : List UInt8)) || (x.toList == y.toList)
theorem ef_iff {x y : ByteArray} : ef x y = true ↔ lb x = [] ∨ lb x = lb y := by
  unfold ef
  rw [beq_lb, Lib.toList_data, Bool.or_eq_true, beq_iff_eq, decide_eq_true_eq]
def fitN (T U : List ByteArray) (n : Nat) : Bool := decide (T.length = U.length) && (List.range n).all fun q => ef (T.getD q ⟨#[]⟩) (U.getD q ⟨#[]⟩)
def fitB (T U : List ByteArray) : Bool := fitN T U U.length
theorem fitN_zero (T U : List ByteArray) : fitN T U 0 = decide (T.length = U.length) := by simp [fitN]
theorem fitN_succ {T U : List ByteArray} {n : Nat} (h1 : n < T.length) (h2 : n < U.length) : fitN T U (n + 1) = (fitN T U n && ef T[n] U[n]) := by
  unfold fitN
  rw [List.range_succ, List.all_append, Bool.and_assoc]
  simp [h1, h2]
theorem fitN_mono {T U : List ByteArray} {n : Nat} (h : fitN T U n = false) (hn : n ≤ U.length) : fitB T U = false := by
  cases hb : fitB T U with
  | false => rfl
  | true =>
    exfalso
    unfold fitB fitN at hb
    rw [Bool.and_eq_true, List.all_eq_true] at hb
    have : fitN T U n = true := by
      unfold fitN
      rw [Bool.and_eq_true, List.all_eq_true]
      exact ⟨hb.1, fun q hq => hb.2 q (List.mem_range.2 (by have := List.mem_range.1 hq; omega))⟩
    rw [h] at this
    cases this
theorem fitB_fitA (t : Tm) (U : List ByteArray) : fitB t.tk U = fitA (strs t.tk, t.ct) (strs U) := by
  rw [Bool.eq_iff_iff, fitA_iff]
  unfold fitB fitN
  rw [Bool.and_eq_true, decide_eq_true_eq, List.all_eq_true]
  simp only [strs_len, List.mem_range]
  constructor
  · rintro ⟨h1, h2⟩
    refine ⟨h1, fun q hq => ?_⟩
    have h3 := ef_iff.1 (h2 q hq)
    have hq2 : q < t.tk.length := by omega
    simpa [strs, hq, hq2] using h3
  · rintro ⟨h1, h2⟩
    refine ⟨h1, fun q hq => ef_iff.2 ?_⟩
    have h3 := h2 q hq
    have hq2 : q < t.tk.length := by omega
    simpa [strs, hq, hq2] using h3
theorem ef_any (x y : ByteArray) (w : World) : Calls Try.prog 43 #[.string x, .string y] w fun e w' => e = .returned (.bool (ef x y)) ∧ w' = w := by
  cases h1 : (x.toList == ([] : List UInt8)) with
  | true =>
    have e : ef x y = true := by unfold ef; rw [h1]; rfl
    rw [e]
    clear e
    go_enter Try.func43, Try.ntmps43
    go_wp2_with fail
    go_ret
    exact ⟨rfl, rfl⟩
  | false =>
    have e : ef x y = (x.toList == y.toList) := by unfold ef; rw [h1]; rfl
    rw [e]
    clear e
    go_enter Try.func43, Try.ntmps43
    go_wp2_with fail
    go_ret
    exact ⟨by first | rfl | simp, rfl⟩
set_option maxHeartbeats 4000000 in
theorem equalF_any (v1 v2 : Value) (T U : List ByteArray) (w : World) (h1 : Sl w (lt w.heap.size) 1 v1 T.length (T.map .string)) (h2 : Sl w (lt w.heap.size) 1 v2 U.length (U.map .string)) (hT : T.length ≤ 1000000) :
    Calls Try.prog 42 #[v1, v2, .func (.func 43) #[] #[]] w fun e w' => e = .returned (.bool (fitB T U)) ∧ w' = w := by
  obtain ⟨A1, c1, rfl, _, h1⟩ := h1.form
  obtain ⟨A2, c2, rfl, _, h2⟩ := h2.form
  have H1 := keep h1
  have H2 := keep h2
  clear h1 h2
  by_cases hl : T.length = U.length
  · have hbn : ((T.length : Int) != (U.length : Int)) = false := by simp [hl]
    have HL := keep hl
    have hF0 : fitN T U 0 = true := by rw [fitN_zero]; exact decide_eq_true hl
    have HF0 := keep hF0
    clear hl hF0
    go_enter Try.func42, Try.ntmps42
    go_wp2_with fail
    go_loopw [17] (fun i wr => ∃ k : Nat, k ≤ T.length ∧ i = .int .i64 k ∧ Hid (fitN T U k = true) ∧ wr = w) (fun i _ => T.length - (intOf i).toNat)
    case atStart => exact ⟨0, Nat.zero_le _, rfl, HF0, rfl⟩
    case round =>
      obtain ⟨k, hk, rfl, hF, rfl⟩ := hrel
      by_cases hlt : k < T.length
      · have hltU : k < U.length := by have := HL.out; omega
        obtain ⟨b1, o1, rfl, _, q1⟩ := str_at H1.out hlt
        obtain ⟨b2, o2, rfl, _, q2⟩ := str_at H2.out hltU
        have HS := keep (fitN_succ hlt hltU)
        obtain ⟨x, hx⟩ : ∃ x, T[k] = x := ⟨_, rfl⟩
        obtain ⟨y, hy⟩ : ∃ y, U[k] = y := ⟨_, rfl⟩
        rw [hx] at q1 HS
        rw [hy] at q2 HS
        have i1 : (k : Int) < (T.length : Int) := by omega
        have i3 : (k : Int) < (U.length : Int) := by omega
        have i2 : (k : Int) ≤ 1000000 := by omega
        clear hx hy
        go_wp2_with fail
        refine (ef_any x y _).mono ?_
        rintro e w1 ⟨rfl, rfl⟩
        obtain ⟨bb, hbb⟩ : ∃ bb, ef x y = bb := ⟨_, rfl⟩
        rw [hbb] at HS ⊢
        clear hbb
        cases bb with
        | true =>
          have HF1 : Hid (fitN T U (k + 1) = true) := keep (by rw [HS.out, hF.out]; rfl)
          go_wp2_with fail
          go_roundw
          case rel => exact ⟨k + 1, by omega, by go_num, HF1, trivial⟩
          case measure => simp [intOf]; omega
        | false =>
          have HN : Hid (fitB T U = false) := keep (fitN_mono (n := k + 1) (by rw [HS.out]; simp) (by omega))
          go_wp2_with fail
          go_ret
          exact ⟨by rw [HN.out]; rfl, rfl⟩
      · have HY : Hid (fitB T U = true) := keep (by
          have : k = U.length := by have := HL.out; omega
          unfold fitB
          rw [← this]
          exact hF.out)
        go_wp2_with fail
        go_ret
        exact ⟨by rw [HY.out]; rfl, rfl⟩
  · have hbn : ((T.length : Int) != (U.length : Int)) = true := by
      have : ¬ (T.length : Int) = (U.length : Int) := by omega
      simpa using this
    have HN : Hid (fitB T U = false) := keep (by unfold fitB fitN; simp [hl])
    clear hl
    go_enter Try.func42, Try.ntmps42
    go_wp2_with fail
    go_ret
    exact ⟨by rw [HN.out]; rfl, rfl⟩
/-- Find's closure, its box holding the line's tokens. -/
theorem fits_any (t : Tm) (U : List ByteArray) (bx : Nat) (uv : Value) (w : World) (h : TkR w t) (hb : Blk w bx 22 #[uv]) (hu : Sl w (lt w.heap.size) 1 uv U.length (U.map .string)) :
    Calls Try.prog 41 #[.agg (tmV t).toArray, .pointer (some ⟨bx, 0, none⟩)] w fun e w' => e = .returned (.bool (fitB t.tk U)) ∧ Below w.heap.size w w' := by
  obtain ⟨tv, T, ct⟩ := t
  obtain ⟨A, n, c, hv⟩ := h.form
  simp only at hv
  subst hv
  obtain ⟨A2, c2, rfl, _, hu⟩ := hu.form
  have hal : Below w.heap.size w (w.alloc (.cells #[.slice A n c, .int .i64 ct] 33)) := (Below.refl _ w).alloc (Nat.le_refl _) _
  have HEQ := keep (equalF_any (.slice A n c) (.slice A2 U.length c2) T U _ (h.1.strUp hal).str (hu.upW hal) h.2)
  have c0 : (w.alloc (.cells #[.slice A n c, .int .i64 ct] 33)).cell? ⟨bx, 0, none⟩ = some (.slice A2 U.length c2) := ((hb.alloc _).cell 0).trans rfl
  have HAL := keep hal
  simp only [tmV]
  clear h hb hu hal
  go_enter Try.func41, Try.ntmps41
  go_wp2_with fail
  refine HEQ.out.mono ?_
  rintro e w1 ⟨rfl, rfl⟩
  go_wp2_with fail
  go_ret
  exact ⟨rfl, HAL.out⟩
def FindOut (L : List Tm) (o : Option (List ByteArray)) (w : World) (x : Ending) (w' : World) : Prop :=
  ∃ (k : Nat) (ok : Bool), x = .returned (.tuple #[.int .i64 k, .bool ok]) ∧ Below w.heap.size w w' ∧ match o with
    | none => ok = false
    | some U => (ok = false ∧ ∀ t ∈ L, fitB t.tk U = false) ∨ (ok = true ∧ ∃ h : k < L.length, fitB L[k].tk U = true ∧ ∀ j, (hj : j < k) → fitB (L[j]'(by omega)).tk U = false)
set_option maxHeartbeats 4000000 in
theorem find_any (v : Value) (L : List Tm) (s : ByteArray) (w : World) (h : MS w v L) (hs : s.size ≤ 4294967296) (hm : L.length ≤ 1000000) : Calls Try.prog 25 #[v, .string s] w (FindOut L (toks s) w) := by
  have HTK := keep (tokens_any s w hs)
  obtain ⟨A, c, rfl, _, _⟩ := h.1.form
  have H := keep h
  generalize toks s = o at HTK
  clear h
  go_enter Try.func25, Try.ntmps25
  go_wp2_with fail
  refine HTK.out.mono ?_
  rintro e w1 ⟨tv, U, rfl, hU, hU6, hown, hb1⟩
  obtain ⟨A2, c2, rfl, _⟩ := own_sl hown
  have HO := keep hown
  have HB1 := keep hb1
  clear hown hb1 HTK
  cases o with
  | none =>
    clear hU
    simp only [Option.isSome]
    go_wp2_with fail
    go_ret2
    exact ⟨0, false, rfl, (HB1.out).alloc HB1.out.size _, rfl⟩
  | some U' =>
    obtain rfl : U = U' := hU
    simp only [Option.isSome]
    obtain ⟨W, hW⟩ : ∃ W, W = w1.alloc (.cells #[.slice A2 U.length c2] 22) := ⟨_, rfl⟩
    have hbx : Blk W w1.heap.size 22 #[.slice A2 U.length c2] := hW ▸ Blk.new w1 _ _
    have hbW : Below w1.heap.size w1 W := hW ▸ (Below.refl _ w1).alloc (Nat.le_refl _) _
    have huW := (own_str (own_bel HO.out hbW)).str
    have hMW := (H.out.up HB1.out).up hbW
    have HIX := keep (index_tm 41 (.slice A L.length c) #[.pointer (some ⟨w1.heap.size, 0, none⟩)] (fun t => fitB t.tk U) L W (enters_of Try.func41 (by kernel_rfl) rfl) hMW.1
      (fun t ht W' hb' => fits_any t U w1.heap.size (.slice A2 U.length c2) W' ((hMW.2 t ht).up hb') (hbx.below hb' hbx.lt) (huW.upW hb')) hm)
    have HBW := keep (HB1.out.trans (hbW.mono HB1.out.size))
    have HW := keep hW
    clear hbx hbW huW hMW hW
    go_wp2_with fail
    rw [← HW.out]
    refine HIX.out.mono ?_
    rintro e w2 ⟨r, rfl, hf, hb2⟩
    have HB2 := keep (HBW.out.trans (hb2.mono HBW.out.size))
    clear hb2
    rcases hf with ⟨rfl, hno⟩ | ⟨i, rfl, hi, h1, h2⟩
    · have HNO := keep hno
      clear hno
      go_wp2_with fail
      go_ret2
      exact ⟨0, false, rfl, HB2.out, .inl ⟨rfl, HNO.out⟩⟩
    · have H1 := keep h1
      have H2 := keep h2
      clear h1 h2
      have hi0 : (0 : Int) ≤ (i : Int) := by omega
      go_wp2_with fail
      go_ret2
      exact ⟨i, true, rfl, HB2.out, .inr ⟨rfl, hi, H1.out, H2.out⟩⟩
theorem less_any (t u : Tm) (w : World) (h1 : TkR w t) (h2 : TkR w u) (hlt : cmpO t u < 0) : Calls Try.prog 22 #[.agg (tmV t).toArray, .agg (tmV u).toArray] w fun e w' => e = .returned (.bool true) ∧ Below w.heap.size w w' := by
  obtain ⟨A1, n1, c1, hv1⟩ := h1.form
  obtain ⟨A2, n2, c2, hv2⟩ := h2.form
  obtain ⟨tv, T, ct⟩ := t
  obtain ⟨uv, U, cu⟩ := u
  simp only at hv1 hv2
  subst hv1
  subst hv2
  obtain ⟨W, hW⟩ : ∃ W, W = (w.alloc (.cells #[.slice A1 n1 c1, .int .i64 ct] 33)).alloc (.cells #[.slice A2 n2 c2, .int .i64 cu] 33) := ⟨_, rfl⟩
  have hbW : Below w.heap.size w W := hW ▸ ((Below.refl _ w).alloc (Nat.le_refl _) _).alloc (by simp) _
  have HC := keep (compare_any ⟨.slice A1 n1 c1, T, ct⟩ ⟨.slice A2 n2 c2, U, cu⟩ W (h1.up hbW) (h2.up hbW))
  obtain ⟨z, hz⟩ : ∃ z, cmpO ⟨.slice A1 n1 c1, T, ct⟩ ⟨.slice A2 n2 c2, U, cu⟩ = z := ⟨_, rfl⟩
  rw [hz] at HC hlt
  have HBW := keep hbW
  have HW := keep hW
  simp only [tmV] at HC ⊢
  clear h1 h2 hbW hW hz
  go_enter Try.func22, Try.ntmps22
  go_wp2_with fail
  rw [← HW.out]
  refine HC.out.mono ?_
  rintro e w1 ⟨rfl, q, os, rfl⟩
  go_wp2_with fail
  go_ret
  exact ⟨rfl, HBW.out.trans ⟨rfl, rfl, rfl, by simp [Go.Sort.grow], fun i hi => by
    have : (Go.Sort.grow (W.drewN q) os).heap[i]? = W.heap[i]? := Go.Sort.heap_grow_old _ _ (by have := HBW.out.size; simp; omega)
    exact this⟩⟩
end Go.Proofs.Ytibljgnajbblaaa
