/- The contracts of postings.Seek, Touched and of the references. -/
import Derived.Test.YtihimbmbhmgjoaaLawDec
import Derived.Test.YtihimbmbhmgjoaaSearch
namespace Go.Proofs.Ytihimbmbhmgjoaa
open Go.RowKit

/-- The smallest element from t on. -/
def sk (l : List Int) (t : Int) : Int × Bool := match l.find? (fun x => decide (t ≤ x)) with | some x => (x, true) | none => (0, false)
theorem sk_nil (t : Int) : sk [] t = (0, false) := rfl
theorem sk_none {l : List Int} {t : Int} (h : ∀ x ∈ l, x < t) : sk l t = (0, false) := by
  unfold sk
  rw [List.find?_eq_none.2 (fun x hx => by have := h x hx; simp; omega)]
theorem sk_some {l : List Int} {t : Int} {i : Nat} (hi : i < l.length) (h : ∀ j (hj : j < l.length), j < i → l[j] < t) (ht : t ≤ l[i]) : sk l t = (l[i], true) := by
  unfold sk
  have : l.find? (fun x => decide (t ≤ x)) = some l[i] := by
    rw [List.find?_eq_some_iff_getElem]
    refine ⟨by simpa using ht, i, hi, rfl, fun j hj => ?_⟩
    have := h j (by omega) hj
    simp
    omega
  rw [this]
def SeekOut (w : World) (b : List UInt8) (t : Int) (e : Ending) (w' : World) : Prop :=
  ∃ (l : List Int) (z : Int), IsDec b l z ∧ e = .returned (.tuple #[.int .i64 (sk l t).1, .bool (sk l t).2, .int .i64 z]) ∧ Below w.heap.size w w'
theorem IsDec.asc {b : List UInt8} {l : List Int} {z : Int} (h : IsDec b l z) : AscI l := by
  rcases h with ⟨⟨h1, _⟩, _⟩ | ⟨_, rfl, _⟩
  · unfold checkOf at h1
    split at h1
    · cases h1
    · split at h1
      · cases h1
      · split at h1
        · rename_i ha
          unfold Asc at ha
          rw [List.pairwise_iff_getElem] at ha
          exact fun i j hi hj hij => ha i j hi hj hij
        · cases h1
  · intro i j hi _ _
    simp at hi
theorem IsDec.bad {b : List UInt8} {l : List Int} {z : Int} (h : IsDec b l z) (hz : z ≠ 0) : l = [] := by
  rcases h with ⟨_, h⟩ | ⟨_, h, _⟩
  · exact absurd h hz
  · exact h

set_option maxRecDepth 100000 in
theorem seek_any (v : Value) (b : List UInt8) (t : Int) (w : World) (h : BSl w (lt w.heap.size) v b) (hm : b.length ≤ 1000000) :
    Calls Try.prog 31 #[v, .int .i64 t] w (SeekOut w b t) := by
  go_enter Try.func31, Try.ntmps31
  go_wp2_with fail
  refine (dec_any v b w h hm).mono ?_
  rintro e W1 hdr
  obtain ⟨l, z, A, c, hD, rfl, hS, hb1⟩ := hdr.out
  clear hdr h
  by_cases hz : z = 0
  · subst hz
    have hl4 := hD.len
    have hA := keep hD.asc
    have HD := keep hD
    clear hD
    go_wp2_with fail
    refine (bsearch_any _ l t W1 _ hS hA.out (by omega)).mono ?_
    rintro e W2 ⟨i, rfl, hi, hL, hU, rfl⟩
    have HL := keep hL
    have HU := keep hU
    clear hL hU
    by_cases hlt : i < l.length
    · have d : ((i : Int) == (l.length : Int)) = false := by rw [beq_eq_false_iff_ne]; omega
      have d2 : (i == l.length) = false := by rw [beq_eq_false_iff_ne]; omega
      have hsk := keep (sk_some hlt (fun j hj hji => HL.out j hj hji) (HU.out i hlt (Nat.le_refl _)))
      obtain ⟨b1, o1, u1, rfl, _, hx1, hc1⟩ := hS.at_ hlt
      have hu : u1 = .int .i64 l[i] := by simpa [hlt] using hx1.symm
      subst hu
      have i2 : (i : Int) < (l.length : Int) := by omega
      clear hx1
      generalize l[i] = X at *
      go_wp2_with fail
      refine bodyPost_ret (v := .tuple #[.int .i64 X, .bool true, .int .i64 0]) (by simp [results, Try.results31, go_sem]) rfl ?_
      exact ⟨l, 0, HD.out, by rw [hsk.out], hb1⟩
    · have hil : i = l.length := by omega
      have d : ((i : Int) == (l.length : Int)) = true := by rw [beq_iff_eq]; omega
      have d2 : (i == l.length) = true := by rw [beq_iff_eq]; omega
      have hsk := keep (sk_none (l := l) (t := t) (fun x hx => by
        obtain ⟨j, hj, rfl⟩ := List.getElem_of_mem hx
        exact HL.out j hj (by omega)))
      clear hil
      go_wp2_with fail
      refine bodyPost_ret (v := .tuple #[.int .i64 0, .bool false, .int .i64 0]) (by simp [results, Try.results31, go_sem]) rfl ?_
      exact ⟨l, 0, HD.out, by rw [hsk.out], hb1⟩
  · have hd : (z != 0) = true := by simpa using hz
    have hln := hD.bad hz
    subst hln
    have HD := keep hD
    clear hD hz
    go_wp2_with fail
    refine bodyPost_ret (v := .tuple #[.int .i64 0, .bool false, .int .i64 z]) (by simp [results, Try.results31, go_sem]) rfl ?_
    exact ⟨[], z, HD.out, rfl, hb1⟩

set_option maxRecDepth 100000 in
theorem refSeek_any (v : Value) (b : List UInt8) (t : Int) (w : World) (h : BSl w (lt w.heap.size) v b) (hm : b.length ≤ 1000000) :
    Calls Try.prog 35 #[v, .int .i64 t] w (SeekOut w b t) := by
  go_enter Try.func35, Try.ntmps35
  go_wp2_with fail
  refine (refDec_any v b w h hm).mono ?_
  rintro e W1 hdr
  obtain ⟨l, z, A, c, hD, rfl, hS, hb1⟩ := hdr.out
  clear hdr h
  by_cases hz : z = 0
  · subst hz
    have hl4 := hD.len
    have HD := keep hD
    clear hD
    go_wp2_with fail
    go_loop [9] (fun i => ∃ k : Nat, i = .int .i64 k ∧ Hid (k ≤ l.length) ∧ Hid (∀ j (hj : j < l.length), j < k → l[j] < t)) (fun i => 5000 - (intOf i).toNat)
    case atStart => exact ⟨0, rfl, keep (Nat.zero_le _), keep (fun j _ hj => absurd hj (by omega))⟩
    case round =>
      obtain ⟨k, rfl, hk, hno⟩ := hrel
      by_cases hlt : k < l.length
      · obtain ⟨b1, o1, u1, rfl, _, hx1, hc1⟩ := hS.at_ hlt
        have hu : u1 = .int .i64 l[k] := by simpa [hlt] using hx1.symm
        subst hu
        have i0 : (0 : Int) ≤ (k : Int) := by omega
        have i2 : (k : Int) < (l.length : Int) := by omega
        by_cases ht : t ≤ l[k]
        · have hsk := keep (sk_some hlt hno.out ht)
          clear hx1
          generalize l[k] = X at *
          go_wp2_with fail
          refine bodyPost_ret (v := .tuple #[.int .i64 X, .bool true, .int .i64 0]) (by simp [results, Try.results35, go_sem]) rfl ?_
          exact ⟨l, 0, HD.out, by rw [hsk.out], hb1⟩
        · have hnx : Hid (∀ j (hj : j < l.length), j < k + 1 → l[j] < t) := keep (fun j hj hjk => by
            by_cases e : j = k
            · subst e; omega
            · exact hno.out j hj (by omega))
          clear hx1 hno
          generalize l[k] = X at *
          have ht2 : X < t := by omega
          go_wp2_with fail
          go_round
          case rel => exact ⟨k + 1, by go_num, keep (by omega), hnx⟩
          case measure => simp [intOf]; omega
      · have i2 : (l.length : Int) ≤ (k : Int) := by omega
        have hsk := keep (sk_none (l := l) (t := t) (fun x hx => by
          obtain ⟨j, hj, rfl⟩ := List.getElem_of_mem hx
          exact hno.out j hj (by omega)))
        go_wp2_with fail
        refine bodyPost_ret (v := .tuple #[.int .i64 0, .bool false, .int .i64 0]) (by simp [results, Try.results35, go_sem]) rfl ?_
        exact ⟨l, 0, HD.out, by rw [hsk.out], hb1⟩
  · have hd : (z != 0) = true := by simpa using hz
    have hln := hD.bad hz
    subst hln
    have HD := keep hD
    clear hD hz
    go_wp2_with fail
    refine bodyPost_ret (v := .tuple #[.int .i64 0, .bool false, .int .i64 z]) (by simp [results, Try.results35, go_sem]) rfl ?_
    exact ⟨[], z, HD.out, rfl, hb1⟩

def TouchOut (w : World) (b : List UInt8) (t : Int) (e : Ending) (w' : World) : Prop :=
  ∃ (l : List Int) (z : Int), IsDec b l z ∧ e = .returned (.tuple #[.int .i64 (if (sk l t).2 = true then 1 else 0), .int .i64 z]) ∧ Below w.heap.size w w'
theorem refTouched_any (v : Value) (b : List UInt8) (t : Int) (w : World) (h : BSl w (lt w.heap.size) v b) (hm : b.length ≤ 1000000) :
    Calls Try.prog 37 #[v, .int .i64 t] w (TouchOut w b t) := by
  go_enter Try.func37, Try.ntmps37
  go_wp2_with fail
  refine (refSeek_any v b t w h hm).mono ?_
  rintro e W1 ⟨l, z, hD, rfl, hb1⟩
  have HD := keep hD
  clear hD h
  cases hs : (sk l t).2 with
  | true =>
    have HS := keep hs
    clear hs
    go_wp2_with fail
    refine bodyPost_ret (v := .tuple #[.int .i64 1, .int .i64 z]) (by simp [results, Try.results37, go_sem]) rfl ?_
    exact ⟨l, z, HD.out, by rw [HS.out]; rfl, hb1⟩
  | false =>
    have HS := keep hs
    clear hs
    go_wp2_with fail
    refine bodyPost_ret (v := .tuple #[.int .i64 0, .int .i64 z]) (by simp [results, Try.results37, go_sem]) rfl ?_
    exact ⟨l, z, HD.out, by rw [HS.out]; rfl, hb1⟩
end Go.Proofs.Ytihimbmbhmgjoaa
