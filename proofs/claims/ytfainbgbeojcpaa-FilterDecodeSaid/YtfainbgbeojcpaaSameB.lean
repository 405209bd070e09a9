/- The contract of the reference's SameBytes. -/
import Derived.Test.YtfainbgbeojcpaaFDec
namespace Go.Proofs.Ytfainbgbeojcpaa
open Go.RowKit

theorem BSl.up {w w' : World} {v : Value} {l : List UInt8} (h : BSl w (lt w.heap.size) v l) (hb : Below w.heap.size w w') : BSl w' (lt w'.heap.size) v l :=
  (Sl.below (B := w.heap.size) h hb (Nat.le_refl _)).more hb.size
theorem take_eq_succ {l1 l2 : List UInt8} {k : Nat} (h1 : k < l1.length) (h2 : k < l2.length) (ht : l1.take k = l2.take k) (he : l1[k] = l2[k]) : l1.take (k + 1) = l2.take (k + 1) := by
  rw [List.take_succ_eq_append_getElem h1, List.take_succ_eq_append_getElem h2, ht, he]
def SameRes (w : World) (l1 l2 : List UInt8) (e : Ending) (w' : World) : Prop := e = .returned (.bool (decide (l1 = l2))) ∧ Below w.heap.size w w'
set_option maxRecDepth 100000 in
theorem sameB_any (v1 v2 : Value) (l1 l2 : List UInt8) (w : World) (h1 : BSl w (lt w.heap.size) v1 l1) (h2 : BSl w (lt w.heap.size) v2 l2) (hm : l1.length ≤ 1000000000) :
    Calls Try.prog 27 #[v1, v2] w (SameRes w l1 l2) := by
  obtain ⟨A1, c1, rfl, hc1, h1⟩ := h1.form
  obtain ⟨A2, c2, rfl, hc2, h2⟩ := h2.form
  by_cases hlen : l1.length = l2.length
  · have d : ((l1.length : Int) != (l2.length : Int)) = false := by simp [hlen]
    have d2 : (l1.length != l2.length) = false := by simp [hlen]
    have HL := keep hlen
    clear hlen
    go_enter Try.func27, Try.ntmps27
    go_wp2_with fail
    go_loopw [5] (fun i wr => ∃ k : Nat, i = .int .i64 k ∧ Hid (k ≤ l1.length) ∧ Hid (l1.take k = l2.take k) ∧ Hid (Below w.heap.size w wr)) (fun i _ => l1.length - (intOf i).toNat)
    case atStart => exact ⟨0, rfl, keep (Nat.zero_le _), keep (by simp), keep (Below.refl _ _)⟩
    case round =>
      obtain ⟨k, rfl, hk, ht, hb⟩ := hrel
      by_cases hlt : k < l1.length
      · have hlt2 : k < l2.length := by have := HL.out; omega
        obtain ⟨b1, o1, rfl, hb1, hx1⟩ := h1.at_ hlt
        obtain ⟨b2, o2, rfl, hb2, hx2⟩ := h2.at_ hlt2
        have hy1 := (hb.out.cell (p := ⟨b1, o1 + k, none⟩) hb1).trans hx1
        have hy2 := (hb.out.cell (p := ⟨b2, o2 + k, none⟩) hb2).trans hx2
        have i0 : (0 : Int) ≤ (k : Int) := by omega
        have i1 : (k : Int) < (l1.length : Int) := by omega
        have i2 : (k : Int) < (l2.length : Int) := by omega
        clear hx1 hx2
        by_cases he : l1[k] = l2[k]
        · have dne : ((l1[k].toNat : Int) != (l2[k].toNat : Int)) = false := by simp [he]
          have HN := keep (take_eq_succ hlt hlt2 ht.out he)
          clear he
          generalize l1[k] = x at *
          generalize l2[k] = y at *
          have dne2 : (x.toNat != y.toNat) = false := by simp at dne ⊢; omega
          go_wp2_with fail
          go_quiet (fail)
          go_wp2_with fail
          go_roundw
          case rel => exact ⟨k + 1, by go_num, keep (by omega), HN, keep (below_drewN hb.out _)⟩
          case measure => simp [intOf]; omega
        · have hx : ¬ l1[k].toNat = l2[k].toNat := fun h => he (UInt8.toNat_inj.1 h)
          have dne : ((l1[k].toNat : Int) != (l2[k].toNat : Int)) = true := by simp; omega
          have hno : Hid (decide (l1 = l2) = false) := keep (by
            rw [decide_eq_false_iff_not]
            rintro rfl
            exact he rfl)
          clear he hx
          generalize l1[k] = x at *
          generalize l2[k] = y at *
          have dne2 : (x.toNat != y.toNat) = true := by simp at dne ⊢; omega
          go_wp2_with fail
          go_quiet (fail)
          go_wp2_with fail
          go_ret
          exact ⟨ret_bool hno.out.symm, below_drewN hb.out _⟩
      · have hke : k = l1.length := by have := hk.out; omega
        have i1 : (l1.length : Int) ≤ (k : Int) := by omega
        have hyes : Hid (decide (l1 = l2) = true) := keep (by
          have h := ht.out
          rw [hke, List.take_of_length_le (Nat.le_refl _), HL.out, List.take_of_length_le (Nat.le_refl _)] at h
          simpa using h)
        clear hke
        go_wp2_with fail
        go_ret
        exact ⟨ret_bool hyes.out.symm, hb.out⟩
  · have d : ((l1.length : Int) != (l2.length : Int)) = true := by simp; omega
    have d2 : (l1.length != l2.length) = true := by simpa using hlen
    have hno : Hid (decide (l1 = l2) = false) := keep (by
      rw [decide_eq_false_iff_not]
      rintro rfl
      exact hlen rfl)
    clear hlen
    go_enter Try.func27, Try.ntmps27
    go_wp2_with fail
    go_ret
    exact ⟨ret_bool hno.out.symm, Below.refl _ _⟩
set_option maxRecDepth 100000 in
theorem decF_short (v : Value) (b : List UInt8) (w : World) (h : BSl w (lt w.heap.size) v b) (hm : b.length ≤ 1000000) (hk : okLen b = false) :
    Calls Try.prog 28 #[v] w (DecFRes w b) := by
  obtain ⟨A, c, rfl, hc, h⟩ := h.form
  have HD := keep (decF_len b hk)
  by_cases h3 : b.length < 3
  · have d : decide ((b.length : Int) < 3) = true := by simp; omega
    clear hk
    go_enter Try.func28, Try.ntmps28
    go_wp2_with fail
    go_quiet (fail)
    go_wp2_with fail
    refine bodyPost_ret (v := .tuple #[.agg #[.int .i64 0, .slice none 0 0], .int .i64 22]) (by simp [results, Try.results28, go_sem]) rfl ?_
    unfold DecFRes
    rw [HD.out]
    exact ⟨_, rfl, Sl.nil _ _ _ _ _, ((below_drewN ((Below.refl _ w).alloc (Nat.le_refl _) _) _).setCell (p := ⟨w.heap.size, 0, none⟩) (Nat.le_refl _) _).setCell (p := ⟨w.heap.size, 1, none⟩) (Nat.le_refl _) _⟩
  · have d : decide ((b.length : Int) < 3) = false := by simp; omega
    obtain ⟨g, o, rfl, hg, hx1⟩ := h.at_ (k := 1) (by omega)
    have hx2 := h.cells (k := 2) (by omega)
    have e1 : b.getD 1 0 = b[1] := by simp [show 1 < b.length by omega]
    have e2 : b.getD 2 0 = b[2] := by simp [show 2 < b.length by omega]
    have h1 := b[1].toNat_lt
    have h2 := b[2].toNat_lt
    have eo := or_len b[1].toNat b[2].toNat h1 h2
    have hne : ¬ b.length = 3 + 8 * (b[1].toNat * 256 + b[2].toNat) := by
      unfold okLen at hk
      rw [e1, e2] at hk
      simp only [Bool.and_eq_false_iff, decide_eq_false_iff_not] at hk
      omega
    obtain ⟨n, hn⟩ : ∃ n, b[1].toNat * 256 + b[2].toNat = n := ⟨_, rfl⟩
    rw [hn] at eo hne
    have hn6 : n ≤ 65535 := by omega
    have dne : ((b.length : Int) != 3 + 8 * (n : Int)) = true := by rw [bne_iff_ne]; omega
    have hxx1 : ∀ k, ((w.alloc (.cells #[.int .i64 0, .slice none 0 0] 27)).drewN k).cell? ⟨g, o + 1, none⟩ = some (.int .u8 (b[1].toNat : Int)) := fun k => (((Below.refl w.heap.size w).alloc (Nat.le_refl _) _).cell (p := ⟨g, o + 1, none⟩) hg).trans hx1
    have i1 : (1 : Int) < (b.length : Int) := by omega
    have i2 : (2 : Int) < (b.length : Int) := by omega
    have hb1 : (b[1].toNat : Int) < 256 := by omega
    have hb2 : (b[2].toNat : Int) < 256 := by omega
    clear hk h1 h2 e1 e2 hn hne hxx1
    generalize b[1].toNat = x at *
    generalize b[2].toNat = y at *
    go_enter Try.func28, Try.ntmps28
    go_wp2_with fail
    go_quiet (fail)
    go_wp2_with fail
    refine bodyPost_ret (v := .tuple #[.agg #[.int .i64 0, .slice none 0 0], .int .i64 22]) (by simp [results, Try.results28, go_sem]) rfl ?_
    unfold DecFRes
    rw [HD.out]
    exact ⟨_, rfl, Sl.nil _ _ _ _ _, ((below_drewN ((Below.refl _ w).alloc (Nat.le_refl _) _) _).setCell (p := ⟨w.heap.size, 0, none⟩) (Nat.le_refl _) _).setCell (p := ⟨w.heap.size, 1, none⟩) (Nat.le_refl _) _⟩
theorem decF_any (v : Value) (b : List UInt8) (w : World) (h : BSl w (lt w.heap.size) v b) (hm : b.length ≤ 1000000) : Calls Try.prog 28 #[v] w (DecFRes w b) := by
  cases hk : okLen b with
  | true => exact decF_long v b w h hm hk
  | false => exact decF_short v b w h hm hk
theorem refDecF_any (v : Value) (b : List UInt8) (w : World) (h : BSl w (lt w.heap.size) v b) (hm : b.length ≤ 1000000) : Calls Try.prog 29 #[v] w (DecFRes w b) := by
  cases hk : okLen b with
  | true => exact refDecF_long v b w h hm hk
  | false => exact refDecF_short v b w h hm hk
end Go.Proofs.Ytfainbgbeojcpaa
