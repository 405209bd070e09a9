/- Contract of the making function Data: the bytes of a file, of bounded length. -/
import Derived.Test.YtgegmefnbkcdkaaDoorMakeText
namespace Go.Proofs.YtgegmefnbkcdkaaDoor
open Go.RowKit
def DataRes (w : World) (gc : Nat) (m : Int) (e : Ending) (w' : World) : Prop :=
  ∃ (v : Value) (l : List UInt8), e = .returned v ∧ OwnB w' w.heap.size v l ∧ 15 ≤ l.length ∧ (l.length : Int) ≤ m ∧ Codes w' gc ∧ w.grownBy w' (some gc)
set_option maxHeartbeats 1000000 in
theorem makeData (gc : Nat) (number lines : Int) (w : World) (h : Codes w gc) (h0 : 0 ≤ lines) (h1 : lines ≤ 1000) :
    Calls Tryd.prog 6 #[.pointer (some ⟨gc, 0, none⟩), .int .i64 number, .int .i64 lines] w (DataRes w gc (600 + 600 * lines)) := by
  have hl := h.lt_
  go_enter Tryd.func6, Tryd.ntmps6
  go_wp2_with fail
  refine (makeMod _ 20 _ (by omega)).mono ?_
  rintro e w' ⟨r, rfl, r0, r1, rfl⟩
  have r2 := r1 (by omega)
  clear r1
  go_wp2_with fail
  refine (makeMod _ 20 _ (by omega)).mono ?_
  rintro e w' ⟨q, rfl, q0, q1, rfl⟩
  have q2 := q1 (by omega)
  clear q1
  go_wp2_with (first
    | (refine wpList_stringB rfl _ rfl rfl (lit2B w (97 + r) (97 + q) (by omega) (by omega) (by omega) (by omega)) Tryd.underlying22 Tryd.underlying5 Tryd.underlying9 ?_)
    | (refine wpList_bytesB rfl _ rfl _ rfl Tryd.underlying9 Tryd.underlying22 Tryd.underlying5 (by simp [ByteArray.size_append, size_mk, maxLen]) ?_; intro v1 w1 hown1 hb1 hz1))
  have hlen : (ByteArray.mk #[102, 105, 108, 101, 32] ++ ByteArray.mk [UInt8.ofNat (97 + r).toNat, UInt8.ofNat (97 + q).toNat].toArray ++ ByteArray.mk #[32, 98, 101, 103, 105, 110, 115, 10]).data.toList.length = 15 := by simp
  generalize (ByteArray.mk #[102, 105, 108, 101, 32] ++ ByteArray.mk [UInt8.ofNat (97 + r).toNat, UInt8.ofNat (97 + q).toNat].toArray ++ ByteArray.mk #[32, 98, 101, 103, 105, 110, 115, 10]).data.toList = l0 at *
  have hbw : Below w.heap.size w w1 := ((Below.refl _ w).alloc (Nat.le_refl _) _).trans (hb1.mono (by simp))
  have hown2 : OwnB w1 w.heap.size v1 l0 := hown1.base_ (by simp)
  have hC1 := h.under hbw hl
  have hG1 : w.grownBy w1 (some gc) := grownBy_of_below hbw _
  clear hown1 hb1 hz1 hbw h
  refine (drawNext gc _ _ hC1 (by omega) (by omega)).mono ?_
  rintro e w2 ⟨n, rfl, n0, n1, _, hC2, hg2⟩
  have n2 := n1 (by omega)
  replace hown2 := hown2.grown hg2 hl
  replace hG1 := grownBy_trans hG1 hg2
  clear n1 hg2 hC1
  go_wp2_with fail
  go_loopw [7, 8] (fun v n wr => ∃ (m : Int) (l : List UInt8), n = .int .i64 m ∧ 0 ≤ m ∧ 15 ≤ l.length ∧ (l.length : Int) + 536 * m ≤ 15 + 536 * lines ∧ OwnB wr w.heap.size v l ∧ Codes wr gc ∧ w.grownBy wr (some gc)) (fun _ n _ => (intOf n).toNat)
  case atStart => exact ⟨n, l0, rfl, n0, by omega, by omega, hown2, hC2, hG1⟩
  case round =>
    clear hown2 hC2 hG1 hlen
    obtain ⟨m, l, rfl, hm0, hl15, hlm, hown, hC, hG⟩ := hrel
    by_cases hp : 0 < m
    · have hd : decide (0 < m) = true := by simpa using hp
      go_wp2_with fail
      refine (makeLine gc _ hC).mono ?_
      rintro e w3 ⟨s3, rfl, hs3, hC3, hg3⟩
      replace hown := hown.grown hg3 hl
      replace hG := grownBy_trans hG hg3
      clear hC hg3
      go_wp2_with (refine wpList_appendBs elBytes Tryd.underlying9 rfl _ _ rfl w.heap.size _ l rfl hown _ rfl (by omega) hG.size ?_; intro v4 w4 hown4 hb4 hg4; replace hC3 := hC3.under hb4 hl; replace hG := grownBy_below hG hb4; clear hg4)
      refine (pick_lit gc _ _ _ hC3 (by rfl) (by omega) (by omega)).mono ?_
      rintro e w5 ⟨s5, rfl, hs5, hC5, hg5⟩
      replace hown4 := hown4.grown hg5 hl
      replace hG := grownBy_trans hG hg5
      have hl4 : (l ++ s3.data.toList).length = l.length + s3.size := by simp
      have HL4 := keep hl4
      have hl4' : ((l ++ s3.data.toList).length : Int) ≤ l.length + s3.size := by omega
      generalize l ++ s3.data.toList = l4 at *
      clear hC3 hg5 hb4 hown hl4
      go_wp2_with (refine wpList_appendBs elBytes Tryd.underlying9 rfl _ _ rfl w.heap.size _ l4 rfl hown4 _ rfl (by omega) hG.size ?_; intro v6 w6 hown6 hb6 hg6; replace hC5 := hC5.under hb6 hl; replace hG := grownBy_below hG hb6; clear hg6)
      go_roundw
      case rel => exact ⟨m - 1, l4 ++ s5.data.toList, by go_num, by omega, by have := HL4.out; simp; omega, by simp; omega, hown6, hC5, hG⟩
      case measure => simp [intOf]; omega
    · have hd : decide (0 < m) = false := by simpa using hp
      go_wp2_with fail
      refine (drawNext gc _ _ hC (by omega) (by omega)).mono ?_
      rintro e w3 ⟨k, rfl, k0, k1, _, hC3, hg3⟩
      replace hown := hown.grown hg3 hl
      replace hG := grownBy_trans hG hg3
      clear hC hg3 k1
      by_cases h4 : k = 4
      · subst h4
        go_wp2_with fail
        refine (makeLine gc _ hC3).mono ?_
        rintro e w4 ⟨s4, rfl, hs4, hC4, hg4⟩
        replace hown := hown.grown hg4 hl
        replace hG := grownBy_trans hG hg4
        clear hC3 hg4
        go_wp2_with (refine wpList_appendBs elBytes Tryd.underlying9 rfl _ _ rfl w.heap.size _ l rfl hown _ rfl (by omega) hG.size ?_; intro v6 w6 hown6 hb6 hg6; replace hC4 := hC4.under hb6 hl; replace hG := grownBy_below hG hb6; clear hg6)
        go_ret
        exact ⟨_, _, rfl, hown6, by simp; omega, by simp; omega, hC4, hG⟩
      · have d4 : (k == 4) = false := by simpa using h4
        go_wp2_with fail
        go_ret
        exact ⟨_, _, rfl, hown, hl15, by omega, hC3, hG⟩
end Go.Proofs.YtgegmefnbkcdkaaDoor
