/- The varints of the program's postings package. -/
import Derived.Test.YtihimbmbhmgjoaaVar
import Derived.Laws.BitsAllLaws
import Derived.Laws.Bits128
namespace Go.Proofs.Ytihimbmbhmgjoaa
open Go.RowKit

theorem orHi : ∀ x : Nat, x < 128 → bits .or .i64 (x : Int) 128 = (x : Int) + 128 := by decide +kernel
theorem contByte (k : Nat) : bits .or .i64 (bits .and .i64 (k : Int) 127) 128 % 256 = ((k % 128 + 128 : Nat) : Int) := by
  rw [i64_and127, show (k : Int) % 128 = ((k % 128 : Nat) : Int) from by omega]
  have h := orHi (k % 128) (by omega)
  rw [h]
  omega
set_option maxRecDepth 100000 in
theorem varint_any (B : Nat) (v : Value) (l : List UInt8) (n : Nat) (w : World) (h : OwnB w B v l) (hB : B ≤ w.heap.size) (hn : n < 9223372036854775808) (hl : l.length + (uvar n).length ≤ 140737488355328) :
    Calls Try.prog 46 #[v, .int .i64 n] w (PutRes w B v (l ++ uvar n)) := by
  have HL := keep hl
  have HB := keep hB
  have HN := keep hn
  clear hl hB hn
  go_enter Try.func46, Try.ntmps46
  go_wp2
  go_loopw [0, 1] (fun v' x wr => ∃ (k : Nat) (l' : List UInt8), x = .int .i64 k ∧ Hid (k < 9223372036854775808) ∧ Put1 w B v v' l' wr ∧ Hid (l' ++ uvar k = l ++ uvar n)) (fun _ x _ => (intOf x).toNat)
  case atStart => exact ⟨n, l, rfl, HN, Put1.refl h, rfl⟩
  case round =>
    obtain ⟨k, l', rfl, hk, hP, hu⟩ := hrel
    have hlen : l'.length + (uvar k).length ≤ 140737488355328 := by
      have h1 := congrArg List.length hu.out
      rw [List.length_append, List.length_append] at h1
      have := HL.out
      omega
    have hup := uvar_pos k
    have HL1 := keep (show l'.length + 1 ≤ 140737488355328 by omega)
    have HB1 := keep (show B ≤ wr.heap.size from Nat.le_trans HB.out hP.f.size)
    have hb1 : Hid (Value.int .u8 (bits .or .i64 (bits .and .i64 (k : Int) 127) 128 % 256) = ub (UInt8.ofNat (k % 128 + 128))) := keep (by rw [contByte]; exact ubN _ _ (by omega))
    have hb2 := keep (byteLast k)
    have hb3 : Hid (Value.int .u8 (k : Int) = ub (UInt8.ofNat k) ∨ (127 : Int) < (k : Int)) := by
      by_cases hq : (127 : Int) < (k : Int)
      · exact .inr hq
      · exact .inl (by rw [ub, UInt8.toNat_ofNat']; congr 1; omega)
    clear hup hlen
    by_cases h127 : (127 : Int) < (k : Int)
    · go_wp2_with (refine wpList_pushB' elB rfl rfl _ _ 14 rfl rfl rfl B _ (UInt8.ofNat (k % 128 + 128)) l' hb1.out (fun _ => rfl) (fun _ => rfl) hP.o HL1.out HB1.out ?_; intro q v2 w2 hown2 hg2 hk2; have HR := keep (hP.trans (Put1.of_push hown2 hg2 hk2)))
      have h128 : ¬ k < 128 := by omega
      go_roundw
      case rel =>
        refine ⟨k / 128, _, ?_, ?_, HR.out, ?_⟩
        · simp
        · have := hk.out; exact (by omega : k / 128 < 9223372036854775808)
        · have := hu.out
          rw [uvar_big h128] at this
          exact keep (by simpa using this)
      case measure => simp [intOf]; omega
    · replace hb3 := keep (hb3.out.resolve_right h127)
      go_wp2_with (refine wpList_pushB' elB rfl rfl _ _ 19 rfl rfl rfl B _ (UInt8.ofNat k) l' (by first | exact hb2.out | exact hb3.out) (fun _ => rfl) (fun _ => rfl) hP.o HL1.out HB1.out ?_; intro q v2 w2 hown2 hg2 hk2; have HR := keep (hP.trans (Put1.of_push hown2 hg2 hk2)))
      have h128 : k < 128 := by omega
      have := hu.out
      rw [uvar_small h128] at this
      go_ret
      exact ⟨_, rfl, this ▸ HR.out⟩
end Go.Proofs.Ytihimbmbhmgjoaa
