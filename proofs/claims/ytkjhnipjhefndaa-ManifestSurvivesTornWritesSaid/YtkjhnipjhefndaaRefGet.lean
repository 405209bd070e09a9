/- The contract of logtideref27.Get, and what four bytes of a checksum are. -/
import Derived.Test.YtkjhnipjhefndaaSum
import Derived.Test.YtkjhnipjhefndaaFlip
import Derived.Laws.BitsAllLaws
namespace Go.Proofs.Ytkjhnipjhefndaa
open Go.RowKit

def gstep (c : Nat) (x : UInt8) : Nat := c * 256 % 18446744073709551616 ||| x.toNat
def getN (l : List UInt8) : Nat := l.foldl gstep 0
theorem gstep_lt (c : Nat) (x : UInt8) : gstep c x < 18446744073709551616 := by
  have hx := x.toNat_lt
  exact Nat.or_lt_two_pow (n := 64) (Nat.mod_lt _ (by omega)) (by omega)
theorem getN_snoc (l : List UInt8) (k : Nat) (h : k < l.length) : getN (l.take (k + 1)) = gstep (getN (l.take k)) l[k] := by
  unfold getN
  rw [List.take_succ_eq_append_getElem h, List.foldl_append]
  rfl
theorem foldl_gstep_lt (l : List UInt8) : ∀ {c : Nat}, c < 18446744073709551616 → l.foldl gstep c < 18446744073709551616 := by
  induction l with
  | nil => intro c h; exact h
  | cons x l ih => intro c _; exact ih (gstep_lt c x)
theorem getN_lt (l : List UInt8) : getN l < 18446744073709551616 := foldl_gstep_lt l (by omega)
theorem stepG (c : Nat) (x : UInt8) (_hc : c < 18446744073709551616) : bits .or .u64 (IntKind.u64.wrap ((c : Int) * 256)) (x.toNat : Int) = ((gstep c x : Nat) : Int) := by
  have hx := x.toNat_lt
  have e : IntKind.u64.wrap ((c : Int) * 256) = ((c * 256 % 18446744073709551616 : Nat) : Int) := by simp [IntKind.wrap, IntKind.bits, IntKind.signed]
  rw [e]
  exact u64_or_nat _ _ (Nat.mod_lt _ (by omega)) (by omega)
theorem or_byte (c : Nat) (x : UInt8) (hc : c < 72057594037927936) : gstep c x = c * 256 + x.toNat := by
  have hx := x.toNat_lt
  unfold gstep
  rw [Nat.mod_eq_of_lt (by omega), Nat.mul_comm]
  exact (Nat.two_pow_add_eq_or_of_lt (i := 8) (by omega) c).symm
theorem getN4 (l : List UInt8) (c : Nat) (hl : l.length = 4) (hc : c < 4294967296) : getN l = c ↔ crcB c = l := by
  match l, hl with
  | [a, b, x, y], _ =>
    have ha := a.toNat_lt
    have hb := b.toNat_lt
    have hx := x.toNat_lt
    have hy := y.toNat_lt
    have e0 : gstep 0 a = a.toNat := by rw [or_byte _ _ (by omega)]; omega
    have e : getN [a, b, x, y] = ((a.toNat * 256 + b.toNat) * 256 + x.toNat) * 256 + y.toNat := by
      show gstep (gstep (gstep (gstep 0 a) b) x) y = _
      rw [e0, or_byte a.toNat b (by omega), or_byte _ x (by omega), or_byte _ y (by omega)]
    rw [e]
    constructor
    · intro h
      subst h
      unfold crcB
      have u (n : Nat) (z : UInt8) (h : n % 256 = z.toNat) : UInt8.ofNat n = z := by
        apply UInt8.toNat_inj.1
        rw [UInt8.toNat_ofNat']
        exact h
      rw [u _ a (by omega), u _ b (by omega), u _ x (by omega), u _ y (by omega)]
    · intro h
      unfold crcB at h
      injection h with h1 h
      injection h with h2 h
      injection h with h3 h
      injection h with h4 h
      have := congrArg UInt8.toNat h1
      have := congrArg UInt8.toNat h2
      have := congrArg UInt8.toNat h3
      have := congrArg UInt8.toNat h4
      simp only [UInt8.toNat_ofNat'] at *
      omega
theorem getN4_ne (l : List UInt8) (c : Nat) (hl : l.length = 4) (hc : c < 4294967296) : ((getN l : Int) != (c : Int)) = !decide (crcB c = l) := by
  rw [Bool.eq_iff_iff]
  have := getN4 l c hl hc
  simp [bne_iff_ne]
  rw [← this]
  omega
set_option maxRecDepth 100000 in
theorem get_any (v : Value) (l : List UInt8) (S : Nat → Prop) (w : World) (h : BSl w S v l) (hm : l.length ≤ 1000000000) :
    Calls Try.prog 63 #[v] w fun e w' => e = .returned (.int .u64 (getN l)) ∧ w = w' := by
  have hs' : Sl w S 1 v l.length (l.map ub) := h
  obtain ⟨A, c, rfl, hc, hs⟩ := hs'.form
  clear hs'
  go_enter Try.func63, Try.ntmps63
  go_wp2_with fail
  go_loop [3, 4] (fun n i => ∃ k : Nat, k ≤ l.length ∧ i = .int .i64 k ∧ n = .int .u64 (getN (l.take k))) (fun _ i => l.length - (intOf i).toNat)
  case atStart => exact ⟨0, Nat.zero_le _, rfl, rfl⟩
  case round =>
    obtain ⟨k, hk, rfl, rfl⟩ := hrel
    by_cases hlt : k < l.length
    · obtain ⟨b, o, u, rfl, hb, hu, hcell⟩ := hs.at_ hlt
      have hu' : u = ub l[k] := by simpa [hlt] using hu.symm
      subst hu'
      simp only [ub] at hcell
      have HS := keep (getN_snoc l k hlt)
      have hgl := getN_lt (l.take k)
      clear hu
      generalize getN (l.take k) = n at *
      generalize l[k] = y at *
      have HG := keep (stepG n y hgl)
      have hy := y.toNat_lt
      go_wp2_with fail
      go_round
      case rel => exact ⟨k + 1, by omega, by go_num, by rw [HS.out, ← HG.out]⟩
      case measure => simp [intOf]; omega
    · have hkl : k = l.length := by omega
      subst hkl
      go_wp2_with fail
      go_ret
      exact ⟨rfl, rfl⟩
end Go.Proofs.Ytkjhnipjhefndaa
