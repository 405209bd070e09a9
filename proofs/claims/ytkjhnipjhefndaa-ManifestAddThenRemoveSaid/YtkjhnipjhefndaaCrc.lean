/- The checksum: both functions, and the four bytes of it. -/
import Derived.Test.YtkjhnipjhefndaaInts
namespace Go.Proofs.Ytkjhnipjhefndaa
open Go.RowKit

def cstep (c : Nat) : Nat := if c % 2 = 1 then (c / 2) ^^^ 3988292384 else c / 2
def cit : Nat → Nat → Nat
  | 0, y => y
  | n + 1, y => cstep (cit n y)
def cbyte (c : Nat) (x : UInt8) : Nat := cit 8 (c ^^^ x.toNat)
def crcN (l : List UInt8) : Nat := l.foldl cbyte 4294967295
/-- The checksum of bytes. -/
def crc (l : List UInt8) : Nat := 4294967295 ^^^ crcN l
theorem xor_lt32 {a b : Nat} (ha : a < 4294967296) (hb : b < 4294967296) : a ^^^ b < 4294967296 := Nat.xor_lt_two_pow (n := 32) ha hb
theorem cstep_lt {c : Nat} (h : c < 4294967296) : cstep c < 4294967296 := by
  unfold cstep
  split
  · exact xor_lt32 (by omega) (by omega)
  · omega
theorem cit_lt (n : Nat) {c : Nat} (h : c < 4294967296) : cit n c < 4294967296 := by
  induction n with
  | zero => exact h
  | succ n ih => exact cstep_lt ih
theorem cbyte_lt {c : Nat} (h : c < 4294967296) (x : UInt8) : cbyte c x < 4294967296 := cit_lt 8 (xor_lt32 h (by have := x.toNat_lt; omega))
theorem foldl_cbyte_lt (l : List UInt8) : ∀ {c : Nat}, c < 4294967296 → l.foldl cbyte c < 4294967296 := by
  induction l with
  | nil => intro c h; exact h
  | cons x l ih => intro c h; exact ih (cbyte_lt h x)
theorem crcN_lt (l : List UInt8) : crcN l < 4294967296 := foldl_cbyte_lt l (by omega)
theorem crc_lt (l : List UInt8) : crc l < 4294967296 := xor_lt32 (by omega) (crcN_lt l)
theorem crcN_snoc (l : List UInt8) (k : Nat) (h : k < l.length) : crcN (l.take (k + 1)) = cit 8 (crcN (l.take k) ^^^ l[k].toNat) := by
  rw [List.take_succ_eq_append_getElem h, crcN, List.foldl_append]
  rfl
theorem stepP (x : Nat) (hx : x < 4294967296) : bits .xor .u32 ((x : Int) / 2) (bits .and .u32 3988292384 (-bits .and .u32 (x : Int) 1 % 4294967296)) = ((cstep x : Nat) : Int) := by
  have h1 : bits .and .u32 (x : Int) 1 = ((x % 2 : Nat) : Int) := by
    have := u32_and_nat x 1 hx (by omega)
    rw [show (1 : Int) = ((1 : Nat) : Int) from rfl, this, nat_mask1]
  rw [h1, show (x : Int) / 2 = ((x / 2 : Nat) : Int) from by omega]
  unfold cstep
  by_cases h : x % 2 = 1
  · rw [h, if_pos rfl, show -((1 : Nat) : Int) % 4294967296 = ((4294967295 : Nat) : Int) from rfl, show (3988292384 : Int) = ((3988292384 : Nat) : Int) from rfl, u32_and_nat _ _ (by omega) (by omega), u32_xor_nat _ _ (by omega) (by decide)]
    congr 1
  · have h0 : x % 2 = 0 := by omega
    rw [h0, if_neg (by omega), show -((0 : Nat) : Int) % 4294967296 = ((0 : Nat) : Int) from rfl, show (3988292384 : Int) = ((3988292384 : Nat) : Int) from rfl, u32_and_nat _ _ (by omega) (by omega), u32_xor_nat _ _ (by omega) (by decide)]
    simp
theorem stepX (x : Nat) (c : UInt8) (hx : x < 4294967296) : bits .xor .u32 (x : Int) ((c.toNat : Int)) = ((x ^^^ c.toNat : Nat) : Int) := u32_xor_nat x c.toNat hx (by have := c.toNat_lt; omega)
theorem finX (x : Nat) (hx : x < 4294967296) : bits .xor .u32 IntKind.u32.max (x : Int) = ((4294967295 ^^^ x : Nat) : Int) := u32_xor_nat 4294967295 x (by omega) hx

set_option maxRecDepth 100000 in
theorem crc_any (v : Value) (l : List UInt8) (S : Nat → Prop) (w : World) (h : BSl w S v l) (hm : l.length ≤ maxLen) :
    Calls Try.prog 75 #[v] w fun e w' => e = .returned (.int .u32 (crc l)) ∧ w = w' := by
  have h' : Sl w S 1 v l.length (l.map ub) := h
  obtain ⟨A, c, rfl, hc, h⟩ := h'.form
  clear h'
  unfold maxLen at hm
  go_enter Try.func75, Try.ntmps75
  go_wp2
  go_loop [3, 5, 8, 16] (fun c _ i _ => ∃ (k : Nat) (x : Nat), k ≤ l.length ∧ x < 4294967296 ∧ Hid (x = crcN (l.take k)) ∧ i = .int .i64 k ∧ c = .int .u32 x) (fun _ _ i _ => l.length - (intOf i).toNat)
  case atStart => exact ⟨0, 4294967295, Nat.zero_le _, by omega, rfl, rfl, rfl⟩
  case round =>
    obtain ⟨k, x, hk, hx, hX, rfl, rfl⟩ := hrel
    by_cases hlt : k < l.length
    · obtain ⟨b, o, u, rfl, hb, hu, hcell⟩ := h.at_ hlt
      have hu' : u = ub l[k] := by simpa [hlt] using hu.symm
      subst hu'
      simp only [ub] at hcell
      have hE := keep (crcN_snoc l k hlt)
      rw [← hX.out] at hE
      generalize l[k] = y at *
      have hy := y.toNat_lt
      have hsx := stepX x y hx
      have hxl := xor_lt32 hx (show y.toNat < 4294967296 by omega)
      generalize x ^^^ y.toNat = x1 at *
      go_wp2_with fail
      go_loop [3, 16] (fun c i => ∃ (k : Nat) (x : Nat), k ≤ 8 ∧ x < 4294967296 ∧ Hid (x = cit k x1) ∧ i = .int .i64 k ∧ c = .int .u32 x) (fun _ i => 8 - (intOf i).toNat)
      case atStart => exact ⟨0, x1, Nat.zero_le _, hxl, rfl, rfl, rfl⟩
      case round =>
        obtain ⟨k2, x2, hk2, hx2, hX2, rfl, rfl⟩ := hrel
        have hsp := stepP x2 hx2
        have hlx := cstep_lt hx2
        have hX3 := keep (show cstep x2 = cit (k2 + 1) x1 by rw [hX2.out]; rfl)
        generalize cstep x2 = x3 at *
        go_wp2_with fail
        · go_round
          case rel => exact ⟨k2 + 1, x3, by omega, hlx, hX3, by go_num, rfl⟩
          case measure => simp [intOf]; omega
        · go_round
          case rel => exact ⟨k + 1, x2, by omega, hx2, keep (by rw [hE.out, hX2.out, show k2 = 8 by omega]), by go_num, rfl⟩
          case measure => simp [intOf]; omega
    · have hfx := finX x hx
      go_wp2_with fail
      go_ret
      refine ⟨ret_int ?_, rfl⟩
      rw [hX.out, List.take_of_length_le (by omega)]
      rfl
set_option maxRecDepth 100000 in
theorem refCrc_any (v : Value) (l : List UInt8) (S : Nat → Prop) (w : World) (h : BSl w S v l) (hm : l.length ≤ maxLen) :
    Calls Try.prog 52 #[v] w fun e w' => e = .returned (.int .u32 (crc l)) ∧ w = w' := by
  have h' : Sl w S 1 v l.length (l.map ub) := h
  obtain ⟨A, c, rfl, hc, h⟩ := h'.form
  clear h'
  unfold maxLen at hm
  go_enter Try.func52, Try.ntmps52
  go_wp2
  go_loop [3, 4, 5] (fun c i _ => ∃ (k : Nat) (x : Nat), k ≤ l.length ∧ x < 4294967296 ∧ Hid (x = crcN (l.take k)) ∧ i = .int .i64 k ∧ c = .int .u32 x) (fun _ i _ => l.length - (intOf i).toNat)
  case atStart => exact ⟨0, 4294967295, Nat.zero_le _, by omega, rfl, rfl, rfl⟩
  case round =>
    obtain ⟨k, x, hk, hx, hX, rfl, rfl⟩ := hrel
    by_cases hlt : k < l.length
    · obtain ⟨b, o, u, rfl, hb, hu, hcell⟩ := h.at_ hlt
      have hu' : u = ub l[k] := by simpa [hlt] using hu.symm
      subst hu'
      simp only [ub] at hcell
      have hE := keep (crcN_snoc l k hlt)
      rw [← hX.out] at hE
      generalize l[k] = y at *
      have hy := y.toNat_lt
      have hsx := stepX x y hx
      have hxl := xor_lt32 hx (show y.toNat < 4294967296 by omega)
      generalize x ^^^ y.toNat = x1 at *
      go_wp2_with fail
      go_loop [3, 5] (fun c i => ∃ (k : Nat) (x : Nat), k ≤ 8 ∧ x < 4294967296 ∧ Hid (x = cit k x1) ∧ i = .int .i64 k ∧ c = .int .u32 x) (fun _ i => 8 - (intOf i).toNat)
      case atStart => exact ⟨0, x1, Nat.zero_le _, hxl, rfl, rfl, rfl⟩
      case round =>
        obtain ⟨k2, x2, hk2, hx2, hX2, rfl, rfl⟩ := hrel
        have hlx := cstep_lt hx2
        have hX3 := keep (show cstep x2 = cit (k2 + 1) x1 by rw [hX2.out]; rfl)
        have h1 : bits .and .u32 (x2 : Int) 1 = ((x2 % 2 : Nat) : Int) := by
          have := u32_and_nat x2 1 hx2 (by omega)
          rw [show (1 : Int) = ((1 : Nat) : Int) from rfl, this, nat_mask1]
        by_cases hodd : x2 % 2 = 1
        · have hc3 : cstep x2 = (x2 / 2) ^^^ 3988292384 := by unfold cstep; rw [if_pos hodd]
          have hb3 : bits .xor .u32 ((x2 : Int) / 2) 3988292384 = ((cstep x2 : Nat) : Int) := by
            rw [hc3, show (x2 : Int) / 2 = ((x2 / 2 : Nat) : Int) from by omega]
            exact u32_xor_nat _ 3988292384 (by omega) (by omega)
          rw [hodd] at h1
          clear hc3
          generalize cstep x2 = x3 at *
          go_wp2_with fail
          · go_round
            case rel => exact ⟨k2 + 1, x3, by omega, hlx, hX3, by go_num, rfl⟩
            case measure => simp [intOf]; omega
          · go_round
            case rel => exact ⟨k + 1, x2, by omega, hx2, keep (by rw [hE.out, hX2.out, show k2 = 8 by omega]), by go_num, rfl⟩
            case measure => simp [intOf]; omega
        · have hc3 : cstep x2 = x2 / 2 := by unfold cstep; rw [if_neg hodd]
          rw [show x2 % 2 = 0 by omega] at h1
          rw [hc3] at hX3 hlx
          go_wp2_with fail
          · go_round
            case rel => exact ⟨k2 + 1, x2 / 2, by omega, hlx, hX3, by go_num, by go_num⟩
            case measure => simp [intOf]; omega
          · go_round
            case rel => exact ⟨k + 1, x2, by omega, hx2, keep (by rw [hE.out, hX2.out, show k2 = 8 by omega]), by go_num, rfl⟩
            case measure => simp [intOf]; omega
    · have hfx := finX x hx
      go_wp2_with fail
      go_ret
      refine ⟨ret_int ?_, rfl⟩
      rw [hX.out, List.take_of_length_le (by omega)]
      rfl
end Go.Proofs.Ytkjhnipjhefndaa
