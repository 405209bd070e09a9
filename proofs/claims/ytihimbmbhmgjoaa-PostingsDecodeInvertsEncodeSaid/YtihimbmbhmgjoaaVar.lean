/- The varints of postings (Encode) and of the reference (PutVarint). -/
import Derived.Test.YtihimbmbhmgjoaaOff
namespace Go.Proofs.Ytihimbmbhmgjoaa
open Go.RowKit

theorem elB : Elem Try.prog 22 5 1 1 (.int .u8 0) := ⟨Try.underlying22, by kernel_rfl, rfl, by decide⟩
/-- The bytes of an unsigned varint. -/
def uvar (n : Nat) : List UInt8 := if n < 128 then [UInt8.ofNat n] else UInt8.ofNat (n % 128 + 128) :: uvar (n / 128)
theorem uvar_small {n : Nat} (h : n < 128) : uvar n = [UInt8.ofNat n] := by rw [uvar, if_pos h]
theorem uvar_big {n : Nat} (h : ¬ n < 128) : uvar n = UInt8.ofNat (n % 128 + 128) :: uvar (n / 128) := by rw [uvar, if_neg h]
theorem uvar_pos (n : Nat) : 1 ≤ (uvar n).length := by rw [uvar]; split <;> simp

theorem byteLast (k : Nat) : Value.int .u8 ((k : Int) % 256) = ub (UInt8.ofNat k) := by
  rw [ub, UInt8.toNat_ofNat']
  congr 1
theorem ubN (x : Int) (n : Nat) (h : x = ((n % 256 : Nat) : Int)) : Value.int .u8 x = ub (UInt8.ofNat n) := by
  rw [ub, UInt8.toNat_ofNat', h]

/-- The block that holds an owned slice. -/
abbrev Oset (v : Value) : Nat → Prop := fun k => v.ownBlock = some k
/-- What an append leaves. -/
structure Put1 (w : World) (B : Nat) (v v' : Value) (l : List UInt8) (w' : World) : Prop where
  o : OwnB w' B v' l
  f : Off (Oset v) w w'
  s : ∀ k, Oset v' k → Oset v k ∨ w.heap.size ≤ k
def PutRes (w : World) (B : Nat) (v : Value) (l : List UInt8) (e : Ending) (w' : World) : Prop := ∃ v', e = .returned v' ∧ Put1 w B v v' l w'
theorem Put1.refl {w : World} {B : Nat} {v : Value} {l : List UInt8} (h : OwnB w B v l) : Put1 w B v v l w := ⟨h, Off.refl _ _, fun _ h => .inl h⟩
theorem Put1.trans {w w1 w2 : World} {B : Nat} {v v1 v2 : Value} {l l2 : List UInt8} (h : Put1 w B v v1 l w1) (k : Put1 w1 B v1 v2 l2 w2) : Put1 w B v v2 l2 w2 :=
  ⟨k.o, h.f.trans k.f (fun i hi hs => by rcases h.s i hs with h1 | h1; exact h1; omega), fun j hj => by
    rcases k.s j hj with h1 | h1
    · exact h.s j h1
    · have := h.f.size; exact .inr (by omega)⟩
theorem Put1.of_push {w w1 : World} {B : Nat} {v v1 : Value} {l : List UInt8} (h : OwnB w1 B v1 l) (hg : w.grownBy w1 v.ownBlock) (hk : ∀ k, v1.ownBlock = some k → v.ownBlock = some k ∨ w.heap.size ≤ k) : Put1 w B v v1 l w1 :=
  ⟨h, Off.of_grown hg (fun _ e => e), hk⟩
theorem Put1.alloc {w w1 : World} {B : Nat} {v v1 : Value} {l : List UInt8} (o : Obj) (h : Put1 (w.alloc o) B v v1 l w1) : Put1 w B v v1 l w1 :=
  ⟨h.o, (Off.alloc (Off.refl _ w) o).trans h.f (fun _ _ t => t), fun k hk => (h.s k hk).imp id (fun h => by simp at h; omega)⟩

theorem orByte (k : Nat) : bits .or .u8 ((k : Int) % 256) 128 = ((k % 128 + 128 : Nat) : Int) := by
  rw [show (k : Int) % 256 = ((k % 256 : Nat) : Int) from by omega, show (128 : Int) = ((128 : Nat) : Int) from rfl, u8_or_nat _ _ (by omega) (by omega)]
  have h : ∀ x < 256, x ||| 128 = x % 128 + 128 := by decide +kernel
  rw [h _ (by omega)]
  omega
set_option maxRecDepth 100000 in
theorem putVarint_any (B : Nat) (v : Value) (l : List UInt8) (n : Nat) (w : World) (h : OwnB w B v l) (hB : B ≤ w.heap.size) (hn : n < 18446744073709551616) (hl : l.length + (uvar n).length ≤ 140737488355328) :
    Calls Try.prog 48 #[v, .int .u64 n] w (PutRes w B v (l ++ uvar n)) := by
  have HL := keep hl
  have HB := keep hB
  have HN := keep hn
  clear hl hB hn
  go_enter Try.func48, Try.ntmps48
  go_wp2
  go_loopw [0, 1] (fun v' x wr => ∃ (k : Nat) (l' : List UInt8), x = .int .u64 k ∧ Hid (k < 18446744073709551616) ∧ Put1 w B v v' l' wr ∧ Hid (l' ++ uvar k = l ++ uvar n)) (fun _ x _ => (intOf x).toNat)
  case atStart => exact ⟨n, l, rfl, HN, Put1.refl h, rfl⟩
  case round =>
    obtain ⟨k, l', rfl, hk, hP, hu⟩ := hrel
    have hlen : l'.length + (uvar k).length ≤ 140737488355328 := by
      have h1 := congrArg List.length hu.out
      rw [List.length_append, List.length_append] at h1
      have := HL.out
      omega
    have hup := uvar_pos k
    have HL1 := keep (show l'.length + 1 ≤ 140737488355328 by omega)
    have HB1 := keep (show B ≤ wr.heap.size from Nat.le_trans HB.out hP.f.size)
    have hb1 : Hid (Value.int .u8 (bits .or .u8 ((k : Int) % 256) 128) = ub (UInt8.ofNat (k % 128 + 128))) := keep (by rw [orByte]; exact ubN _ _ (by omega))
    have hb2 := keep (byteLast k)
    have hb3 : Hid (Value.int .u8 (k : Int) = ub (UInt8.ofNat k) ∨ 128 ≤ (k : Int)) := by
      by_cases hq : 128 ≤ (k : Int)
      · exact .inr hq
      · exact .inl (by rw [ub, UInt8.toNat_ofNat']; congr 1; omega)
    clear hup hlen
    by_cases h127 : 128 ≤ (k : Int)
    · go_wp2_with (refine wpList_pushB' elB rfl rfl _ _ 11 rfl rfl rfl B _ (UInt8.ofNat (k % 128 + 128)) l' hb1.out (fun _ => rfl) (fun _ => rfl) hP.o HL1.out HB1.out ?_; intro q v2 w2 hown2 hg2 hk2; have HR := keep (hP.trans (Put1.of_push hown2 hg2 hk2)))
      have h128 : ¬ k < 128 := by omega
      go_roundw
      case rel =>
        refine ⟨k / 128, _, ?_, ?_, HR.out, ?_⟩
        · simp
        · have := hk.out; exact (by omega : k / 128 < 18446744073709551616)
        · have := hu.out
          rw [uvar_big h128] at this
          exact keep (by simpa using this)
      case measure => simp [intOf]; omega
    · replace hb3 := keep (hb3.out.resolve_right h127)
      go_wp2_with (refine wpList_pushB' elB rfl rfl _ _ 18 rfl rfl rfl B _ (UInt8.ofNat k) l' (by first | exact hb2.out | exact hb3.out) (fun _ => rfl) (fun _ => rfl) hP.o HL1.out HB1.out ?_; intro q v2 w2 hown2 hg2 hk2; have HR := keep (hP.trans (Put1.of_push hown2 hg2 hk2)))
      have h128 : k < 128 := by omega
      have := hu.out
      rw [uvar_small h128] at this
      go_ret
      exact ⟨_, rfl, this ▸ HR.out⟩
end Go.Proofs.Ytihimbmbhmgjoaa
