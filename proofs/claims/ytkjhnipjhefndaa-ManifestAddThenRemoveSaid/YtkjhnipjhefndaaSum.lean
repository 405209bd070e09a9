/- The four bytes of the checksum; the reference's appends. -/
import Derived.Test.YtkjhnipjhefndaaCrc
namespace Go.Proofs.Ytkjhnipjhefndaa
open Go.RowKit

def crcB (c : Nat) : List UInt8 := [UInt8.ofNat (c / 16777216), UInt8.ofNat (c / 65536), UInt8.ofNat (c / 256), UInt8.ofNat c]
theorem own_litB (w : World) (l : List UInt8) (hm : l.length ≤ maxLen) : OwnB (w.alloc (.cells (l.map ub).toArray 5)) w.heap.size (.slice (some ⟨w.heap.size, 0, none⟩) l.length l.length) l :=
  .inr ⟨w.heap.size, l.length, _, (0, 0), rfl, Nat.le_refl _, heap_alloc_new w _, .inl rfl, Nat.le_refl _, hm, by simp, by rw [List.take_of_length_le (by simp)]⟩
theorem own_litB' (w : World) (l : List UInt8) (hm : l.length ≤ maxLen) (n : Nat) (hn : n = l.length) (a : Array Value) (ha : a = (l.map ub).toArray) : OwnB (w.alloc (.cells a 5)) w.heap.size (.slice (some ⟨w.heap.size, 0, none⟩) n n) l := by
  subst hn ha; exact own_litB w l hm
theorem ubN (x : Int) (n : Nat) (h : x = ((n % 256 : Nat) : Int)) : Value.int .u8 x = ub (UInt8.ofNat n) := by
  rw [ub, UInt8.toNat_ofNat', h]
def BytesRes (w : World) (l : List UInt8) (e : Ending) (w' : World) : Prop := ∃ v, e = .returned v ∧ OwnB w' w.heap.size v l ∧ Below w.heap.size w w'
set_option maxRecDepth 100000 in
theorem sum_any (v : Value) (l : List UInt8) (S : Nat → Prop) (w : World) (h : BSl w S v l) (hm : l.length ≤ maxLen) :
    Calls Try.prog 48 #[v] w (BytesRes w (crcB (crc l))) := by
  have hl := crc_lt l
  go_enter Try.func48, Try.ntmps48
  go_wp2_with fail
  refine (crc_any v l S w h hm).mono ?_
  rintro e w1 ⟨rfl, rfl⟩
  generalize crc l = c at *
  go_wp2_with fail
  go_ret
  refine ⟨_, rfl, own_litB' w (crcB c) (by simp [crcB, maxLen]) _ rfl _ ?_, (Below.refl _ _).alloc (Nat.le_refl _) _⟩
  simp only [crcB, List.map_cons, List.map_nil]
  rw [← ubN _ _ rfl, ← ubN _ _ rfl, ← ubN _ _ rfl, ← ubN _ _ rfl]
  congr <;> omega

/-- The block that holds an owned slice. -/
abbrev Oset (v : Value) : Nat → Prop := fun k => v.ownBlock = some k
/-- What an append leaves. -/
structure Put1 (w : World) (B : Nat) (v v' : Value) (l : List UInt8) (w' : World) : Prop where
  o : OwnB w' B v' l
  f : Off (Oset v) w w'
  s : ∀ k, Oset v' k → Oset v k ∨ w.heap.size ≤ k
def PutRes (w : World) (B : Nat) (v : Value) (l : List UInt8) (e : Ending) (w' : World) : Prop := ∃ v', e = .returned v' ∧ Put1 w B v v' l w'
theorem Put1.refl {w : World} {B : Nat} {v : Value} {l : List UInt8} (h : OwnB w B v l) : Put1 w B v v l w := ⟨h, Off.refl _ _, fun _ h => .inl h⟩
theorem Put1.trans {w w1 w2 : World} {B : Nat} {v v1 v2 : Value} {l l2 : List UInt8} (h : Put1 w B v v1 l w1) (k : Put1 w1 B v1 v2 l2 w2) : Put1 w B v v2 l2 w2 :=
  ⟨k.o, h.f.trans k.f (fun i hi hs => by rcases h.s i hs with h1 | h1; exact h1; omega), fun j hj => by
    rcases k.s j hj with h1 | h1
    · exact h.s j h1
    · have := h.f.size; exact .inr (by omega)⟩
theorem Put1.of_push {w w1 : World} {B : Nat} {v v1 : Value} {l : List UInt8} (h : OwnB w1 B v1 l) (hg : w.grownBy w1 v.ownBlock) (hk : ∀ k, v1.ownBlock = some k → v.ownBlock = some k ∨ w.heap.size ≤ k) : Put1 w B v v1 l w1 :=
  ⟨h, Off.of_grown hg (fun _ e => e), hk⟩
theorem Put1.alloc {w w1 : World} {B : Nat} {v v1 : Value} {l : List UInt8} (o : Obj) (h : Put1 (w.alloc o) B v v1 l w1) : Put1 w B v v1 l w1 :=
  ⟨h.o, (Off.alloc (Off.refl _ w) o).trans h.f (fun _ _ t => t), fun k hk => (h.s k hk).imp id (fun h => by simp at h; omega)⟩

theorem orByte (k : Nat) : bits .or .u8 ((k : Int) % 256) 128 = ((k % 128 + 128 : Nat) : Int) := by
  rw [show (k : Int) % 256 = ((k % 256 : Nat) : Int) from by omega, show (128 : Int) = ((128 : Nat) : Int) from rfl, u8_or_nat _ _ (by omega) (by omega)]
  have h : ∀ x < 256, x ||| 128 = x % 128 + 128 := by decide +kernel
  rw [h _ (by omega)]
  omega
set_option maxRecDepth 100000 in
theorem putVarint_any (B : Nat) (v : Value) (l : List UInt8) (n : Nat) (w : World) (h : OwnB w B v l) (hB : B ≤ w.heap.size) (hn : n < 18446744073709551616) (hl : l.length + (uvar n).length ≤ 140737488355328) :
    Calls Try.prog 77 #[v, .int .u64 n] w (PutRes w B v (l ++ uvar n)) := by
  have HL := keep hl
  have HB := keep hB
  have HN := keep hn
  clear hl hB hn
  go_enter Try.func77, Try.ntmps77
  go_wp2
  go_loopw [0, 1] (fun v' x wr => ∃ (k : Nat) (l' : List UInt8), x = .int .u64 k ∧ Hid (k < 18446744073709551616) ∧ Put1 w B v v' l' wr ∧ Hid (l' ++ uvar k = l ++ uvar n)) (fun _ x _ => (intOf x).toNat)
  case atStart => exact ⟨n, l, rfl, HN, Put1.refl h, rfl⟩
  case round =>
    obtain ⟨k, l', rfl, hk, hP, hu⟩ := hrel
    have hlen : l'.length + (uvar k).length ≤ 140737488355328 := by
      have h1 := congrArg List.length hu.out
      rw [List.length_append, List.length_append] at h1
      have := HL.out
      omega
    have hup := uvar_pos k
    have HL1 := keep (show l'.length + 1 ≤ 140737488355328 by omega)
    have HB1 := keep (show B ≤ wr.heap.size from Nat.le_trans HB.out hP.f.size)
    have hb1 : Hid (Value.int .u8 (bits .or .u8 ((k : Int) % 256) 128) = ub (UInt8.ofNat (k % 128 + 128))) := keep (by rw [orByte]; exact ubN _ _ (by omega))
    have hb2 := keep (byteLast k)
    have hb3 : Hid (Value.int .u8 (k : Int) = ub (UInt8.ofNat k) ∨ 128 ≤ (k : Int)) := by
      by_cases hq : 128 ≤ (k : Int)
      · exact .inr hq
      · exact .inl (by rw [ub, UInt8.toNat_ofNat']; congr 1; omega)
    clear hup hlen
    by_cases h127 : 128 ≤ (k : Int)
    · go_wp2_with (refine wpList_pushB' elB rfl rfl _ _ 11 rfl rfl rfl B _ (UInt8.ofNat (k % 128 + 128)) l' hb1.out (fun _ => rfl) (fun _ => rfl) hP.o HL1.out HB1.out ?_; intro q v2 w2 hown2 hg2 hk2; have HR := keep (hP.trans (Put1.of_push hown2 hg2 hk2)))
      have h128 : ¬ k < 128 := by omega
      go_roundw
      case rel =>
        refine ⟨k / 128, _, ?_, ?_, HR.out, ?_⟩
        · simp
        · have := hk.out; exact (by omega : k / 128 < 18446744073709551616)
        · have := hu.out
          rw [uvar_big h128] at this
          exact keep (by simpa using this)
      case measure => simp [intOf]; omega
    · replace hb3 := keep (hb3.out.resolve_right h127)
      go_wp2_with (refine wpList_pushB' elB rfl rfl _ _ 18 rfl rfl rfl B _ (UInt8.ofNat k) l' (by first | exact hb2.out | exact hb3.out) (fun _ => rfl) (fun _ => rfl) hP.o HL1.out HB1.out ?_; intro q v2 w2 hown2 hg2 hk2; have HR := keep (hP.trans (Put1.of_push hown2 hg2 hk2)))
      have h128 : k < 128 := by omega
      have := hu.out
      rw [uvar_small h128] at this
      go_ret
      exact ⟨_, rfl, this ▸ HR.out⟩
theorem zigzag_any (x : Int) (w : World) : Calls Try.prog 86 #[.int .i64 x] w fun e w' => e = .returned (.int .u64 (zz x)) ∧ w = w' := by
  go_enter Try.func86, Try.ntmps86
  go_wp2_with fail
  go_ret
  exact ⟨ret_int (zz_eq x), rfl⟩
set_option maxRecDepth 100000 in
theorem putInt_any (B : Nat) (v : Value) (l : List UInt8) (x : Int) (w : World) (h : OwnB w B v l) (hB : B ≤ w.heap.size) (hl : l.length + (uvar (zz x)).length ≤ 140737488355328) :
    Calls Try.prog 76 #[v, .int .i64 x] w (PutRes w B v (l ++ uvar (zz x))) := by
  have hz := zz_lt x
  have HL := keep hl
  have HZ := keep hz
  clear hl hz
  go_enter Try.func76, Try.ntmps76
  go_wp2_with fail
  refine (zigzag_any x _).mono ?_
  rintro e w1 ⟨rfl, rfl⟩
  generalize zz x = n at *
  go_wp2_with fail
  refine (putVarint_any B v l n w h hB HZ.out HL.out).mono ?_
  rintro e w1 ⟨v', rfl, hP⟩
  go_wp2_with fail
  go_ret
  exact ⟨_, rfl, hP⟩
set_option maxRecDepth 100000 in
theorem refInts_any (B : Nat) (v : Value) (l : List UInt8) (xs : List Int) (vx : Value) (S : Nat → Prop) (w : World) (h : OwnB w B v l) (hB : B ≤ w.heap.size) (hx : Sl w S 1 vx xs.length (xs.map (.int .i64))) (hS : ∀ i, S i → i < w.heap.size ∧ ¬ Oset v i)
    (hl : l.length + (encI xs).length ≤ 140737488355328) (hm : xs.length ≤ 1000) :
    Calls Try.prog 49 #[v, vx] w (PutRes w B v (l ++ encI xs)) := by
  obtain ⟨A, c, rfl, hc, hx⟩ := hx.form
  have HL := keep hl
  clear hl
  go_enter Try.func49, Try.ntmps49
  go_wp2
  go_loopw [0, 5] (fun v' i wr => ∃ (k : Nat), i = .int .i64 k ∧ k ≤ xs.length ∧ Put1 w B v v' (l ++ encI (xs.take k)) wr) (fun _ i _ => xs.length - (intOf i).toNat)
  case atStart => exact ⟨0, rfl, Nat.zero_le _, by simpa [encI] using Put1.refl h⟩
  case round =>
    obtain ⟨k, rfl, hk, hP⟩ := hrel
    by_cases hlt : k < xs.length
    · have hx2 := hx.off hP.f hS
      obtain ⟨b, o, u, rfl, hb, hu, hcell⟩ := hx2.at_ hlt
      have hu' : u = .int .i64 xs[k] := by simpa [hlt] using hu.symm
      subst hu'
      have hE := keep (encI_snoc xs k hlt)
      have hE2 := keep (encI_le xs (k + 1))
      generalize xs[k] = x at *
      have hsz := keep hP.f.size
      clear hx2 hu hx
      go_wp2_with fail
      refine (putInt_any B _ _ x wr hP.o (Nat.le_trans hB hsz.out) ?_).mono ?_
      · have h1 := HL.out
        have h2 := hE2.out
        rw [hE.out] at h2
        simp only [List.length_append] at h2 ⊢
        omega
      rintro e w1 ⟨v1, rfl, hP1⟩
      rw [List.append_assoc, ← hE.out] at hP1
      go_wp2_with fail
      go_roundw
      case rel => exact ⟨k + 1, by go_num, by omega, hP.trans hP1⟩
      case measure => simp [intOf]; omega
    · go_wp2_with fail
      go_ret
      rw [List.take_of_length_le (by omega)] at hP
      exact ⟨_, rfl, hP⟩
end Go.Proofs.Ytkjhnipjhefndaa
