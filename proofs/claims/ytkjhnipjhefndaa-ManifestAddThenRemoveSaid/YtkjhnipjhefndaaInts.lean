/- The contracts of the writer's ints and tallies. -/
import Derived.Test.YtkjhnipjhefndaaWrite
namespace Go.Proofs.Ytkjhnipjhefndaa
open Go.RowKit

def zzI (x : Int) : Int := bits .xor .u64 (IntKind.u64.wrap (IntKind.u64.wrap x * 2)) (IntKind.u64.wrap (x / 9223372036854775808))
/-- The zigzag number of an integer. -/
def zz (x : Int) : Nat := (zzI x).toNat
theorem zz_eq (x : Int) : bits .xor .u64 (IntKind.u64.wrap (IntKind.u64.wrap x * 2)) (IntKind.u64.wrap (x / 9223372036854775808)) = ((zz x : Nat) : Int) := by
  have := bits_lo_u64 .xor (IntKind.u64.wrap (IntKind.u64.wrap x * 2)) (IntKind.u64.wrap (x / 9223372036854775808))
  unfold zz zzI
  omega
theorem zz_lt (x : Int) : zz x < 18446744073709551616 := by
  have := bits_hi_u64 .xor (IntKind.u64.wrap (IntKind.u64.wrap x * 2)) (IntKind.u64.wrap (x / 9223372036854775808))
  rw [zz_eq] at this
  omega
/-- The bytes of integers. -/
def encI (xs : List Int) : List UInt8 := xs.flatMap fun x => uvar (zz x)
theorem encI_snoc (xs : List Int) (k : Nat) (h : k < xs.length) : encI (xs.take (k + 1)) = encI (xs.take k) ++ uvar (zz xs[k]) := by
  rw [List.take_succ_eq_append_getElem h, encI, List.flatMap_append]
  simp [encI]
theorem flatMap_take_le {α β : Type} (f : α → List β) (l : List α) (k : Nat) : ((l.take k).flatMap f).length ≤ (l.flatMap f).length := by
  conv => rhs; rw [← List.take_append_drop k l, List.flatMap_append, List.length_append]
  omega
theorem encI_le (xs : List Int) (k : Nat) : (encI (xs.take k)).length ≤ (encI xs).length := flatMap_take_le _ _ _

set_option maxRecDepth 100000 in
theorem ints_any (B g : Nat) (v : Value) (l : List UInt8) (xs : List Int) (vx : Value) (S : Nat → Prop) (w : World) (h : Wri w B g v l) (hB : B ≤ w.heap.size) (hx : Sl w S 1 vx xs.length (xs.map (.int .i64))) (hS : ∀ i, S i → i < w.heap.size ∧ ¬ Wset g v i)
    (hl : l.length + (encI xs).length ≤ 140737488355328) (hm : xs.length ≤ 1000) :
    Calls Try.prog 46 #[.pointer (some ⟨g, 0, none⟩), vx] w (WriRes w B g v (l ++ encI xs)) := by
  obtain ⟨A, c, rfl, hc, hx⟩ := hx.form
  have HL := keep hl
  clear hl
  go_enter Try.func46, Try.ntmps46
  go_wp2
  go_loopw [8] (fun i wr => ∃ (k : Nat) (v' : Value), i = .int .i64 k ∧ k ≤ xs.length ∧ Wri wr B g v' (l ++ encI (xs.take k)) ∧ Off (Wset g v) w wr ∧ Hid (∀ j, Wset g v' j → Wset g v j ∨ w.heap.size ≤ j)) (fun i _ => xs.length - (intOf i).toNat)
  case atStart => exact ⟨0, v, rfl, Nat.zero_le _, by simpa [encI] using h, Off.refl _ _, fun _ hj => .inl hj⟩
  case round =>
    obtain ⟨k, v', rfl, hk, hW, hO, hSS⟩ := hrel
    by_cases hlt : k < xs.length
    · have hx2 := hx.off hO hS
      obtain ⟨b, o, u, rfl, hb, hu, hcell⟩ := hx2.at_ hlt
      have hu' : u = .int .i64 xs[k] := by simpa [hlt] using hu.symm
      subst hu'
      have hE := keep (encI_snoc xs k hlt)
      have hE2 := keep (encI_le xs (k + 1))
      generalize xs[k] = x at *
      have hsz := keep hO.size
      clear hx2 hu hx
      go_wp2_with fail
      rw [zz_eq]
      refine (varint_any B g v' _ (zz x) wr hW (Nat.le_trans hB hsz.out) (zz_lt x) ?_).mono ?_
      · have h1 := HL.out
        have h2 := hE2.out
        rw [hE.out] at h2
        simp only [List.length_append] at h2 ⊢
        omega
      rintro e w1 ⟨rfl, v1, hW1, hO1, hS1⟩
      rw [List.append_assoc, ← hE.out] at hW1
      have hCh := Wri.chain hO hSS.out hO1 hS1
      go_wp2_with fail
      go_roundw
      case rel => exact ⟨k + 1, v1, by go_num, by omega, hW1, hCh.1, hCh.2⟩
      case measure => simp [intOf]; omega
    · go_wp2_with fail
      go_end0
      rw [List.take_of_length_le (by omega)] at hW
      exact ⟨rfl, v', hW, hO, hSS.out⟩
end Go.Proofs.Ytkjhnipjhefndaa
