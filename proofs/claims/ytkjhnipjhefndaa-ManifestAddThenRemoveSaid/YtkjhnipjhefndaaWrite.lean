/- Varints as plain data, and the contract of the writer's varint. -/
import Derived.Test.YtkjhnipjhefndaaOff
import Derived.Test.YtkjhnipjhefndaaProg
import Derived.Laws.BitsAllLaws
namespace Go.Proofs.Ytkjhnipjhefndaa
open Go.RowKit

theorem elB : Elem Try.prog 29 5 1 1 (.int .u8 0) := ⟨Try.underlying29, by kernel_rfl, rfl, by decide⟩
/-- The bytes of an unsigned varint. -/
def uvar (n : Nat) : List UInt8 := if n < 128 then [UInt8.ofNat n] else UInt8.ofNat (n % 128 + 128) :: uvar (n / 128)
theorem uvar_small {n : Nat} (h : n < 128) : uvar n = [UInt8.ofNat n] := by rw [uvar, if_pos h]
theorem uvar_big {n : Nat} (h : ¬ n < 128) : uvar n = UInt8.ofNat (n % 128 + 128) :: uvar (n / 128) := by rw [uvar, if_neg h]
theorem uvar_pos (n : Nat) : 1 ≤ (uvar n).length := by rw [uvar]; split <;> simp

/-- The writer at block g holds the bytes l. -/
structure Wri (w : World) (B g : Nat) (v : Value) (l : List UInt8) : Prop where
  b : Blk w g 86 #[v]
  o : OwnB w B v l
  n : v.ownBlock ≠ some g
abbrev Wset (g : Nat) (v : Value) : Nat → Prop := fun k => k = g ∨ v.ownBlock = some k
def WriRes (w : World) (B g : Nat) (v : Value) (l : List UInt8) (e : Ending) (w' : World) : Prop :=
  e = .returned (.tuple #[]) ∧ ∃ v', Wri w' B g v' l ∧ Off (Wset g v) w w' ∧ ∀ k, Wset g v' k → Wset g v k ∨ w.heap.size ≤ k

theorem Wri.step {w w2 : World} {B g : Nat} {v v2 : Value} {l l2 : List UInt8} (h : Wri w B g v l) (ho : OwnB w2 B v2 l2) (hg : w.grownBy w2 v.ownBlock) (hk : ∀ k, v2.ownBlock = some k → v.ownBlock = some k ∨ w.heap.size ≤ k) :
    Wri (w2.setCell ⟨g, 0, none⟩ v2) B g v2 l2 ∧ Off (Wset g v) w (w2.setCell ⟨g, 0, none⟩ v2) ∧ ∀ j, Wset g v2 j → Wset g v j ∨ w.heap.size ≤ j := by
  have hn2 : v2.ownBlock ≠ some g := fun e => by
    rcases hk g e with h1 | h1
    · exact h.n h1
    · have := h.b.lt; omega
  have hb2 := h.b.grown hg (fun e => h.n e.symm)
  refine ⟨⟨hb2.set_ 0 v2, ?_, hn2⟩, ?_, ?_⟩
  · rcases ho with hn | ⟨k, cap, cur, fz, rfl, hb, hgg, rest⟩
    · exact .inl hn
    · exact .inr ⟨k, cap, cur, fz, rfl, hb, (Below.heap_setCell w2 _ _ k (by intro e; exact hn2 (by rw [e]; rfl))).trans hgg, rest⟩
  · exact (Off.of_grown hg (fun k hk => .inr hk)).set_ (.inl (.inl rfl)) _
  · intro j hj
    rcases hj with hj | hj
    · exact .inl (.inl hj)
    · rcases hk j hj with h1 | h1
      · exact .inl (.inr h1)
      · exact .inr h1
theorem Wri.chain {w w1 w2 : World} {g : Nat} {v v1 v2 : Value} (ho : Off (Wset g v) w w1) (hs : ∀ j, Wset g v1 j → Wset g v j ∨ w.heap.size ≤ j) (ho2 : Off (Wset g v1) w1 w2) (hs2 : ∀ j, Wset g v2 j → Wset g v1 j ∨ w1.heap.size ≤ j) :
    Off (Wset g v) w w2 ∧ ∀ j, Wset g v2 j → Wset g v j ∨ w.heap.size ≤ j := by
  refine ⟨ho.trans ho2 (fun i hi hS => ?_), fun j hj => ?_⟩
  · rcases hs i hS with h | h
    · exact h
    · omega
  · rcases hs2 j hj with h | h
    · exact hs j h
    · have := ho.size; exact .inr (by omega)
theorem byteMore (k : Nat) (hk : k < 18446744073709551616) : Value.int .u8 (bits .or .u64 (bits .and .u64 (k : Int) 127) 128 % 256) = ub (UInt8.ofNat (k % 128 + 128)) := by
  have h1 : bits .and .u64 (k : Int) 127 = ((k % 128 : Nat) : Int) := by
    have := u64_and_nat k 127 hk (by omega)
    rw [show (127 : Int) = ((127 : Nat) : Int) from rfl, this]
    congr 1
    exact Nat.and_two_pow_sub_one_eq_mod k 7
  have h2 : bits .or .u64 ((k % 128 : Nat) : Int) 128 = ((k % 128 + 128 : Nat) : Int) := by
    have := u64_or_nat (k % 128) 128 (by omega) (by omega)
    rw [show (128 : Int) = ((128 : Nat) : Int) from rfl, this]
    congr 1
    exact (Nat.or_comm _ _).trans ((Nat.two_pow_add_eq_or_of_lt (i := 7) (b := k % 128) (by omega) 1).symm.trans (Nat.add_comm _ _))
  rw [h1, h2, ub, UInt8.toNat_ofNat']
  congr 1
theorem byteLast (k : Nat) : Value.int .u8 ((k : Int) % 256) = ub (UInt8.ofNat k) := by
  rw [ub, UInt8.toNat_ofNat']
  congr 1
set_option maxRecDepth 100000 in
theorem varint_any (B g : Nat) (v : Value) (l : List UInt8) (n : Nat) (w : World) (h : Wri w B g v l) (hB : B ≤ w.heap.size) (hn : n < 18446744073709551616) (hl : l.length + (uvar n).length ≤ 140737488355328) :
    Calls Try.prog 74 #[.pointer (some ⟨g, 0, none⟩), .int .u64 n] w (WriRes w B g v (l ++ uvar n)) := by
  have HL := keep hl
  have HB := keep hB
  have HN := keep hn
  clear hl hB hn
  go_enter Try.func74, Try.ntmps74
  go_wp2
  go_loopw [1] (fun x wr => ∃ (k : Nat) (v' : Value) (l' : List UInt8), x = .int .u64 k ∧ Hid (k < 18446744073709551616) ∧ Wri wr B g v' l' ∧ Hid (l' ++ uvar k = l ++ uvar n) ∧ Off (Wset g v) w wr ∧ Hid (∀ j, Wset g v' j → Wset g v j ∨ w.heap.size ≤ j)) (fun x _ => (intOf x).toNat)
  case atStart => exact ⟨n, v, l, rfl, HN, h, rfl, Off.refl _ _, fun _ hj => .inl hj⟩
  case round =>
    obtain ⟨k, v', l', rfl, hk, hW, hu, hO, hS⟩ := hrel
    have hc : wr.cell? ⟨g, 0, none⟩ = some v' := by rw [hW.b.cell 0]; rfl
    have hsz := hO.size
    have hlen : l'.length + (uvar k).length ≤ 140737488355328 := by
      have h1 := congrArg List.length hu.out
      rw [List.length_append, List.length_append] at h1
      have := HL.out
      omega
    have hup := uvar_pos k
    have HL1 := keep (show l'.length + 1 ≤ 140737488355328 by omega)
    have HB1 := keep (show B ≤ wr.heap.size from Nat.le_trans HB.out hsz)
    have hb1 := keep (byteMore k hk.out)
    have hb2 := keep (byteLast k)
    have hb3 : Hid (Value.int .u8 (k : Int) = ub (UInt8.ofNat k) ∨ 127 < (k : Int)) := by
      by_cases hq : 127 < (k : Int)
      · exact .inr hq
      · exact .inl (by rw [ub, UInt8.toNat_ofNat']; congr 1; omega)
    have hsz' := keep hsz
    clear hup hlen hsz
    by_cases h127 : 127 < (k : Int)
    · go_wp2_with (refine wpList_pushB' elB rfl rfl _ _ 17 rfl rfl rfl B v' (UInt8.ofNat (k % 128 + 128)) l' hb1.out (fun _ => rfl) (fun _ => rfl) hW.o HL1.out HB1.out ?_; intro q v2 w2 hown2 hg2 hk2; have HR := keep (hW.step hown2 hg2 hk2); obtain ⟨A2, n2, c2, rfl⟩ := hown2.shape; have hc2 := hg2.cell hc (by exact fun e => hW.n e.symm); have hf2 : w2.frozen? ⟨g, 0, none⟩ = false := ((hW.b.grown hg2 (by exact fun e => hW.n e.symm)).frozen 0))
      obtain ⟨R1, R2, R3⟩ := HR.out
      have hCh := Wri.chain hO hS.out R2 R3
      have h128 : ¬ k < 128 := by omega
      go_roundw
      case rel =>
        refine ⟨k / 128, _, _, ?_, ?_, R1, ?_, hCh.1, hCh.2⟩
        · simp
        · have := hk.out; exact (by omega : k / 128 < 18446744073709551616)
        · have := hu.out
          rw [uvar_big h128] at this
          exact keep (by simpa using this)
      case measure => simp [intOf]; omega
    · replace hb3 := keep (hb3.out.resolve_right h127)
      go_wp2_with (refine wpList_pushB' elB rfl rfl _ _ 28 rfl rfl rfl B v' (UInt8.ofNat k) l' (by first | exact hb2.out | exact hb3.out) (fun _ => rfl) (fun _ => rfl) hW.o HL1.out HB1.out ?_; intro q v2 w2 hown2 hg2 hk2; have HR := keep (hW.step hown2 hg2 hk2); obtain ⟨A2, n2, c2, rfl⟩ := hown2.shape; have hc2 := hg2.cell hc (by exact fun e => hW.n e.symm); have hf2 : w2.frozen? ⟨g, 0, none⟩ = false := ((hW.b.grown hg2 (by exact fun e => hW.n e.symm)).frozen 0))
      obtain ⟨R1, R2, R3⟩ := HR.out
      have hCh := Wri.chain hO hS.out R2 R3
      have h128 : k < 128 := by omega
      have := hu.out
      rw [uvar_small h128] at this
      go_end0
      exact ⟨rfl, _, this ▸ R1, hCh.1, hCh.2⟩
end Go.Proofs.Ytkjhnipjhefndaa
