/- FilterHash, part Hash: contracts of single functions of the filter package and its reference. -/
import Derived.Test.YtfainbgbeojcpaaLib
namespace Go.Proofs.Ytfainbgbeojcpaa
open Go.RowKit

def hstep (h : Int) (c : UInt8) : Int := bits .xor .u32 h ((c.toNat : Int) % 4294967296) * 16777619 % 4294967296
def hfold (l : List UInt8) (h : Int) : Int := l.foldl hstep h
theorem hfold_snoc (l : List UInt8) (c : UInt8) (h : Int) : hfold (l ++ [c]) h = hstep (hfold l h) c := by simp [hfold]
def hmix (h : Int) : Int :=
  bits .xor .u32 (bits .xor .u32 h (h / 32768) * 2246822519 % 4294967296) (bits .xor .u32 h (h / 32768) * 2246822519 % 4294967296 / 8192)
def hash (seed : Int) (s : ByteArray) : Int := hmix (hfold s.data.toList (bits .xor .u32 2166136261 seed))
theorem take_snoc (s : ByteArray) (k : Nat) (h : k < s.size) : s.data.toList.take (k + 1) = s.data.toList.take k ++ [s[k]] := by
  rw [List.take_succ_eq_append_getElem (by simpa using h)]; rfl

theorem refHash_any (seed : Int) (s : ByteArray) (w : World) (hs : s.size ≤ maxLen) :
    Calls Try.prog 14 #[.int .u32 seed, .string s] w fun e w' => e = .returned (.int .u32 (hash seed s)) ∧ w = w' := by
  unfold maxLen at hs
  go_enter Try.func14, Try.ntmps14
  go_wp2
  go_loop [5, 6] (fun h i => ∃ k : Nat, k ≤ s.size ∧ i = .int .i64 k ∧ h = .int .u32 (hfold (s.data.toList.take k) (bits .xor .u32 2166136261 seed))) (fun _ i => s.size - (intOf i).toNat)
  case atStart => exact ⟨0, Nat.zero_le _, rfl, rfl⟩
  case round =>
    obtain ⟨k, hk, rfl, rfl⟩ := hrel
    go_wp2
    · go_round
      case rel =>
        have hlt : k < s.size := by assumption
        exact ⟨k + 1, by omega, by go_num, by rw [take_snoc s k hlt, hfold_snoc]; rfl⟩
      case measure => simp [intOf]; omega
    · go_ret
      have hge : ¬ k < s.size := by assumption
      exact ⟨ret_int (by rw [List.take_of_length_le (by simp; omega)]; rfl), rfl⟩

theorem hash_any (seed : Int) (s : ByteArray) (w : World) (hs : s.size ≤ maxLen) :
    Calls Try.prog 13 #[.int .u32 seed, .string s] w fun e w' => e = .returned (.int .u32 (hash seed s)) ∧ Below w.heap.size w w' := by
  unfold maxLen at hs
  go_enter Try.func13, Try.ntmps13
  go_wp2_with (refine wpList_bytes rfl _ _ 5 _ rfl _ rfl Try.underlying9 Try.underlying36 Try.underlying5 ?_; intro c w1 hc hb hlt hrow)
  go_loop [5, 13] (fun h i => ∃ k : Nat, k ≤ s.size ∧ i = .int .i64 k ∧ h = .int .u32 (hfold (s.data.toList.take k) (bits .xor .u32 2166136261 seed))) (fun _ i => s.size - (intOf i).toNat)
  case atStart => exact ⟨0, Nat.zero_le _, rfl, rfl⟩
  case round =>
    obtain ⟨k, hk, rfl, rfl⟩ := hrel
    have hcell : (hk : k < s.size) → w1.cell? ⟨w.heap.size, k, none⟩ = some (.int .u8 (s[k].toNat : Int)) := fun hk => by
      have := hrow k (.int .u8 (s[k].toNat : Int)) (by simp [List.getElem?_eq_getElem (show k < s.data.toList.length by simpa using hk)]; rfl)
      simpa using this
    go_wp2
    · go_round
      case rel =>
        have hlt : k < s.size := by assumption
        exact ⟨k + 1, by omega, by go_num, by rw [take_snoc s k hlt, hfold_snoc]; rfl⟩
      case measure => simp [intOf]; omega
    · go_ret
      have hge : ¬ k < s.size := by assumption
      exact ⟨ret_int (by rw [List.take_of_length_le (by simp; omega)]; rfl), hb⟩

end Go.Proofs.Ytfainbgbeojcpaa
