/- Contracts of fingerprint.Number, of its reference, of bytes.Equal, bytes.HasPrefix and the reference's begins. -/
import Derived.Test.YtgegmefnbkcdkaaDoorBytes
namespace Go.Proofs.YtgegmefnbkcdkaaDoor
open Go.RowKit
/-- The number of some bytes. -/
def nstep (h : Int) (b : UInt8) : Int := (h * 257 + (b.toNat : Int) + 1) % 2147483647
def nfold (l : List UInt8) : Int := l.foldl nstep 0
theorem nfold_snoc (l : List UInt8) (b : UInt8) : nfold (l ++ [b]) = nstep (nfold l) b := by simp [nfold]
theorem nfold_bd (l : List UInt8) : 0 ≤ nfold l ∧ nfold l < 2147483647 := by
  rcases List.eq_nil_or_concat l with rfl | ⟨m, b, rfl⟩
  · simp [nfold]
  · rw [List.concat_eq_append, nfold_snoc]; unfold nstep; omega
def numOk (l : List UInt8) (k : Int) : Bool := decide (1 ≤ k) && decide (k ≤ 64) && decide (k ≤ l.length)
def numOf (l : List UInt8) (k : Int) : Int := if numOk l k then nfold (l.take k.toNat) else 0
theorem numOk_iff {l : List UInt8} {k : Int} : numOk l k = true ↔ 1 ≤ k ∧ k ≤ 64 ∧ k ≤ l.length := by simp [numOk, and_assoc]
theorem BSl.at_ {w : World} {S : Nat → Prop} {A : Option Addr} {c k : Nat} {l : List UInt8} (h : BSl w S (.slice A l.length c) l) (hk : k < l.length) :
    ∃ b o, A = some ⟨b, o, none⟩ ∧ S b ∧ w.cell? ⟨b, o + k, none⟩ = some (.int .u8 (l[k].toNat : Int)) := by
  have h' : Sl w S 1 (.slice A l.length c) l.length (l.map ub) := h
  obtain ⟨b, o, u, hA, hb, hx, hc⟩ := h'.at_ hk
  have : u = ub l[k] := by simpa [hk] using hx.symm
  subst this
  exact ⟨b, o, hA, hb, hc⟩
theorem BSl.form {w : World} {S : Nat → Prop} {v : Value} {l : List UInt8} (h : BSl w S v l) : ∃ A c, v = .slice A l.length c ∧ l.length ≤ c ∧ BSl w S (.slice A l.length c) l := Sl.form h
theorem number_no (v : Value) (l : List UInt8) (k : Int) (w : World) (S : Nat → Prop) (h : BSl w S v l) (hn : numOk l k = false) :
    Calls Tryd.prog 7 #[v, .int .i64 k] w fun e w' => e = .returned (.tuple #[.int .i64 0, .bool false]) ∧ w = w' := by
  obtain ⟨A, c, rfl, hc, h⟩ := h.form
  have hn' : ¬ (1 ≤ k ∧ k ≤ 64 ∧ k ≤ l.length) := by rw [← numOk_iff, hn]; simp
  by_cases h1 : k < 1
  · have d1 : decide (k < 1) = true := by simpa using h1
    go_enter Tryd.func7, Tryd.ntmps7
    go_wp2
    go_ret2
    exact ⟨rfl, rfl⟩
  · have d1 : decide (k < 1) = false := by simpa using h1
    by_cases h2 : 64 < k
    · have d2 : decide (64 < k) = true := by simpa using h2
      go_enter Tryd.func7, Tryd.ntmps7
      go_wp2
      go_ret2
      exact ⟨rfl, rfl⟩
    · have d2 : decide (64 < k) = false := by simpa using h2
      have d3 : decide ((l.length : Int) < k) = true := by simp; omega
      go_enter Tryd.func7, Tryd.ntmps7
      go_wp2
      go_ret2
      exact ⟨rfl, rfl⟩
theorem number_ok (v : Value) (l : List UInt8) (k : Int) (w : World) (S : Nat → Prop) (h : BSl w S v l) (hn : numOk l k = true) :
    Calls Tryd.prog 7 #[v, .int .i64 k] w fun e w' => e = .returned (.tuple #[.int .i64 (nfold (l.take k.toNat)), .bool true]) ∧ w = w' := by
  obtain ⟨A, c, rfl, hc, h⟩ := h.form
  obtain ⟨k1, k2, k3⟩ := numOk_iff.1 hn
  obtain ⟨n, rfl⟩ := Int.eq_ofNat_of_zero_le (show 0 ≤ k by omega)
  have d1 : decide ((n : Int) < 1) = false := by simp; omega
  have d2 : decide ((64 : Int) < n) = false := by simp; omega
  have d3 : decide (l.length < n) = false := by simp; omega
  have hn1 : n ≤ l.length := by omega
  have hn2 : (n : Int) ≤ (l.length : Int) := by omega
  clear hn
  go_enter Tryd.func7, Tryd.ntmps7
  go_wp2
  go_loop [6, 8, 25] (fun hh _ i => ∃ j : Nat, j ≤ n ∧ i = .int .i64 j ∧ hh = .int .i64 (nfold (l.take j))) (fun _ _ i => n - (intOf i).toNat)
  case atStart => exact ⟨0, Nat.zero_le _, rfl, rfl⟩
  case round =>
    obtain ⟨j, hj, rfl, rfl⟩ := hrel
    have hbd := nfold_bd (l.take j)
    by_cases hlt : j < n
    · obtain ⟨b, o, rfl, hb, hcell⟩ := h.at_ (k := j) (by omega)
      have hsn : nfold (l.take (j + 1)) = (nfold (l.take j) * 257 + (l[j].toNat : Int) + 1) % 2147483647 := by
        rw [List.take_succ_eq_append_getElem (by omega), nfold_snoc]; rfl
      have HS := keep hsn
      have hu : (l[j].toNat : Int) < 256 := by have := l[j].toNat_lt; omega
      have hu0 : (0 : Int) ≤ (l[j].toNat : Int) := by omega
      clear hsn
      generalize nfold (l.take j) = x at *
      generalize (l[j].toNat : Int) = y at *
      go_wp2
      go_round
      case rel => exact ⟨j + 1, by omega, by go_num, by rw [HS.out]⟩
      case measure => simp [intOf]; omega
    · obtain rfl : j = n := by omega
      go_wp2
      go_ret2
      exact ⟨by simp, rfl⟩
theorem pre_iff (l1 l2 : List UInt8) : decide (l1.take l2.length = l2) = decide (l2 <+: l1) := by
  rw [decide_eq_decide, List.prefix_iff_eq_take]
  exact ⟨fun e => e.symm, fun e => e.symm⟩
end Go.Proofs.YtgegmefnbkcdkaaDoor
