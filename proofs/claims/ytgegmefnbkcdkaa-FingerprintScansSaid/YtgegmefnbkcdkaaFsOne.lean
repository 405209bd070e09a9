/- The file with a name. A change as a value; the method remove. A store into a field of a file of a directory. The method truncate. The method create. -/
import Derived.Test.YtgegmefnbkcdkaaFsAdd
namespace Go.Proofs.Ytgegmefnbkcdkaa
open Go.RowKit
theorem at_ino_yes {F : List Fi} {n : Int} {k : Nat} (h0 : cfAt_fi (cfi n) F k = 0) : ∃ hk : k < F.length, F[k].ino = n := by
  have hk : k < F.length := by
    rcases Nat.lt_or_ge k F.length with h | h
    · exact h
    · rw [cfAt_fi_out h] at h0; omega
  rw [cfAt_fi_in hk] at h0
  exact ⟨hk, cfi_zero.1 h0⟩
theorem at_ino_no {F : List Fi} {n : Int} {k : Nat} (hs : FSrt F) (h : At_fi (cfi n) F k) (h0 : cfAt_fi (cfi n) F k ≠ 0) : ∀ t ∈ F, t.ino ≠ n := by
  intro t ht e
  obtain ⟨j, hj, rfl⟩ := List.getElem_of_mem ht
  have hz : cfi n F[j] = 0 := cfi_zero.2 e
  rcases Nat.lt_trichotomy j k with hlt | rfl | hgt
  · have := h.2.1 j hlt
    rw [cfAt_fi_in hj] at this
    omega
  · rw [cfAt_fi_in hj] at h0
    exact h0 hz
  · have h1 := List.pairwise_iff_getElem.1 hs k j (by omega) hj hgt
    have h2 := h.2.2 k (Nat.le_refl _)
    rw [cfAt_fi_in (by omega)] at h2
    have := cfi_neg.2 (show F[k].ino < n by omega)
    omega
end Go.Proofs.Ytgegmefnbkcdkaa
namespace Go.Proofs.Ytgegmefnbkcdkaa
open Go.RowKit
/-- A change. -/
structure Ch where
  kind : Int
  name : ByteArray
  dst : ByteArray
  dv : Value
  data : List UInt8
  n : Int
def chV (c : Ch) : Array Value := #[.int .i64 c.kind, .string c.name, .string c.dst, c.dv, .int .i64 c.n]
end Go.Proofs.Ytgegmefnbkcdkaa
namespace Go.Proofs.Ytgegmefnbkcdkaa
open Go.RowKit
end Go.Proofs.Ytgegmefnbkcdkaa
namespace Go.Proofs.Ytgegmefnbkcdkaa
open Go.RowKit
/-- What truncate does. -/
def TruncSt (fs : FS) (s : ByteArray) (e : Int) (fs' : FS) : Prop :=
  ((∀ t ∈ fs.N, t.nm ≠ s) ∧ e = 12 ∧ fs' = fs) ∨
  ∃ (i k : Nat) (hi : i < fs.N.length) (hk : k < fs.F.length), fs.N[i].nm = s ∧ fs.F[k].ino = fs.N[i].ino ∧
    ((fs.F[k].cp = true ∧ e = 13 ∧ fs' = fs) ∨ (fs.F[k].cp = false ∧ e = 0 ∧ fs' = ⟨fs.N, fs.F.set k ⟨fs.F[k].ino, .slice none 0 0, [], false, fs.F[k].wh, fs.F[k].left⟩, fs.O⟩))
end Go.Proofs.Ytgegmefnbkcdkaa
namespace Go.Proofs.Ytgegmefnbkcdkaa
open Go.RowKit
/-- A box of a type of its own, across what a directory's methods change. -/
abbrev HX (x : Nat) (W w' : World) : Prop := (∀ o, w'.cell? ⟨x, o, none⟩ = W.cell? ⟨x, o, none⟩) ∧ TyKeep W w'
theorem HX.start (x : Nat) (W : World) : HX x W W.drew := ⟨fun _ => rfl, TyKeep.of_below (Below.refl _ W).drew⟩
theorem TyKeep.blk {x : Nat} {W w' : World} {cs : Array Value} {t : TypeId} (h : TyKeep W w') (hb : Blk W x t cs) (h2 : t ≠ 91) (h3 : t ≠ 72) (h4 : t ≠ 77) : Blk w' x t cs := h.2 x cs t (0, 0) hb h2 h3 h4
theorem putFile_len (F : List Fi) (k : Nat) (t : Fi) : (putFile F k t).length ≤ F.length + 1 := by
  unfold putFile
  rw [List.length_append, List.length_cons, List.length_take, List.length_drop]; omega
theorem Small.put {fs : FS} (h : Small fs) (h2 : fs.F.length ≤ 900) (k : Nat) (t : Fi) : Small ⟨fs.N, putFile fs.F k t, fs.O⟩ :=
  ⟨h.n, Nat.le_trans (putFile_len _ _ _) (by omega), h.o⟩
/-- What create does. -/
def CreateSt (fs : FS) (c : Ch) (e : Int) (fs' : FS) : Prop :=
  ((∃ t ∈ fs.N, t.nm = c.name) ∧ e = 11 ∧ fs' = fs) ∨ ((∀ t ∈ fs.N, t.nm ≠ c.name) ∧
    ((40 ≤ fs.N.length ∧ e = 4 ∧ fs' = fs) ∨ (fs.N.length < 40 ∧ 60000 < c.data.length ∧ e = 3 ∧ fs' = fs) ∨
     (fs.N.length < 40 ∧ c.data.length ≤ 60000 ∧ e = 0 ∧ ∃ (k : Nat) (dv : Value), Gap fs.F k ∧ fs' = ⟨putName fs.N ⟨c.name, (k : Int) + 1⟩, putFile fs.F k ⟨0, dv, c.data, false, true, 0⟩, fs.O⟩)))
end Go.Proofs.Ytgegmefnbkcdkaa
