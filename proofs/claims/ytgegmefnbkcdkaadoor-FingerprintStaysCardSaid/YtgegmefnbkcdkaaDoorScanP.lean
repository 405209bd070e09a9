/- Scans of files: the plain law: whatever the order of the keys, and by insertion, the same sorted list. No program in sight. -/
import Derived.Test.YtgegmefnbkcdkaaDoorFsRead
import Derived.Test.YtgegmefnbkcdkaaDoorFinger
import Derived.Test.YtgegmefnbkcdkaaDoorStrings
namespace Go.Proofs.YtgegmefnbkcdkaaDoor
open Go.RowKit
structure Sn where
  file : Int
  ino : Int
  size : Int
def lessS (a b : Sn) : Bool := decide (a.file < b.file ∨ a.file = b.file ∧ (b.size < a.size ∨ b.size = a.size ∧ a.ino < b.ino))
theorem lessS_irr (a : Sn) : lessS a a = false := by simp [lessS]
theorem lessS_trans {a b c : Sn} (h1 : lessS a b = true) (h2 : lessS b c = true) : lessS a c = true := by
  simp [lessS] at *; omega
theorem lessS_ntrans {a b c : Sn} (h1 : lessS a b = false) (h2 : lessS b c = false) : lessS a c = false := by
  simp [lessS] at *; omega
theorem lessS_tri {a b : Sn} (h1 : lessS a b = false) (h2 : lessS b a = false) : a = b := by
  obtain ⟨a1, a2, a3⟩ := a
  obtain ⟨b1, b2, b3⟩ := b
  simp [lessS] at *
  omega
theorem lessS_asym {a b : Sn} (h : lessS a b = true) : lessS b a = false := by
  simp [lessS] at *; omega
/-- In order: no later element comes before an earlier one. -/
def SrtS (l : List Sn) : Prop := l.Pairwise fun a b => lessS b a = false
def sortS (l : List Sn) : List Sn := l.mergeSort fun x y => !lessS y x
theorem sortS_srt (l : List Sn) : SrtS (sortS l) := by
  have h := List.pairwise_mergeSort (le := fun x y => !lessS y x) (fun a b c h1 h2 => by
    simp only [Bool.not_eq_true'] at *
    exact lessS_ntrans h2 h1) (fun a b => by
    cases h : lessS b a
    · rfl
    · simp [lessS_asym h]) l
  exact h.imp fun h => by simpa using h
theorem srt_unique {a b : List Sn} (ha : SrtS a) (hb : SrtS b) (hp : a.Perm b) : a = b :=
  List.Perm.eq_of_pairwise (fun _ _ _ _ h1 h2 => lessS_tri h2 h1) ha hb hp
theorem sortS_of {a l : List Sn} (ha : SrtS a) (hp : a.Perm l) : a = sortS l :=
  srt_unique ha (sortS_srt l) (hp.trans (List.mergeSort_perm l _).symm)
theorem sortS_perm {a b : List Sn} (h : a.Perm b) : sortS a = sortS b :=
  sortS_of (sortS_srt a) ((List.mergeSort_perm a _).trans h)
theorem nodup_filter {α : Type} {p : α → Bool} {l : List α} (h : l.Nodup) : (l.filter p).Nodup := List.Pairwise.filter p h
/-- The elements of keys in whatever order. -/
theorem keys_perm {β : Type} (f : Int → Option β) (ks is : List Int) (p : Int → Bool) (hk : ks.Nodup) (hi : is.Nodup) (hm : ∀ i, i ∈ ks ↔ p i = true) (hf : ∀ i, i ∉ is → f i = none) :
    (ks.filterMap f).Perm ((is.filter p).filterMap f) := by
  have h1 : ks.filterMap f = (ks.filter fun i => decide (i ∈ is)).filterMap f := by
    rw [List.filterMap_filter]
    have e : f = fun i => if decide (i ∈ is) = true then f i else none := by
      funext i
      by_cases h : i ∈ is
      · simp [h]
      · simp [h, hf i h]
    conv => lhs; rw [e]
  rw [h1]
  refine List.Perm.filterMap f ((List.perm_ext_iff_of_nodup (nodup_filter hk) (nodup_filter hi)).2 fun i => ?_)
  simp only [List.mem_filter, decide_eq_true_eq]
  rw [hm i]
  exact And.comm
/-- Is a file looked at? -/
def wantB (d : PD) (p : ByteArray) (i : Int) : Bool := d.O.contains i || d.N.any fun n => n.ino == i && pre p n.nm
/-- What is seen of a file. -/
def seeB (d : PD) (k i : Int) : Option Sn := (readP d i).bind fun t => if numOk t.data k = true then some ⟨numOf t.data k, i, t.data.length⟩ else none
def inosP (d : PD) : List Int := d.F.map fun t => t.ino
def scanP (d : PD) (p : ByteArray) (k : Int) : List Sn := sortS (((inosP d).filter (wantB d p)).filterMap (seeB d k))
theorem see_none {d : PD} {k i : Int} (h : i ∉ inosP d) : seeB d k i = none := by
  have hg : getP d.F i = none := by
    unfold getP
    rw [List.find?_eq_none]
    intro x hx hd
    simp only [decide_eq_true_eq] at hd
    exact h (List.mem_map.2 ⟨x, hx, hd⟩)
  unfold seeB readP
  rw [hg]
  rfl
theorem scan_keys {d : PD} {p : ByteArray} {k : Int} (ks : List Int) (hk : ks.Nodup) (hi : (inosP d).Nodup) (hm : ∀ i, i ∈ ks ↔ wantB d p i = true) : sortS (ks.filterMap (seeB d k)) = scanP d p k :=
  sortS_perm (keys_perm (seeB d k) ks (inosP d) (wantB d p) hk hi hm fun _ h => see_none h)
end Go.Proofs.YtgegmefnbkcdkaaDoor
