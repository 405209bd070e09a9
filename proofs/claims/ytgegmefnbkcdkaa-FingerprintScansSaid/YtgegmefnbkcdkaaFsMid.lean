/- Which strings are file names. The methods of a directory that is being changed: link, unlink. The methods of a directory that is being changed: unlink, fresh. A new file. -/
import Derived.Test.YtgegmefnbkcdkaaFsDir
namespace Go.Proofs.Ytgegmefnbkcdkaa
open Go.RowKit
def okB (b : UInt8) : Bool := decide (33 ≤ b.toNat) && decide (b.toNat ≤ 126)
/-- A file name. -/
def vld (s : ByteArray) : Bool := s.data.toList.all okB && decide (1 ≤ s.size) && decide (s.size ≤ 32)
theorem vld_bad {s : ByteArray} {k : Nat} (hk : k < s.size) (h : okB s[k] = false) : vld s = false := by
  have : s.data.toList.all okB = false := by
    rw [List.all_eq_false]
    exact ⟨s[k], Array.mem_toList_iff.2 (Array.getElem_mem (xs := s.data) hk), by rw [h]; simp⟩
  unfold vld; rw [this]; rfl
theorem vld_all {s : ByteArray} (h : ∀ j, (hj : j < s.size) → okB s[j] = true) : vld s = (decide (1 ≤ s.size) && decide (s.size ≤ 32)) := by
  have : s.data.toList.all okB = true := by
    rw [List.all_eq_true]
    intro b hb
    obtain ⟨j, hj, rfl⟩ := List.getElem_of_mem hb
    have hj' : j < s.size := by simpa using hj
    exact h j hj'
  unfold vld; rw [this]; simp
end Go.Proofs.Ytgegmefnbkcdkaa
namespace Go.Proofs.Ytgegmefnbkcdkaa
open Go.RowKit
theorem Dir.lt_ {w : World} {B gd : Nat} {fs : FS} (h : Dir w B gd fs) : gd < w.heap.size := by
  obtain ⟨_, _, _, _, hb, _⟩ := h
  exact hb.lt
theorem Dir.up {w w' : World} {B gd : Nat} {fs : FS} (h : Dir w B gd fs) (hb : Below w.heap.size w w') : Dir w' B gd fs := by
  obtain ⟨h1, vN, vF, vO, h2, h3⟩ := h
  exact ⟨h1, vN, vF, vO, h2.below hb h2.lt, h3.up hb⟩
/-- Where a name is put in. -/
def putName (N : List Nm) (t : Nm) : List Nm := N.takeWhile (fun n => decide (lb n.nm < lb t.nm)) ++ t :: N.dropWhile fun n => decide (lb n.nm < lb t.nm)
end Go.Proofs.Ytgegmefnbkcdkaa
namespace Go.Proofs.Ytgegmefnbkcdkaa
open Go.RowKit
def rmName (N : List Nm) (s : ByteArray) : List Nm := N.filter fun n => !decide (n.nm = s)
theorem rm_none {N : List Nm} {s : ByteArray} (h : ∀ n ∈ N, n.nm ≠ s) : rmName N s = N := List.filter_eq_self.2 fun n hn => by rw [decide_eq_false (h n hn)]; rfl
end Go.Proofs.Ytgegmefnbkcdkaa
namespace Go.Proofs.Ytgegmefnbkcdkaa
open Go.RowKit
theorem bys_one (l : List UInt8) : ∀ u ∈ bys l, u.oneCell' = true := by
  intro u hu
  obtain ⟨x, _, rfl⟩ := List.mem_map.1 hu
  rfl
/-- Bytes that are given. -/
def BR (w : World) (v : Value) (l : List UInt8) : Prop := Sl w (lt w.heap.size) 1 v l.length (bys l)
theorem BR.up {w w' : World} {v : Value} {l : List UInt8} (h : BR w v l) (hb : Below w.heap.size w w') : BR w' v l := Sl.upW h hb
theorem clone_bytes (v : Value) (l : List UInt8) (w : World) (h : BR w v l) (hm : l.length ≤ 1000000) : Calls Try.prog 57 #[v] w fun x w' => ∃ v', x = .returned v' ∧ w'.ownsRow w.heap.size 5 1 v' l.length (bys l) ∧ Below w.heap.size w w' :=
  clone_By v l.length (bys l) w _ h (bys_one l) (fun _ hb => hb) hm
/-- Five cells of a box are written. -/
theorem Blk.five {w : World} {g : Nat} {t : TypeId} {a0 a1 a2 a3 a4 : Value} (h : Blk w g t #[a0, a1, a2, a3, a4]) (b0 b1 b2 b3 b4 : Value) :
    Blk (((((w.setCell ⟨g, 0, none⟩ b0).setCell ⟨g, 1, none⟩ b1).setCell ⟨g, 2, none⟩ b2).setCell ⟨g, 3, none⟩ b3).setCell ⟨g, 4, none⟩ b4) g t #[b0, b1, b2, b3, b4] :=
  ((((h.set_ 0 b0).set_ 1 b1).set_ 2 b2).set_ 3 b3).set_ 4 b4
theorem below_five {B g : Nat} {a w : World} (h : Below B a w) (hg : B ≤ g) (b0 b1 b2 b3 b4 : Value) :
    Below B a (((((w.setCell ⟨g, 0, none⟩ b0).setCell ⟨g, 1, none⟩ b1).setCell ⟨g, 2, none⟩ b2).setCell ⟨g, 3, none⟩ b3).setCell ⟨g, 4, none⟩ b4) :=
  ((((h.setCell (p := ⟨g, 0, none⟩) hg b0).setCell (p := ⟨g, 1, none⟩) hg b1).setCell (p := ⟨g, 2, none⟩) hg b2).setCell (p := ⟨g, 3, none⟩) hg b3).setCell (p := ⟨g, 4, none⟩) hg b4
theorem grown_five (w : World) (g : Nat) (b0 b1 b2 b3 b4 : Value) :
    w.grownBy (((((w.setCell ⟨g, 0, none⟩ b0).setCell ⟨g, 1, none⟩ b1).setCell ⟨g, 2, none⟩ b2).setCell ⟨g, 3, none⟩ b3).setCell ⟨g, 4, none⟩ b4) (some g) :=
  grownBy_set (grownBy_set (grownBy_set (grownBy_set (grownBy_set (World.grownBy.refl w _) 0 b0) 1 b1) 2 b2) 3 b3) 4 b4
end Go.Proofs.Ytgegmefnbkcdkaa
