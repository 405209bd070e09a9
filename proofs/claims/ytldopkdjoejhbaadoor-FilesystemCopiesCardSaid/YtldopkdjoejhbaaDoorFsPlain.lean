/- Plain facts on directories with contents left open: copies and renames. No program in sight. -/
import Derived.Test.YtldopkdjoejhbaaDoorFsHold
namespace Go.Proofs.YtldopkdjoejhbaaDoor
open Go.RowKit

def nmA : ByteArray := ⟨#[97]⟩
def nmB : ByteArray := ⟨#[98]⟩
def nmC : ByteArray := ⟨#[99]⟩
def nmO : ByteArray := ⟨#[]⟩
theorem do_create (data : List UInt8) (h : data.length ≤ 60000) (n : Int) : doP ⟨[], [], []⟩ ⟨1, nmA, nmO, data, n⟩ = (0, ⟨[⟨nmA, 1⟩], [⟨1, data, false, true, 0⟩], []⟩) := by
  unfold doP stepP
  dsimp only
  rw [if_neg (show ¬ 60000 < data.length by omega)]
  rfl
theorem do_start (data : List UInt8) : doP ⟨[⟨nmA, 1⟩], [⟨1, data, false, true, 0⟩], []⟩ ⟨5, nmA, nmB, [], 0⟩ = (0, ⟨[⟨nmA, 1⟩, ⟨nmB, 2⟩], [⟨1, data, false, true, 0⟩, ⟨2, data, true, false, data.length⟩], []⟩) := by
  rfl
theorem do_trunc (data : List UInt8) : doP ⟨[⟨nmA, 1⟩, ⟨nmB, 2⟩], [⟨1, data, false, true, 0⟩, ⟨2, data, true, false, data.length⟩], []⟩ ⟨3, nmA, nmO, [], 0⟩ = (0, ⟨[⟨nmA, 1⟩, ⟨nmB, 2⟩], [⟨1, [], false, true, 0⟩, ⟨2, data, true, false, data.length⟩], []⟩) := by
  rfl
theorem do_append (data more : List UInt8) (h : data.length + more.length ≤ 60000) : doP ⟨[⟨nmA, 1⟩, ⟨nmB, 2⟩], [⟨1, data, false, true, 0⟩, ⟨2, data, true, false, data.length⟩], []⟩ ⟨2, nmA, nmO, more, 0⟩ = (0, ⟨[⟨nmA, 1⟩, ⟨nmB, 2⟩], [⟨1, data ++ more, false, true, 0⟩, ⟨2, data, true, false, data.length⟩], []⟩) := by
  have hf : fileP ⟨[⟨nmA, 1⟩, ⟨nmB, 2⟩], [⟨1, data, false, true, 0⟩, ⟨2, data, true, false, data.length⟩], []⟩ nmA = some ⟨1, data, false, true, 0⟩ := rfl
  have es : stepP ⟨[⟨nmA, 1⟩, ⟨nmB, 2⟩], [⟨1, data, false, true, 0⟩, ⟨2, data, true, false, data.length⟩], []⟩ ⟨2, nmA, nmO, more, 0⟩ = (0, ⟨[⟨nmA, 1⟩, ⟨nmB, 2⟩], [⟨1, data ++ more, false, true, 0⟩, ⟨2, data, true, false, data.length⟩], []⟩) := by
    unfold stepP
    simp only [hf]
    rw [if_neg (show ¬ 60000 < data.length + more.length by omega)]
    rfl
  unfold doP
  rw [es]
  rfl
theorem do_remove (data : List UInt8) : doP ⟨[⟨nmA, 1⟩, ⟨nmB, 2⟩], [⟨1, data, false, true, 0⟩, ⟨2, data, true, false, data.length⟩], []⟩ ⟨7, nmA, nmO, [], 0⟩ = (0, ⟨[⟨nmB, 2⟩], [⟨2, data, true, false, data.length⟩], []⟩) := by
  rfl
theorem do_replace (data new : List UInt8) (h : new.length ≤ 60000) : doP ⟨[⟨nmA, 1⟩, ⟨nmB, 2⟩], [⟨1, data, false, true, 0⟩, ⟨2, data, true, false, data.length⟩], []⟩ ⟨8, nmA, nmO, new, 0⟩ = (0, ⟨[⟨nmA, 3⟩, ⟨nmB, 2⟩], [⟨2, data, true, false, data.length⟩, ⟨3, new, false, true, 0⟩], []⟩) := by
  unfold doP stepP
  dsimp only
  rw [if_neg (show ¬ 60000 < new.length by omega)]
  rfl
/-- A copy under way: the name b, the file 2. -/
structure Cpy (d : PD) (data : List UInt8) (wh : Bool) (left : Int) : Prop where
  n : lookP d.N nmB = some 2
  f : getP d.F 2 = some ⟨2, data, true, wh, left⟩
  l : 0 ≤ left ∧ left ≤ data.length
  w : wh = true → left = 0
theorem cpy_run (data : List UInt8) (h : data.length ≤ 50000) (c : PC) (hc : c = ⟨3, nmA, nmO, [], 0⟩ ∨ c = ⟨2, nmA, nmO, [109, 111, 114, 101, 10], 0⟩ ∨ c = ⟨7, nmA, nmO, [], 0⟩ ∨ c = ⟨8, nmA, nmO, [110, 101, 119, 10], 0⟩) :
    (runP ⟨[], [], []⟩ [⟨1, nmA, nmO, data, 0⟩, ⟨5, nmA, nmB, [], 0⟩, c]).2 = [0, 0, 0] ∧ Cpy (runP ⟨[], [], []⟩ [⟨1, nmA, nmO, data, 0⟩, ⟨5, nmA, nmB, [], 0⟩, c]).1 data false data.length := by
  have e : runP ⟨[], [], []⟩ [⟨1, nmA, nmO, data, 0⟩, ⟨5, nmA, nmB, [], 0⟩, c] = ((doP ⟨[⟨nmA, 1⟩, ⟨nmB, 2⟩], [⟨1, data, false, true, 0⟩, ⟨2, data, true, false, data.length⟩], []⟩ c).2, [0, 0, (doP ⟨[⟨nmA, 1⟩, ⟨nmB, 2⟩], [⟨1, data, false, true, 0⟩, ⟨2, data, true, false, data.length⟩], []⟩ c).1]) := by
    unfold runP
    rw [do_create data (by omega)]
    unfold runP
    rw [do_start]
    rfl
  rw [e]
  have hl : (0 : Int) ≤ data.length ∧ (data.length : Int) ≤ data.length := by omega
  rcases hc with rfl | rfl | rfl | rfl
  · rw [do_trunc]; exact ⟨rfl, rfl, rfl, hl, by simp⟩
  · rw [do_append _ _ (by simp; omega)]; exact ⟨rfl, rfl, rfl, hl, by simp⟩
  · rw [do_remove]; exact ⟨rfl, rfl, rfl, hl, by simp⟩
  · rw [do_replace _ _ (by simp)]; exact ⟨rfl, rfl, rfl, hl, by simp⟩
theorem get_upd {F : List PF} {i : Int} {t : PF} (g : PF → PF) (hg : ∀ t, (g t).ino = t.ino) (h : getP F i = some t) : getP (updP F i g) i = some (g t) := by
  unfold getP updP at *
  induction F with
  | nil => simp at h
  | cons x F ih =>
    rw [List.find?_cons] at h
    rw [List.map_cons, List.find?_cons]
    by_cases e : x.ino = i
    · simp only [e, decide_true, Option.some.injEq] at h
      subst h
      simp [e, hg]
    · simp only [e, decide_false] at h
      simp only [e, if_false, decide_false]
      exact ih h
theorem look_mem {N : List Nm} {s : ByteArray} {i : Int} (h : lookP N s = some i) : ∃ n ∈ N, n.nm = s ∧ n.ino = i := by
  unfold lookP at h
  cases e : N.find? fun n => decide (n.nm = s) with
  | none => rw [e] at h; cases h
  | some n =>
    rw [e] at h
    have := List.find?_some e
    exact ⟨n, List.mem_of_find?_eq_some e, by simpa using this, by simpa using h⟩
theorem get_ino {F : List PF} {i : Int} {t : PF} (h : getP F i = some t) : t.ino = i := by
  have := List.find?_some h
  simpa using this
theorem get_purge {d : PD} {s : ByteArray} {i : Int} (h : lookP d.N s = some i) : getP (purgeP d).F i = getP d.F i := by
  obtain ⟨n, hn, _, hi⟩ := look_mem h
  unfold getP purgeP
  rw [List.find?_filter]
  congr 1
  funext t
  by_cases e : t.ino = i
  · have : goneP d.N d.O t = false := by
      unfold goneP
      have : (d.N.any fun n => n.ino == t.ino) = true := List.any_eq_true.2 ⟨n, hn, by rw [hi, e]; simp⟩
      rw [this]; simp
    simp [e, this]
  · simp [e]
/-- The next portion of the copy. -/
theorem cpy_more {d : PD} {data : List UInt8} {wh : Bool} {left n : Int} (h : Cpy d data wh left) (hn : 1 ≤ n) :
    (wh = true ∧ doP d ⟨6, nmB, nmO, [], n⟩ = (17, d)) ∨ (wh = false ∧ (doP d ⟨6, nmB, nmO, [], n⟩).1 = 0 ∧ Cpy (doP d ⟨6, nmB, nmO, [], n⟩).2 data (left - min n left == 0) (left - min n left)) := by
  have hf : fileP d nmB = some ⟨2, data, true, wh, left⟩ := by unfold fileP; rw [h.n]; exact h.f
  have hb : badP ⟨6, nmB, nmO, [], n⟩ = false := rfl
  have es : stepP d ⟨6, nmB, nmO, [], n⟩ = if wh then (17, d) else (0, ⟨d.N, updP d.F 2 fun t => ⟨t.ino, t.data, t.cp, t.left - min n t.left == 0, t.left - min n t.left⟩, d.O⟩) := by
    unfold stepP
    dsimp only
    rw [hf]
    simp [show ¬ n < 1 by omega]
  unfold doP
  rw [hb, es]
  dsimp only
  cases wh
  · right
    simp only [show ¬ ((6 : Int) < 1 ∨ (8 : Int) < 6) by omega, if_false, Bool.false_eq_true, if_true, true_and]
    obtain ⟨l0, l1⟩ := h.l
    refine ⟨h.n, ?_, by omega, by simp⟩
    exact (get_purge (d := ⟨d.N, updP d.F 2 fun t => ⟨t.ino, t.data, t.cp, t.left - min n t.left == 0, t.left - min n t.left⟩, d.O⟩) h.n).trans (get_upd (fun t => ⟨t.ino, t.data, t.cp, t.left - min n t.left == 0, t.left - min n t.left⟩) (fun _ => rfl) h.f)
  · left
    simp
theorem cpy_read {d : PD} {data : List UInt8} {wh : Bool} {left : Int} (h : Cpy d data wh left) : readP d 2 = some ⟨2, data.take (data.length - left.toNat), true, wh, 0⟩ := by
  unfold readP
  rw [h.f]
  rfl

/-- Renaming and what follows. -/
theorem do_rename (data : List UInt8) : doP ⟨[⟨nmA, 1⟩], [⟨1, data, false, true, 0⟩], []⟩ ⟨4, nmA, nmB, [], 0⟩ = (0, ⟨[⟨nmB, 1⟩], [⟨1, data, false, true, 0⟩], []⟩) := by rfl
theorem ren_run (data : List UInt8) (h : data.length ≤ 60000) : runP ⟨[], [], []⟩ [⟨1, nmA, nmO, data, 0⟩, ⟨4, nmA, nmB, [], 0⟩] = (⟨[⟨nmB, 1⟩], [⟨1, data, false, true, 0⟩], []⟩, [0, 0]) := by
  unfold runP
  rw [do_create data h]
  unfold runP
  rw [do_rename]
  rfl
theorem ren_hold (data : List UInt8) : holdP ⟨[⟨nmB, 1⟩], [⟨1, data, false, true, 0⟩], []⟩ [1] = ⟨[⟨nmB, 1⟩], [⟨1, data, false, true, 0⟩], [1]⟩ := by rfl
theorem ren_free (data : List UInt8) : runP ⟨[⟨nmB, 1⟩], [⟨1, data, false, true, 0⟩], []⟩ [⟨7, nmB, nmO, [], 0⟩, ⟨1, nmC, nmO, [122, 10], 0⟩] = (⟨[⟨nmC, 1⟩], [⟨1, [122, 10], false, true, 0⟩], []⟩, [0, 0]) := by rfl
theorem ren_held (data : List UInt8) : runP ⟨[⟨nmB, 1⟩], [⟨1, data, false, true, 0⟩], [1]⟩ [⟨7, nmB, nmO, [], 0⟩, ⟨1, nmC, nmO, [122, 10], 0⟩] = (⟨[⟨nmC, 2⟩], [⟨1, data, false, true, 0⟩, ⟨2, [122, 10], false, true, 0⟩], [1]⟩, [0, 0]) := by rfl
theorem ren_left (data : List UInt8) : holdP ⟨[⟨nmC, 2⟩], [⟨1, data, false, true, 0⟩, ⟨2, [122, 10], false, true, 0⟩], [1]⟩ [] = ⟨[⟨nmC, 2⟩], [⟨2, [122, 10], false, true, 0⟩], []⟩ := by rfl
theorem ren_read1 : readP ⟨[⟨nmC, 1⟩], [⟨1, [122, 10], false, true, 0⟩], []⟩ 1 = some ⟨1, [122, 10], false, true, 0⟩ := by rfl
theorem ren_read2 (data : List UInt8) : readP ⟨[⟨nmC, 2⟩], [⟨1, data, false, true, 0⟩, ⟨2, [122, 10], false, true, 0⟩], [1]⟩ 1 = some ⟨1, data, false, true, 0⟩ := by
  have e : readP ⟨[⟨nmC, 2⟩], [⟨1, data, false, true, 0⟩, ⟨2, [122, 10], false, true, 0⟩], [1]⟩ 1 = some (seenP ⟨1, data, false, true, 0⟩) := rfl
  rw [e]
  unfold seenP
  simp
theorem ren_none : readP ⟨[⟨nmC, 2⟩], [⟨2, [122, 10], false, true, 0⟩], []⟩ 1 = none := by rfl
end Go.Proofs.YtldopkdjoejhbaaDoor
