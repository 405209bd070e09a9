/- What a change does to a directory, as a plain function; what every change keeps. No program in sight. -/
import Derived.Test.YtldopkdjoejhbaaDoorFsDo
namespace Go.Proofs.YtldopkdjoejhbaaDoor
open Go.RowKit

/-- A file, a directory and a change as plain data. -/
structure PF where
  ino : Int
  data : List UInt8
  cp : Bool
  wh : Bool
  left : Int
structure PD where
  N : List Nm
  F : List PF
  O : List Int
structure PC where
  kind : Int
  name : ByteArray
  dst : ByteArray
  data : List UInt8
  n : Int
def Fi.p (t : Fi) : PF := ⟨t.ino, t.data, t.cp, t.wh, t.left⟩
def FS.p (fs : FS) : PD := ⟨fs.N, fs.F.map Fi.p, fs.O⟩
def Ch.p (c : Ch) : PC := ⟨c.kind, c.name, c.dst, c.data, c.n⟩
/-- The inode of a name. -/
def lookP (N : List Nm) (s : ByteArray) : Option Int := (N.find? fun n => decide (n.nm = s)).map (·.ino)
/-- The file with an inode. -/
def getP (F : List PF) (i : Int) : Option PF := F.find? fun t => decide (t.ino = i)
def fileP (d : PD) (s : ByteArray) : Option PF := (lookP d.N s).bind (getP d.F)
def hasP (N : List Nm) (s : ByteArray) : Bool := (lookP N s).isSome
/-- The least inode that no file has. -/
def gapP : List Int → Int → Int
  | [], k => k
  | i :: r, k => if i = k then gapP r (k + 1) else k
def freeP (F : List PF) : Int := gapP (F.map (·.ino)) 1
def addP (F : List PF) (t : PF) : List PF := F.takeWhile (fun x => decide (x.ino < t.ino)) ++ t :: F.dropWhile fun x => decide (x.ino < t.ino)
def updP (F : List PF) (i : Int) (g : PF → PF) : List PF := F.map fun t => if t.ino = i then g t else t
def linkP (N : List Nm) (s : ByteArray) (i : Int) : List Nm := putName (rmName N s) ⟨s, i⟩
def goneP (N : List Nm) (O : List Int) (t : PF) : Bool := !O.contains t.ino && !N.any fun n => n.ino == t.ino
def purgeP (d : PD) : PD := ⟨d.N, d.F.filter fun t => !goneP d.N d.O t, d.O⟩
/-- What the change's method does. -/
def stepP (d : PD) (c : PC) : Int × PD :=
  if c.kind = 1 then (if hasP d.N c.name then (11, d) else if 40 ≤ d.N.length then (4, d) else if 60000 < c.data.length then (3, d) else (0, ⟨linkP d.N c.name (freeP d.F), addP d.F ⟨freeP d.F, c.data, false, true, 0⟩, d.O⟩))
  else if c.kind = 7 then (if hasP d.N c.name then (0, ⟨rmName d.N c.name, d.F, d.O⟩) else (12, d))
  else if c.kind = 8 then (if !hasP d.N c.name then (12, d) else if 60000 < c.data.length then (3, d) else (0, ⟨linkP d.N c.name (freeP d.F), addP d.F ⟨freeP d.F, c.data, false, true, 0⟩, d.O⟩))
  else match fileP d c.name with
    | none => (12, d)
    | some t =>
      if c.kind = 2 then (if t.cp then (13, d) else if 60000 < t.data.length + c.data.length then (3, d) else (0, ⟨d.N, updP d.F t.ino fun t => ⟨t.ino, t.data ++ c.data, t.cp, t.wh, t.left⟩, d.O⟩))
      else if c.kind = 3 then (if t.cp then (13, d) else (0, ⟨d.N, updP d.F t.ino fun t => ⟨t.ino, [], t.cp, t.wh, t.left⟩, d.O⟩))
      else if c.kind = 4 then (if c.dst = c.name then (17, d) else (0, ⟨linkP (rmName d.N c.name) c.dst t.ino, d.F, d.O⟩))
      else if c.kind = 5 then (if t.cp && !t.wh then (13, d) else if hasP d.N c.dst then (11, d) else if 40 ≤ d.N.length then (4, d) else (0, ⟨linkP d.N c.dst (freeP d.F), addP d.F ⟨freeP d.F, t.data, true, false, t.data.length⟩, d.O⟩))
      else (if !t.cp || t.wh then (17, d) else if c.n < 1 then (2, d) else (0, ⟨d.N, updP d.F t.ino fun t => ⟨t.ino, t.data, t.cp, t.left - min c.n t.left == 0, t.left - min c.n t.left⟩, d.O⟩))
def badP (c : PC) : Bool := !vld c.name || ((c.kind == 4 || c.kind == 5) && !vld c.dst)
/-- Do. -/
def doP (d : PD) (c : PC) : Int × PD :=
  if c.kind < 1 ∨ 8 < c.kind then (2, d) else if badP c then (6, d) else
  if (stepP d c).1 = 0 then (0, purgeP (stepP d c).2) else ((stepP d c).1, d)

/-- What every change keeps. -/
structure Inv (fs : FS) : Prop where
  n : NSrt fs.N
  f : FSrt fs.F
  a : ∀ n ∈ fs.N, ∃ t ∈ fs.F, t.ino = n.ino
  v : ∀ n ∈ fs.N, vld n.nm = true
  p : ∀ t ∈ fs.F, 1 ≤ t.ino
  d : ∀ t ∈ fs.F, t.data.length ≤ 60000
  l : ∀ t ∈ fs.F, 0 ≤ t.left ∧ t.left ≤ t.data.length
  w : ∀ t ∈ fs.F, t.wh = true → t.left = 0
  c : ∀ t ∈ fs.F, t.cp = true ∨ t.wh = true
  h : ∀ t ∈ fs.F, (∃ n ∈ fs.N, n.ino = t.ino) ∨ t.ino ∈ fs.O
  o : fs.O.Pairwise (· < ·)
  b : fs.N.length ≤ 40

theorem nodup_sub : ∀ (a b : List Int), a.Nodup → (∀ x ∈ a, x ∈ b) → a.length ≤ b.length
  | [], _, _, _ => by simp
  | x :: a, b, hn, hs => by
    rw [List.nodup_cons] at hn
    have hx := hs x (by simp)
    have h1 := nodup_sub a (b.erase x) hn.2 (fun y hy => by
      have hne : y ≠ x := fun e => hn.1 (e ▸ hy)
      exact (List.mem_erase_of_ne hne).2 (hs y (by simp [hy])))
    rw [List.length_erase_of_mem hx] at h1
    have : 0 < b.length := List.length_pos_of_mem hx
    simp only [List.length_cons]
    omega
theorem Inv.count {fs : FS} (h : Inv fs) : fs.F.length ≤ 40 + fs.O.length := by
  have hn : (fs.F.map (·.ino)).Nodup := by
    rw [List.nodup_iff_pairwise_ne, List.pairwise_map]
    exact h.f.imp fun h => by omega
  have h1 := nodup_sub (fs.F.map (·.ino)) (fs.N.map (·.ino) ++ fs.O) hn (fun x hx => by
    obtain ⟨t, ht, rfl⟩ := List.mem_map.1 hx
    rcases h.h t ht with ⟨n, hn, e⟩ | h'
    · exact List.mem_append.2 (.inl (List.mem_map.2 ⟨n, hn, e⟩))
    · exact List.mem_append.2 (.inr h'))
  rw [List.length_append, List.length_map, List.length_map] at h1
  have := h.b
  omega
theorem Inv.dinv {fs : FS} (h : Inv fs) (ho : fs.O.length ≤ 800) : DInv fs :=
  ⟨h.n, h.f, h.a, fun t ht => by have h1 := h.l t ht; have h2 := h.d t ht; omega, by have := h.b; omega, by have := h.count; omega, by omega⟩
theorem Inv.new : Inv ⟨[], [], []⟩ := ⟨.nil, .nil, by simp, by simp, by simp, by simp, by simp, by simp, by simp, by simp, .nil, by simp⟩
end Go.Proofs.YtldopkdjoejhbaaDoor
