/- What a change does to a directory, as a plain function; what every change keeps. No program in sight. What a change's method does is what the plain function says, and it keeps the invariant. No program in sight. -/
import Derived.Test.YtgegmefnbkcdkaaDoorFsDo
namespace Go.Proofs.YtgegmefnbkcdkaaDoor
open Go.RowKit
/-- A file, a directory and a change as plain data. -/
structure PF where
  ino : Int
  data : List UInt8
  cp : Bool
  wh : Bool
  left : Int
structure PD where
  N : List Nm
  F : List PF
  O : List Int
structure PC where
  kind : Int
  name : ByteArray
  dst : ByteArray
  data : List UInt8
  n : Int
def Fi.p (t : Fi) : PF := ⟨t.ino, t.data, t.cp, t.wh, t.left⟩
def FS.p (fs : FS) : PD := ⟨fs.N, fs.F.map Fi.p, fs.O⟩
def Ch.p (c : Ch) : PC := ⟨c.kind, c.name, c.dst, c.data, c.n⟩
/-- The inode of a name. -/
def lookP (N : List Nm) (s : ByteArray) : Option Int := (N.find? fun n => decide (n.nm = s)).map (·.ino)
/-- The file with an inode. -/
def getP (F : List PF) (i : Int) : Option PF := F.find? fun t => decide (t.ino = i)
def fileP (d : PD) (s : ByteArray) : Option PF := (lookP d.N s).bind (getP d.F)
def hasP (N : List Nm) (s : ByteArray) : Bool := (lookP N s).isSome
/-- The least inode that no file has. -/
def gapP : List Int → Int → Int
  | [], k => k
  | i :: r, k => if i = k then gapP r (k + 1) else k
def freeP (F : List PF) : Int := gapP (F.map (·.ino)) 1
def addP (F : List PF) (t : PF) : List PF := F.takeWhile (fun x => decide (x.ino < t.ino)) ++ t :: F.dropWhile fun x => decide (x.ino < t.ino)
def updP (F : List PF) (i : Int) (g : PF → PF) : List PF := F.map fun t => if t.ino = i then g t else t
def linkP (N : List Nm) (s : ByteArray) (i : Int) : List Nm := putName (rmName N s) ⟨s, i⟩
def goneP (N : List Nm) (O : List Int) (t : PF) : Bool := !O.contains t.ino && !N.any fun n => n.ino == t.ino
def purgeP (d : PD) : PD := ⟨d.N, d.F.filter fun t => !goneP d.N d.O t, d.O⟩
/-- What the change's method does. -/
def stepP (d : PD) (c : PC) : Int × PD :=
  if c.kind = 1 then (if hasP d.N c.name then (11, d) else if 40 ≤ d.N.length then (4, d) else if 60000 < c.data.length then (3, d) else (0, ⟨linkP d.N c.name (freeP d.F), addP d.F ⟨freeP d.F, c.data, false, true, 0⟩, d.O⟩))
  else if c.kind = 7 then (if hasP d.N c.name then (0, ⟨rmName d.N c.name, d.F, d.O⟩) else (12, d))
  else if c.kind = 8 then (if !hasP d.N c.name then (12, d) else if 60000 < c.data.length then (3, d) else (0, ⟨linkP d.N c.name (freeP d.F), addP d.F ⟨freeP d.F, c.data, false, true, 0⟩, d.O⟩))
  else match fileP d c.name with
    | none => (12, d)
    | some t =>
      if c.kind = 2 then (if t.cp then (13, d) else if 60000 < t.data.length + c.data.length then (3, d) else (0, ⟨d.N, updP d.F t.ino fun t => ⟨t.ino, t.data ++ c.data, t.cp, t.wh, t.left⟩, d.O⟩))
      else if c.kind = 3 then (if t.cp then (13, d) else (0, ⟨d.N, updP d.F t.ino fun t => ⟨t.ino, [], t.cp, t.wh, t.left⟩, d.O⟩))
      else if c.kind = 4 then (if c.dst = c.name then (17, d) else (0, ⟨linkP (rmName d.N c.name) c.dst t.ino, d.F, d.O⟩))
      else if c.kind = 5 then (if t.cp && !t.wh then (13, d) else if hasP d.N c.dst then (11, d) else if 40 ≤ d.N.length then (4, d) else (0, ⟨linkP d.N c.dst (freeP d.F), addP d.F ⟨freeP d.F, t.data, true, false, t.data.length⟩, d.O⟩))
      else (if !t.cp || t.wh then (17, d) else if c.n < 1 then (2, d) else (0, ⟨d.N, updP d.F t.ino fun t => ⟨t.ino, t.data, t.cp, t.left - min c.n t.left == 0, t.left - min c.n t.left⟩, d.O⟩))
def badP (c : PC) : Bool := !vld c.name || ((c.kind == 4 || c.kind == 5) && !vld c.dst)
/-- Do. -/
def doP (d : PD) (c : PC) : Int × PD :=
  if c.kind < 1 ∨ 8 < c.kind then (2, d) else if badP c then (6, d) else
  if (stepP d c).1 = 0 then (0, purgeP (stepP d c).2) else ((stepP d c).1, d)
/-- What every change keeps. -/
structure Inv (fs : FS) : Prop where
  n : NSrt fs.N
  f : FSrt fs.F
  a : ∀ n ∈ fs.N, ∃ t ∈ fs.F, t.ino = n.ino
  v : ∀ n ∈ fs.N, vld n.nm = true
  p : ∀ t ∈ fs.F, 1 ≤ t.ino
  d : ∀ t ∈ fs.F, t.data.length ≤ 60000
  l : ∀ t ∈ fs.F, 0 ≤ t.left ∧ t.left ≤ t.data.length
  w : ∀ t ∈ fs.F, t.wh = true → t.left = 0
  c : ∀ t ∈ fs.F, t.cp = true ∨ t.wh = true
  h : ∀ t ∈ fs.F, (∃ n ∈ fs.N, n.ino = t.ino) ∨ t.ino ∈ fs.O
  o : fs.O.Pairwise (· < ·)
  b : fs.N.length ≤ 40
theorem nodup_sub : ∀ (a b : List Int), a.Nodup → (∀ x ∈ a, x ∈ b) → a.length ≤ b.length
  | [], _, _, _ => by simp
  | x :: a, b, hn, hs => by
    rw [List.nodup_cons] at hn
    have hx := hs x (by simp)
    have h1 := nodup_sub a (b.erase x) hn.2 (fun y hy => by
      have hne : y ≠ x := fun e => hn.1 (e ▸ hy)
      exact (List.mem_erase_of_ne hne).2 (hs y (by simp [hy])))
    rw [List.length_erase_of_mem hx] at h1
    have : 0 < b.length := List.length_pos_of_mem hx
    simp only [List.length_cons]
    omega
theorem Inv.count {fs : FS} (h : Inv fs) : fs.F.length ≤ 40 + fs.O.length := by
  have hn : (fs.F.map (·.ino)).Nodup := by
    rw [List.nodup_iff_pairwise_ne, List.pairwise_map]
    exact h.f.imp fun h => by omega
  have h1 := nodup_sub (fs.F.map (·.ino)) (fs.N.map (·.ino) ++ fs.O) hn (fun x hx => by
    obtain ⟨t, ht, rfl⟩ := List.mem_map.1 hx
    rcases h.h t ht with ⟨n, hn, e⟩ | h'
    · exact List.mem_append.2 (.inl (List.mem_map.2 ⟨n, hn, e⟩))
    · exact List.mem_append.2 (.inr h'))
  rw [List.length_append, List.length_map, List.length_map] at h1
  have := h.b
  omega
theorem Inv.dinv {fs : FS} (h : Inv fs) (ho : fs.O.length ≤ 800) : DInv fs :=
  ⟨h.n, h.f, h.a, fun t ht => by have h1 := h.l t ht; have h2 := h.d t ht; omega, by have := h.b; omega, by have := h.count; omega, by omega⟩
theorem Inv.new : Inv ⟨[], [], []⟩ := ⟨.nil, .nil, by simp, by simp, by simp, by simp, by simp, by simp, by simp, by simp, .nil, by simp⟩
end Go.Proofs.YtgegmefnbkcdkaaDoor
namespace Go.Proofs.YtgegmefnbkcdkaaDoor
open Go.RowKit
theorem lb_tri {a b : ByteArray} (h : ¬ lb a < lb b) (h2 : a ≠ b) : lb b < lb a :=
  Std.lt_of_le_of_ne (List.not_lt.1 h) (fun e => h2 (lb_inj e).symm)
theorem lb_irr (a : ByteArray) : ¬ lb a < lb a := List.lt_irrefl _
theorem tw_take {α : Type} (p : α → Bool) : ∀ (L : List α) (k : Nat), k ≤ L.length → (∀ j, (hj : j < L.length) → j < k → p L[j] = true) → (∀ h : k < L.length, p L[k] = false) → L.takeWhile p = L.take k ∧ L.dropWhile p = L.drop k
  | [], k, _, _, _ => by simp
  | x :: L, 0, _, _, h2 => by
    have := h2 (by simp)
    simp at this
    simp [this]
  | x :: L, k + 1, hk, h1, h2 => by
    have hx := h1 0 (by simp) (by omega)
    simp only [List.getElem_cons_zero] at hx
    have ih := tw_take p L k (by simpa using hk) (fun j hj hjk => by
      have := h1 (j + 1) (by simpa using hj) (by omega)
      simpa using this) (fun h => by
      have := h2 (by simpa using h)
      simpa using this)
    simp [hx, ih.1, ih.2]
theorem tw_mem {α : Type} (p : α → Bool) : ∀ {L : List α} {x : α}, x ∈ L.takeWhile p → p x = true
  | [], _, h => by cases h
  | y :: L, x, h => by
    rw [List.takeWhile_cons] at h
    by_cases hy : p y = true
    · rw [if_pos hy] at h
      rcases List.mem_cons.1 h with rfl | h
      · exact hy
      · exact tw_mem p h
    · rw [if_neg hy] at h; cases h
section
variable {N : List Nm} {s : ByteArray} {i : Nat}
theorem nsrt_lt (h : NSrt N) {i j : Nat} (hi : i < N.length) (hj : j < N.length) (hij : i < j) : lb N[i].nm < lb N[j].nm := List.pairwise_iff_getElem.1 h i j hi hj hij
theorem nsrt_inj (h : NSrt N) {i j : Nat} (hi : i < N.length) (hj : j < N.length) (e : N[i].nm = N[j].nm) : i = j := by
  rcases Nat.lt_trichotomy i j with hlt | rfl | hgt
  · have := nsrt_lt h hi hj hlt; rw [e] at this; exact absurd this (lb_irr _)
  · rfl
  · have := nsrt_lt h hj hi hgt; rw [e] at this; exact absurd this (lb_irr _)
theorem look_none (h : ∀ n ∈ N, n.nm ≠ s) : lookP N s = none := by
  unfold lookP
  rw [List.find?_eq_none.2 (fun n hn => by simp [h n hn])]
  rfl
theorem look_at (h : NSrt N) (hi : i < N.length) (e : N[i].nm = s) : lookP N s = some N[i].ino := by
  unfold lookP
  have : N.find? (fun n => decide (n.nm = s)) = some N[i] := by
    rw [List.find?_eq_some_iff_append]
    refine ⟨by simp [e], N.take i, N.drop (i + 1), by rw [← List.drop_eq_getElem_cons hi, List.take_append_drop], fun a ha => ?_⟩
    obtain ⟨j, hj, rfl⟩ := List.getElem_of_mem ha
    rw [List.length_take] at hj
    rw [List.getElem_take]
    have hne : N[j].nm ≠ s := fun e2 => by
      have := nsrt_inj h (by omega) hi (e2.trans e.symm)
      omega
    simp [hne]
  rw [this]; rfl
theorem has_yes (h : ∃ n ∈ N, n.nm = s) : hasP N s = true := by
  unfold hasP lookP
  rw [Option.isSome_map, List.find?_isSome]
  obtain ⟨n, hn, e⟩ := h
  exact ⟨n, hn, by simp [e]⟩
theorem has_no (h : ∀ n ∈ N, n.nm ≠ s) : hasP N s = false := by unfold hasP; rw [look_none h]; rfl
theorem rm_none' (h : ∀ n ∈ N, n.nm ≠ s) : rmName N s = N := by
  unfold rmName
  rw [List.filter_eq_self]
  intro n hn
  simp [h n hn]
theorem mem_rm {n : Nm} : n ∈ rmName N s ↔ n ∈ N ∧ n.nm ≠ s := by
  unfold rmName
  rw [List.mem_filter]
  simp
theorem mem_put {t n : Nm} : n ∈ putName N t ↔ n = t ∨ n ∈ N := by
  unfold putName
  rw [List.mem_append, List.mem_cons]
  have h := List.takeWhile_append_dropWhile (p := fun n : Nm => decide (lb n.nm < lb t.nm)) (l := N)
  constructor
  · rintro (h1 | h1 | h1)
    · exact .inr (by rw [← h]; exact List.mem_append.2 (.inl h1))
    · exact .inl h1
    · exact .inr (by rw [← h]; exact List.mem_append.2 (.inr h1))
  · rintro (h1 | h1)
    · exact .inr (.inl h1)
    · rw [← h] at h1
      rcases List.mem_append.1 h1 with h2 | h2
      · exact .inl h2
      · exact .inr (.inr h2)
theorem nsrt_put {t : Nm} (h : NSrt N) (hn : ∀ n ∈ N, n.nm ≠ t.nm) : NSrt (putName N t) := by
  unfold putName NSrt
  have e := List.takeWhile_append_dropWhile (p := fun n : Nm => decide (lb n.nm < lb t.nm)) (l := N)
  have h' := h
  rw [← e] at h'
  obtain ⟨hA, hB, hAB⟩ := List.pairwise_append.1 h'
  have hm : ∀ n ∈ N.dropWhile (fun n => decide (lb n.nm < lb t.nm)), n ∈ N := fun n hn' => by rw [← e]; exact List.mem_append.2 (.inr hn')
  have hlt : ∀ n ∈ N.takeWhile (fun n => decide (lb n.nm < lb t.nm)), lb n.nm < lb t.nm := fun n hn' => by
    have := tw_mem _ hn'
    simpa using this
  have hgt : ∀ n ∈ N.dropWhile (fun n => decide (lb n.nm < lb t.nm)), lb t.nm < lb n.nm := by
    intro n hn'
    cases hd : N.dropWhile (fun n => decide (lb n.nm < lb t.nm)) with
    | nil => rw [hd] at hn'; cases hn'
    | cons x r =>
      have hx : ¬ lb x.nm < lb t.nm := by
        have := List.head_dropWhile_not (fun n : Nm => decide (lb n.nm < lb t.nm)) (l := N) (by rw [hd]; simp)
        simp only [hd, List.head_cons] at this
        simpa using this
      have hxt : lb t.nm < lb x.nm := lb_tri hx (hn x (hm x (by rw [hd]; simp)))
      rw [hd] at hn' hB
      rcases List.mem_cons.1 hn' with rfl | hr
      · exact hxt
      · exact List.lt_trans hxt ((List.pairwise_cons.1 hB).1 n hr)
  refine List.pairwise_append.2 ⟨hA, List.pairwise_cons.2 ⟨hgt, hB⟩, fun a ha b hb => ?_⟩
  rcases List.mem_cons.1 hb with rfl | hb
  · exact hlt a ha
  · exact hAB a ha b hb
theorem link_none {ino : Int} (h : ∀ n ∈ N, n.nm ≠ s) : linkP N s ino = putName N ⟨s, ino⟩ := by unfold linkP; rw [rm_none' h]
theorem link_set {x : Int} (h : NSrt N) (hi : i < N.length) (e : N[i].nm = s) : N.set i ⟨s, x⟩ = linkP N s x := by
  have e1 : N = N.take i ++ N[i] :: N.drop (i + 1) := by rw [← List.drop_eq_getElem_cons hi, List.take_append_drop]
  have hA : ∀ n ∈ N.take i, lb n.nm < lb s := fun n hn => by
    obtain ⟨j, hj, rfl⟩ := List.getElem_of_mem hn
    rw [List.length_take] at hj
    rw [List.getElem_take, ← e]
    exact nsrt_lt h (by omega) hi (by omega)
  have hB : ∀ n ∈ N.drop (i + 1), lb s < lb n.nm := fun n hn => by
    obtain ⟨j, hj, rfl⟩ := List.getElem_of_mem hn
    rw [List.length_drop] at hj
    rw [List.getElem_drop, ← e]
    exact nsrt_lt h hi (by omega) (by omega)
  have hr : rmName N s = N.take i ++ N.drop (i + 1) := by
    unfold rmName
    conv => lhs; rw [e1]
    rw [List.filter_append, List.filter_cons, if_neg (by simp [e])]
    rw [List.filter_eq_self.2 (fun n hn => by
      have : n.nm ≠ s := fun e2 => by have := hA n hn; rw [e2] at this; exact lb_irr _ this
      simp [this]), List.filter_eq_self.2 (fun n hn => by
      have : n.nm ≠ s := fun e2 => by have := hB n hn; rw [e2] at this; exact lb_irr _ this
      simp [this])]
  unfold linkP
  rw [hr]
  unfold putName
  have a1 : ∀ n ∈ N.take i, decide (lb n.nm < lb s) = true := fun n hn => by simpa using hA n hn
  have a2 : (N.drop (i + 1)).takeWhile (fun n => decide (lb n.nm < lb s)) = [] ∧ (N.drop (i + 1)).dropWhile (fun n => decide (lb n.nm < lb s)) = N.drop (i + 1) := by
    cases hd : N.drop (i + 1) with
    | nil => simp
    | cons x r =>
      have := hB x (by rw [hd]; simp)
      have hx : ¬ lb x.nm < lb s := fun h' => lb_irr _ (List.lt_trans h' this)
      rw [List.takeWhile_cons, List.dropWhile_cons, decide_eq_false hx]
      simp
  show N.set i ⟨s, x⟩ = (N.take i ++ N.drop (i + 1)).takeWhile (fun n => decide (lb n.nm < lb s)) ++ ⟨s, x⟩ :: (N.take i ++ N.drop (i + 1)).dropWhile (fun n => decide (lb n.nm < lb s))
  rw [List.takeWhile_append_of_pos a1, List.dropWhile_append_of_pos a1, a2.1, a2.2, List.append_nil, List.set_eq_take_append_cons_drop, if_pos hi]
theorem rm_lt (hi : i < N.length) (e : N[i].nm = s) : (rmName N s).length < N.length := by
  unfold rmName
  refine Nat.lt_of_le_of_ne (List.length_filter_le _ _) (fun he => ?_)
  have := List.length_filter_eq_length_iff.1 he N[i] (List.getElem_mem hi)
  simp [e] at this
end
section
variable {F : List Fi} {k : Nat}
theorem fsrt_lt (h : FSrt F) {i j : Nat} (hi : i < F.length) (hj : j < F.length) (hij : i < j) : F[i].ino < F[j].ino := List.pairwise_iff_getElem.1 h i j hi hj hij
theorem fsrt_inj (h : FSrt F) {i j : Nat} (hi : i < F.length) (hj : j < F.length) (e : F[i].ino = F[j].ino) : i = j := by
  rcases Nat.lt_trichotomy i j with hlt | rfl | hgt
  · have := fsrt_lt h hi hj hlt; omega
  · rfl
  · have := fsrt_lt h hj hi hgt; omega
theorem get_at (h : FSrt F) (hk : k < F.length) : getP (F.map Fi.p) F[k].ino = some F[k].p := by
  unfold getP
  rw [List.find?_map]
  have : F.find? ((fun t : PF => decide (t.ino = F[k].ino)) ∘ Fi.p) = some F[k] := by
    rw [List.find?_eq_some_iff_append]
    refine ⟨by simp [Fi.p], F.take k, F.drop (k + 1), by rw [← List.drop_eq_getElem_cons hk, List.take_append_drop], fun a ha => ?_⟩
    obtain ⟨j, hj, rfl⟩ := List.getElem_of_mem ha
    rw [List.length_take] at hj
    rw [List.getElem_take]
    have hne : F[j].ino ≠ F[k].ino := fun e2 => by
      have := fsrt_inj h (by omega) hk e2
      omega
    simp [Fi.p, hne]
  rw [this]; rfl
theorem gap_eq : ∀ (l : List Int) (k : Nat) (m : Int), k ≤ l.length → (∀ j, (hj : j < l.length) → j < k → l[j] = m + j) → (∀ h : k < l.length, l[k] ≠ m + k) → gapP l m = m + k
  | [], k, m, hk, _, _ => by simp at hk; subst hk; simp [gapP]
  | x :: l, 0, m, _, _, h2 => by
    have := h2 (by simp)
    simp at this
    simp [gapP, this]
  | x :: l, k + 1, m, hk, h1, h2 => by
    have hx := h1 0 (by simp) (by omega)
    simp at hx
    have ih := gap_eq l k (m + 1) (by simpa using hk) (fun j hj hjk => by
      have := h1 (j + 1) (by simpa using hj) (by omega)
      simp only [List.getElem_cons_succ] at this
      omega) (fun h => by
      have := h2 (by simpa using h)
      simp only [List.getElem_cons_succ] at this
      omega)
    simp only [gapP, hx, if_true, ih]
    omega
theorem free_gap (h : Gap F k) : freeP (F.map Fi.p) = (k : Int) + 1 := by
  unfold freeP
  rw [List.map_map]
  have := gap_eq (F.map ((fun t : PF => t.ino) ∘ Fi.p)) k 1 (by simpa using h.1) (fun j hj hjk => by
    have := h.2.1 j (by simpa using hj) hjk
    simp only [List.getElem_map, Function.comp, Fi.p]
    omega) (fun hk => by
    have := h.2.2 (by simpa using hk)
    simp only [List.getElem_map, Function.comp, Fi.p]
    omega)
  rw [this]; omega
theorem gap_gt (h : Gap F k) (hs : FSrt F) (hp : ∀ t ∈ F, 1 ≤ t.ino) : ∀ j, (hj : j < F.length) → k ≤ j → (k : Int) + 1 < F[j].ino := fun j hj hkj => by
  have hk : k < F.length := by omega
  have h0 : (k : Int) + 1 < F[k].ino := by
    have hne := h.2.2 hk
    rcases Nat.eq_zero_or_pos k with h0 | h0
    · subst h0
      have := hp F[0] (List.getElem_mem hk)
      omega
    · have h1 := h.2.1 (k - 1) (by omega) (by omega)
      have h2 := fsrt_lt hs (show k - 1 < F.length by omega) hk (by omega)
      omega
  rcases Nat.lt_or_ge k j with hlt | hge
  · have := fsrt_lt hs hk hj hlt
    omega
  · obtain rfl : j = k := by omega
    exact h0
theorem gap_split (h : Gap F k) (hs : FSrt F) (hp : ∀ t ∈ F, 1 ≤ t.ino) : F.takeWhile (fun x => decide (x.ino < (k : Int) + 1)) = F.take k ∧ F.dropWhile (fun x => decide (x.ino < (k : Int) + 1)) = F.drop k :=
  tw_take _ F k h.1 (fun j hj hjk => by
    have := h.2.1 j hj hjk
    exact decide_eq_true (by omega)) (fun hk => decide_eq_false (by
    have := gap_gt h hs hp k hk (Nat.le_refl _)
    omega))
theorem put_add (h : Gap F k) (hs : FSrt F) (hp : ∀ t ∈ F, 1 ≤ t.ino) (t : Fi) : (putFile F k t).map Fi.p = addP (F.map Fi.p) ⟨(k : Int) + 1, t.data, t.cp, t.wh, t.left⟩ := by
  obtain ⟨h1, h2⟩ := gap_split h hs hp
  unfold putFile addP
  rw [List.takeWhile_map, List.dropWhile_map]
  have e1 : F.takeWhile ((fun x : PF => decide (x.ino < (k : Int) + 1)) ∘ Fi.p) = F.take k := h1
  have e2 : F.dropWhile ((fun x : PF => decide (x.ino < (k : Int) + 1)) ∘ Fi.p) = F.drop k := h2
  show _ = (F.takeWhile ((fun x : PF => decide (x.ino < (k : Int) + 1)) ∘ Fi.p)).map Fi.p ++ _ :: (F.dropWhile ((fun x : PF => decide (x.ino < (k : Int) + 1)) ∘ Fi.p)).map Fi.p
  rw [e1, e2, List.map_append, List.map_cons]
  rfl
theorem fsrt_put (h : Gap F k) (hs : FSrt F) (hp : ∀ t ∈ F, 1 ≤ t.ino) (t : Fi) : FSrt (putFile F k t) := by
  unfold putFile FSrt
  have e : F = F.take k ++ F.drop k := (List.take_append_drop k F).symm
  have h' := hs
  unfold FSrt at h'
  rw [e] at h'
  obtain ⟨hA, hB, hAB⟩ := List.pairwise_append.1 h'
  have hlt : ∀ a ∈ F.take k, a.ino < (k : Int) + 1 := fun a ha => by
    obtain ⟨j, hj, rfl⟩ := List.getElem_of_mem ha
    rw [List.length_take] at hj
    rw [List.getElem_take, h.2.1 j (by omega) (by omega)]
    omega
  have hgt : ∀ a ∈ F.drop k, (k : Int) + 1 < a.ino := fun a ha => by
    obtain ⟨j, hj, rfl⟩ := List.getElem_of_mem ha
    rw [List.length_drop] at hj
    rw [List.getElem_drop]
    exact gap_gt h hs hp (k + j) (by omega) (by omega)
  refine List.pairwise_append.2 ⟨hA, List.pairwise_cons.2 ⟨hgt, hB⟩, fun a ha b hb => ?_⟩
  rcases List.mem_cons.1 hb with rfl | hb
  · exact hlt a ha
  · exact hAB a ha b hb
theorem mem_putF {t x : Fi} : x ∈ putFile F k t ↔ x = ⟨(k : Int) + 1, t.dv, t.data, t.cp, t.wh, t.left⟩ ∨ x ∈ F := by
  unfold putFile
  rw [List.mem_append, List.mem_cons]
  have e := List.take_append_drop k F
  constructor
  · rintro (h | h | h)
    · exact .inr (List.mem_of_mem_take h)
    · exact .inl h
    · exact .inr (List.mem_of_mem_drop h)
  · rintro (h | h)
    · exact .inr (.inl h)
    · rw [← e] at h
      rcases List.mem_append.1 h with h | h
      · exact .inl h
      · exact .inr (.inr h)
theorem set_upd (hs : FSrt F) (hk : k < F.length) (g : PF → PF) (a : Fi) (ha : a.p = g F[k].p) : (F.set k a).map Fi.p = updP (F.map Fi.p) F[k].ino g := by
  unfold updP
  apply List.ext_getElem
  · simp
  · intro j h1 h2
    have hj : j < F.length := by simpa using h1
    simp only [List.getElem_map, List.getElem_set]
    by_cases e : k = j
    · subst e
      rw [if_pos rfl, if_pos (show F[k].p.ino = F[k].ino from rfl), ha]
    · rw [if_neg e, if_neg]
      intro e2
      exact e (fsrt_inj hs hk hj e2.symm)
theorem fsrt_set (hs : FSrt F) (hk : k < F.length) (a : Fi) (ha : a.ino = F[k].ino) : FSrt (F.set k a) := by
  have hi : ∀ j, (hj : j < F.length) → ((F.set k a)[j]'(by simpa using hj)).ino = F[j].ino := fun j hj => by
    rw [List.getElem_set]
    by_cases e : k = j
    · subst e; rw [if_pos rfl, ha]
    · rw [if_neg e]
  refine List.pairwise_iff_getElem.2 (fun i j h1 h2 hij => ?_)
  have h1' : i < F.length := by simpa using h1
  have h2' : j < F.length := by simpa using h2
  rw [hi i h1', hi j h2']
  exact fsrt_lt hs h1' h2' hij
end
/-- The invariant but for what purge restores. -/
structure PInv (fs : FS) : Prop where
  n : NSrt fs.N
  f : FSrt fs.F
  a : ∀ n ∈ fs.N, ∃ t ∈ fs.F, t.ino = n.ino
  v : ∀ n ∈ fs.N, vld n.nm = true
  p : ∀ t ∈ fs.F, 1 ≤ t.ino
  d : ∀ t ∈ fs.F, t.data.length ≤ 60000
  l : ∀ t ∈ fs.F, 0 ≤ t.left ∧ t.left ≤ t.data.length
  w : ∀ t ∈ fs.F, t.wh = true → t.left = 0
  c : ∀ t ∈ fs.F, t.cp = true ∨ t.wh = true
  o : fs.O.Pairwise (· < ·)
  b : fs.N.length ≤ 40
theorem Inv.pinv {fs : FS} (h : Inv fs) : PInv fs := ⟨h.n, h.f, h.a, h.v, h.p, h.d, h.l, h.w, h.c, h.o, h.b⟩
theorem PInv.purged {fs : FS} (h : PInv fs) : Inv (purged fs) := by
  have hm : ∀ t ∈ (Go.Proofs.YtgegmefnbkcdkaaDoor.purged fs).F, t ∈ fs.F := fun t ht => (List.mem_filter.1 ht).1
  have hg : ∀ t ∈ fs.F, t ∈ (Go.Proofs.YtgegmefnbkcdkaaDoor.purged fs).F ↔ (∃ n ∈ fs.N, n.ino = t.ino) ∨ t.ino ∈ fs.O := fun t ht => by
    unfold Go.Proofs.YtgegmefnbkcdkaaDoor.purged
    rw [List.mem_filter, goes_eq]
    simp only [ht, true_and]
    constructor
    · intro h1
      simp only [Bool.not_and, Bool.not_not, Bool.or_eq_true, List.contains_iff_mem, List.any_eq_true, beq_iff_eq] at h1
      rcases h1 with h1 | h1
      · exact .inr h1
      · exact .inl h1
    · intro h1
      simp only [Bool.not_and, Bool.not_not, Bool.or_eq_true, List.contains_iff_mem, List.any_eq_true, beq_iff_eq]
      rcases h1 with h1 | h1
      · exact .inr h1
      · exact .inl h1
  refine ⟨h.n, List.Pairwise.filter _ h.f, fun n hn => ?_, h.v, fun t ht => h.p t (hm t ht), fun t ht => h.d t (hm t ht), fun t ht => h.l t (hm t ht), fun t ht => h.w t (hm t ht), fun t ht => h.c t (hm t ht), fun t ht => (hg t (hm t ht)).1 ht, h.o, h.b⟩
  obtain ⟨t, ht, e⟩ := h.a n hn
  exact ⟨t, (hg t ht).2 (.inl ⟨n, hn, e.symm⟩), e⟩
theorem purged_p (fs : FS) : (purged fs).p = purgeP fs.p := by
  unfold purged FS.p purgeP
  simp only [PD.mk.injEq, true_and, and_true]
  rw [List.filter_map]
  rfl
/-- A file that is changed. -/
theorem PInv.set_ {fs : FS} {k : Nat} {a : Fi} (h : Inv fs) (hk : k < fs.F.length) (hi : a.ino = fs.F[k].ino) (hd : a.data.length ≤ 60000) (hl : 0 ≤ a.left ∧ a.left ≤ a.data.length) (hw : a.wh = true → a.left = 0) (hc : a.cp = true ∨ a.wh = true) : PInv ⟨fs.N, fs.F.set k a, fs.O⟩ := by
  have hmem : ∀ {P : Fi → Prop}, (∀ t ∈ fs.F, P t) → P a → ∀ t ∈ fs.F.set k a, P t := fun h1 h2 t ht => by
    rcases List.mem_or_eq_of_mem_set ht with h' | rfl
    · exact h1 t h'
    · exact h2
  refine ⟨h.n, fsrt_set h.f hk a hi, fun n hn => ?_, h.v, hmem h.p (by rw [hi]; exact h.p _ (List.getElem_mem hk)), hmem h.d hd, hmem h.l hl, hmem h.w hw, hmem h.c hc, h.o, h.b⟩
  obtain ⟨t, ht, e⟩ := h.a n hn
  obtain ⟨j, hj, rfl⟩ := List.getElem_of_mem ht
  by_cases ej : k = j
  · subst ej
    exact ⟨a, List.mem_iff_getElem.2 ⟨k, by simpa using hk, by simp⟩, by rw [hi]; exact e⟩
  · exact ⟨fs.F[j], List.mem_iff_getElem.2 ⟨j, by simpa using hj, by rw [List.getElem_set_ne ej]⟩, e⟩
/-- A new file with a name. -/
theorem PInv.put {fs : FS} {k : Nat} {t : Fi} {N : List Nm} (h : Inv fs) (hg : Gap fs.F k) (hN : NSrt N) (hmem : ∀ n ∈ N, n.ino = (k : Int) + 1 ∨ n ∈ fs.N) (hv : ∀ n ∈ N, vld n.nm = true) (hb : N.length ≤ 40) (hd : t.data.length ≤ 60000) (hl : 0 ≤ t.left ∧ t.left ≤ t.data.length) (hw : t.wh = true → t.left = 0) (hc : t.cp = true ∨ t.wh = true) : PInv ⟨N, putFile fs.F k t, fs.O⟩ := by
  have hall : ∀ {P : Fi → Prop}, (∀ t ∈ fs.F, P t) → P ⟨(k : Int) + 1, t.dv, t.data, t.cp, t.wh, t.left⟩ → ∀ x ∈ putFile fs.F k t, P x := fun h1 h2 x hx => by
    rcases mem_putF.1 hx with rfl | h'
    · exact h2
    · exact h1 x h'
  refine ⟨hN, fsrt_put hg h.f h.p t, fun n hn => ?_, hv, hall h.p (by show 1 ≤ (k : Int) + 1; omega), hall h.d hd, hall h.l hl, hall h.w hw, hall h.c hc, h.o, hb⟩
  rcases hmem n hn with e | h1
  · exact ⟨_, mem_putF.2 (.inl rfl), e.symm⟩
  · obtain ⟨x, hx, e⟩ := h.a n h1
    exact ⟨x, mem_putF.2 (.inr hx), e⟩
theorem file_at {fs : FS} (h : Inv fs) {i k : Nat} {s : ByteArray} (hi : i < fs.N.length) (hk : k < fs.F.length) (e1 : fs.N[i].nm = s) (e2 : fs.F[k].ino = fs.N[i].ino) : fileP fs.p s = some fs.F[k].p := by
  unfold fileP
  rw [show fs.p.N = fs.N from rfl, look_at h.n hi e1]
  show getP (fs.F.map Fi.p) fs.N[i].ino = _
  rw [← e2, get_at h.f hk]
theorem file_none {fs : FS} {s : ByteArray} (h : ∀ n ∈ fs.N, n.nm ≠ s) : fileP fs.p s = none := by
  unfold fileP
  rw [show fs.p.N = fs.N from rfl, look_none h]
  rfl
theorem met_p {fs fs2 : FS} {c : Ch} {e : Int} (hi : Inv fs) (h : MetSt fs c e fs2) (hv : vld c.name = true) (hv2 : (c.kind = 4 ∨ c.kind = 5) → vld c.dst = true) : (e, fs2.p) = stepP fs.p c.p ∧ PInv fs2 ∧ fs2.O = fs.O := by
  have hpi := hi.pinv
  rcases h with ⟨hk, h⟩ | ⟨hk, h⟩ | ⟨hk, h⟩ | ⟨hk, h⟩ | ⟨hk, h⟩ | ⟨hk, h⟩ | ⟨hk, h⟩ | ⟨hk, h⟩
  · unfold stepP
    simp only [FS.p, Ch.p, hk, if_true]
    rcases h with ⟨hex, rfl, rfl⟩ | ⟨hno, ⟨h4, rfl, rfl⟩ | ⟨h4, h6, rfl, rfl⟩ | ⟨h4, h6, rfl, k, dv, hg, rfl⟩⟩
    · rw [if_pos (has_yes hex)]; exact ⟨rfl, hpi, rfl⟩
    · rw [if_neg (by rw [has_no hno]; simp), if_pos h4]; exact ⟨rfl, hpi, rfl⟩
    · rw [if_neg (by rw [has_no hno]; simp), if_neg (by omega), if_pos h6]; exact ⟨rfl, hpi, rfl⟩
    · rw [if_neg (by rw [has_no hno]; simp), if_neg (by omega), if_neg (by omega)]
      refine ⟨?_, PInv.put hi hg (nsrt_put hi.n hno) (fun n hn => ?_) (fun n hn => ?_) (by rw [putName_len]; omega) h6 ⟨by simp, by simp⟩ (fun _ => rfl) (.inr rfl), rfl⟩
      · rw [put_add hg hi.f hi.p, free_gap hg, link_none hno]
      · rcases mem_put.1 hn with rfl | hn
        · exact .inl rfl
        · exact .inr hn
      · rcases mem_put.1 hn with rfl | hn
        · exact hv
        · exact hi.v n hn
  · rcases h with ⟨hno, rfl, rfl⟩ | ⟨i, k, hii, hkk, e1, e2, h⟩
    · have hf := file_none (fs := fs2) hno
      unfold stepP
      simp only [FS.p] at hf
      simp only [FS.p, Ch.p, hk, hf]
      exact ⟨rfl, hpi, trivial⟩
    · have hf := file_at hi hii hkk e1 e2
      unfold stepP
      simp only [FS.p] at hf
      simp only [FS.p, Ch.p, hk, hf, Fi.p]
      rcases h with ⟨hc, rfl, rfl⟩ | ⟨hc, h6, rfl, rfl⟩ | ⟨hc, h6, rfl, dv, rfl⟩
      · simp [hc, hpi]
      · simp [hc, h6, hpi]
      · have hwh : fs.F[k].wh = true := by rcases hi.c _ (List.getElem_mem hkk) with h1 | h1; · rw [hc] at h1; cases h1
                                           · exact h1
        have hl := hi.w _ (List.getElem_mem hkk) hwh
        refine ⟨?_, PInv.set_ hi hkk rfl (by rw [List.length_append]; exact h6) (by rw [hl]; exact ⟨by omega, by omega⟩) (fun _ => hl) (.inr hwh), rfl⟩
        rw [set_upd hi.f hkk (fun t => ⟨t.ino, t.data ++ c.data, t.cp, t.wh, t.left⟩) _ (by simp only [Fi.p, hc])]
        simp [hc, Nat.not_lt.2 h6]
  · rcases h with ⟨hno, rfl, rfl⟩ | ⟨i, k, hii, hkk, e1, e2, h⟩
    · have hf := file_none (fs := fs2) hno
      unfold stepP
      simp only [FS.p] at hf
      simp only [FS.p, Ch.p, hk, hf]
      exact ⟨rfl, hpi, trivial⟩
    · have hf := file_at hi hii hkk e1 e2
      unfold stepP
      simp only [FS.p] at hf
      simp only [FS.p, Ch.p, hk, hf, Fi.p]
      rcases h with ⟨hc, rfl, rfl⟩ | ⟨hc, rfl, rfl⟩
      · simp [hc, hpi]
      · have hwh : fs.F[k].wh = true := by rcases hi.c _ (List.getElem_mem hkk) with h1 | h1; · rw [hc] at h1; cases h1
                                           · exact h1
        have hl := hi.w _ (List.getElem_mem hkk) hwh
        refine ⟨?_, PInv.set_ hi hkk rfl (by simp) (by rw [hl]; simp) (fun _ => hl) (.inr hwh), rfl⟩
        rw [set_upd hi.f hkk (fun t => ⟨t.ino, [], t.cp, t.wh, t.left⟩) _ (by simp only [Fi.p, hc])]
        simp [hc]
  · rcases h with ⟨hno, rfl, rfl⟩ | ⟨i, k, hii, hkk, e1, e2, h⟩
    · have hf := file_none (fs := fs2) hno
      unfold stepP
      simp only [FS.p] at hf
      simp only [FS.p, Ch.p, hk, hf]
      exact ⟨rfl, hpi, trivial⟩
    · have hf := file_at hi hii hkk e1 e2
      unfold stepP
      simp only [FS.p] at hf
      simp only [FS.p, Ch.p, hk, hf, Fi.p]
      rcases h with ⟨hc, rfl, rfl⟩ | ⟨hc, rfl, rfl⟩
      · simp [hc, hpi]
      · have h1 : ∀ n ∈ rmName (rmName fs.N c.name) c.dst, n.nm ≠ c.dst := fun n hn => (mem_rm.1 hn).2
        have h2 : ∀ n ∈ rmName (rmName fs.N c.name) c.dst, n ∈ fs.N := fun n hn => (mem_rm.1 (mem_rm.1 hn).1).1
        have hlt := rm_lt hii e1
        have hle := rmName_len (rmName fs.N c.name) c.dst
        have hb := hi.b
        refine ⟨?_, ⟨nsrt_put ((hi.n.rm _).rm _) h1, hi.f, fun n hn => ?_, fun n hn => ?_, hi.p, hi.d, hi.l, hi.w, hi.c, hi.o, by simp only [putName_len]; omega⟩, rfl⟩
        · simp [hc, linkP]
        · rcases mem_put.1 hn with rfl | hn
          · exact ⟨_, List.getElem_mem hkk, rfl⟩
          · exact hi.a n (h2 n hn)
        · rcases mem_put.1 hn with rfl | hn
          · exact hv2 (.inl hk)
          · exact hi.v n (h2 n hn)
  · rcases h with ⟨hno, rfl, rfl⟩ | ⟨i, k, hii, hkk, e1, e2, h⟩
    · have hf := file_none (fs := fs2) hno
      unfold stepP
      simp only [FS.p] at hf
      simp only [FS.p, Ch.p, hk, hf]
      exact ⟨rfl, hpi, trivial⟩
    · have hf := file_at hi hii hkk e1 e2
      unfold stepP
      simp only [FS.p] at hf
      simp only [FS.p, Ch.p, hk, hf, Fi.p]
      rcases h with ⟨hc, hw, rfl, rfl⟩ | ⟨hcw, h⟩
      · simp [hc, hw, hpi]
      · have hb : (fs.F[k].cp && !fs.F[k].wh) = false := by rcases hcw with h1 | h1 <;> simp [h1]
        rcases h with ⟨hex, rfl, rfl⟩ | ⟨hno, ⟨h4, rfl, rfl⟩ | ⟨h4, rfl, k2, dv, hg, rfl⟩⟩
        · simp [hb, has_yes hex, hpi]
        · simp [hb, has_no hno, h4, hpi]
        · have hd := hi.d _ (List.getElem_mem hkk)
          refine ⟨?_, PInv.put hi hg (nsrt_put hi.n hno) (fun n hn => ?_) (fun n hn => ?_) (by rw [putName_len]; omega) hd ⟨by simp, by simp⟩ (by simp) (.inl rfl), rfl⟩
          · rw [put_add hg hi.f hi.p]
            simp [hb, has_no hno, Nat.not_le.2 h4, free_gap hg, link_none hno]
          · rcases mem_put.1 hn with rfl | hn
            · exact .inl rfl
            · exact .inr hn
          · rcases mem_put.1 hn with rfl | hn
            · exact hv2 (.inr hk)
            · exact hi.v n hn
  · rcases h with ⟨hno, rfl, rfl⟩ | ⟨i, k, hii, hkk, e1, e2, h⟩
    · have hf := file_none (fs := fs2) hno
      unfold stepP
      simp only [FS.p] at hf
      simp only [FS.p, Ch.p, hk, hf]
      exact ⟨rfl, hpi, trivial⟩
    · have hf := file_at hi hii hkk e1 e2
      unfold stepP
      simp only [FS.p] at hf
      simp only [FS.p, Ch.p, hk, hf, Fi.p]
      rcases h with ⟨hcw, rfl, rfl⟩ | ⟨⟨hc, hw⟩, ⟨h1, rfl, rfl⟩ | ⟨h1, rfl, rfl⟩⟩
      · have hb : (!fs2.F[k].cp || fs2.F[k].wh) = true := by rcases hcw with h1 | h1 <;> simp [h1]
        simp [hb, hpi]
      · simp [hc, hw, h1, hpi]
      · have hl := hi.l _ (List.getElem_mem hkk)
        have hd := hi.d _ (List.getElem_mem hkk)
        refine ⟨?_, PInv.set_ hi hkk rfl hd (by show 0 ≤ fs.F[k].left - min c.n fs.F[k].left ∧ fs.F[k].left - min c.n fs.F[k].left ≤ (fs.F[k].data.length : Int); omega) (fun h2 => by simpa using h2) (.inl rfl), rfl⟩
        rw [set_upd hi.f hkk (fun t => ⟨t.ino, t.data, t.cp, t.left - min c.n t.left == 0, t.left - min c.n t.left⟩) _ (by simp only [Fi.p, hc])]
        simp [hc, hw, Int.not_lt.2 h1]
  · unfold stepP
    simp only [FS.p, Ch.p, hk]
    rcases h with ⟨hno, rfl, rfl⟩ | ⟨hex, rfl, rfl⟩
    · simp [has_no hno, hpi]
    · have h2 : ∀ n ∈ rmName fs.N c.name, n ∈ fs.N := fun n hn => (mem_rm.1 hn).1
      refine ⟨by simp [has_yes hex], ⟨hi.n.rm _, hi.f, fun n hn => hi.a n (h2 n hn), fun n hn => hi.v n (h2 n hn), hi.p, hi.d, hi.l, hi.w, hi.c, hi.o, Nat.le_trans (rmName_len _ _) hi.b⟩, rfl⟩
  · unfold stepP
    simp only [FS.p, Ch.p, hk]
    rcases h with ⟨hno, rfl, rfl⟩ | ⟨i, hii, e1, ⟨h6, rfl, rfl⟩ | ⟨h6, rfl, k, dv, hg, rfl⟩⟩
    · simp [has_no hno, hpi]
    · have hex := has_yes ⟨_, List.getElem_mem hii, e1⟩
      simp [hex, h6, hpi]
    · have hex := has_yes ⟨_, List.getElem_mem hii, e1⟩
      have hls : fs.N.set i ⟨c.name, (k : Int) + 1⟩ = putName (rmName fs.N c.name) ⟨c.name, (k : Int) + 1⟩ := link_set hi.n hii e1
      have h1 : ∀ n ∈ rmName fs.N c.name, n.nm ≠ c.name := fun n hn => (mem_rm.1 hn).2
      have h2 : ∀ n ∈ rmName fs.N c.name, n ∈ fs.N := fun n hn => (mem_rm.1 hn).1
      refine ⟨?_, PInv.put hi hg (by rw [hls]; exact nsrt_put (hi.n.rm _) h1) (fun n hn => ?_) (fun n hn => ?_) (by simp only [List.length_set]; exact hi.b) h6 ⟨by simp, by simp⟩ (fun _ => rfl) (.inr rfl), rfl⟩
      · rw [put_add hg hi.f hi.p, hls]
        simp [hex, Nat.not_lt.2 h6, free_gap hg, linkP]
      · rw [hls] at hn
        rcases mem_put.1 hn with rfl | hn
        · exact .inl rfl
        · exact .inr (h2 n hn)
      · rw [hls] at hn
        rcases mem_put.1 hn with rfl | hn
        · exact hv
        · exact hi.v n (h2 n hn)
theorem doSt_p {fs fs' : FS} {c : Ch} {e : Int} (hi : Inv fs) (h : DoSt fs c e fs') : (e, fs'.p) = doP fs.p c.p ∧ Inv fs' ∧ fs'.O = fs.O := by
  unfold doP
  rcases h with ⟨hk, rfl, rfl⟩ | ⟨hk, h⟩
  · rw [if_pos (show c.p.kind < 1 ∨ 8 < c.p.kind from hk)]; exact ⟨rfl, hi, rfl⟩
  · rw [if_neg (by show ¬ (c.kind < 1 ∨ 8 < c.kind); omega)]
    rcases h with ⟨hb, rfl, rfl⟩ | ⟨⟨hv, hv2⟩, h⟩
    · have : badP c.p = true := by
        unfold badP Ch.p
        rcases hb with h1 | ⟨h1 | h1, h2⟩
        · simp [h1]
        · simp [h1, h2]
        · simp [h1, h2]
      rw [if_pos this]; exact ⟨rfl, hi, rfl⟩
    · have : badP c.p = false := by
        unfold badP Ch.p
        simp only [hv, Bool.not_true, Bool.false_or]
        by_cases h4 : c.kind = 4 ∨ c.kind = 5
        · rw [hv2 h4]; simp
        · have h1 : c.kind ≠ 4 := fun e => h4 (.inl e)
          have h2 : c.kind ≠ 5 := fun e => h4 (.inr e)
          simp [h1, h2]
      rw [if_neg (by rw [this]; simp)]
      rcases h with ⟨hne, rfl, fs2, hm⟩ | ⟨rfl, fs2, hm, rfl⟩
      · have h1 := (met_p hi hm hv hv2).1
        rw [← h1, if_neg hne]; exact ⟨rfl, hi, rfl⟩
      · obtain ⟨h1, h2, h3⟩ := met_p hi hm hv hv2
        rw [← h1, if_pos rfl, purged_p]
        exact ⟨rfl, h2.purged, h3⟩
end Go.Proofs.YtgegmefnbkcdkaaDoor
