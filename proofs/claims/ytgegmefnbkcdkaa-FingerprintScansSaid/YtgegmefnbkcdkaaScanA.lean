/- Scans of files: the plain law: whatever the order of the keys, and by insertion, the same sorted list. No program in sight. cmp.Or of ints. slices.SortFunc at a row of our own, its elements of k cells each: what the row owns behind it. No program in sight. Scans of files: how the program compares, files seen in memory. Maps with ints as keys: which keys there are; the step of a range over such a map whose elements are strings. -/
import Derived.Test.YtgegmefnbkcdkaaFsRead
import Derived.Test.YtgegmefnbkcdkaaFinger
import Derived.Test.YtgegmefnbkcdkaaStrings
import Derived.Test.YtgegmefnbkcdkaaLib
import Derived.Test.YtgegmefnbkcdkaaEdit
import Derived.Shelf.SlSortCmp.NoneTotal
import Derived.Sort.OwnSorted
import Derived.Test.YtgegmefnbkcdkaaCmpInt
import Derived.Maps.RangeWalk
import Derived.Maps.Views
import Derived.Maps.OwnOps
import Derived.Maps.StringElems
namespace Go.Proofs.Ytgegmefnbkcdkaa
open Go.RowKit
structure Sn where
  file : Int
  ino : Int
  size : Int
def lessS (a b : Sn) : Bool := decide (a.file < b.file ∨ a.file = b.file ∧ (b.size < a.size ∨ b.size = a.size ∧ a.ino < b.ino))
theorem lessS_irr (a : Sn) : lessS a a = false := by simp [lessS]
theorem lessS_trans {a b c : Sn} (h1 : lessS a b = true) (h2 : lessS b c = true) : lessS a c = true := by
  simp [lessS] at *; omega
theorem lessS_ntrans {a b c : Sn} (h1 : lessS a b = false) (h2 : lessS b c = false) : lessS a c = false := by
  simp [lessS] at *; omega
theorem lessS_tri {a b : Sn} (h1 : lessS a b = false) (h2 : lessS b a = false) : a = b := by
  obtain ⟨a1, a2, a3⟩ := a
  obtain ⟨b1, b2, b3⟩ := b
  simp [lessS] at *
  omega
theorem lessS_asym {a b : Sn} (h : lessS a b = true) : lessS b a = false := by
  simp [lessS] at *; omega
/-- In order: no later element comes before an earlier one. -/
def SrtS (l : List Sn) : Prop := l.Pairwise fun a b => lessS b a = false
def sortS (l : List Sn) : List Sn := l.mergeSort fun x y => !lessS y x
theorem sortS_srt (l : List Sn) : SrtS (sortS l) := by
  have h := List.pairwise_mergeSort (le := fun x y => !lessS y x) (fun a b c h1 h2 => by
    simp only [Bool.not_eq_true'] at *
    exact lessS_ntrans h2 h1) (fun a b => by
    cases h : lessS b a
    · rfl
    · simp [lessS_asym h]) l
  exact h.imp fun h => by simpa using h
theorem srt_unique {a b : List Sn} (ha : SrtS a) (hb : SrtS b) (hp : a.Perm b) : a = b :=
  List.Perm.eq_of_pairwise (fun _ _ _ _ h1 h2 => lessS_tri h2 h1) ha hb hp
theorem sortS_of {a l : List Sn} (ha : SrtS a) (hp : a.Perm l) : a = sortS l :=
  srt_unique ha (sortS_srt l) (hp.trans (List.mergeSort_perm l _).symm)
theorem sortS_perm {a b : List Sn} (h : a.Perm b) : sortS a = sortS b :=
  sortS_of (sortS_srt a) ((List.mergeSort_perm a _).trans h)
/-- The place of a new element in a list in order. -/
def atS (l : List Sn) (s : Sn) (k : Nat) : Prop := k ≤ l.length ∧ (∀ j, (hj : j < l.length) → k ≤ j → lessS s l[j] = true) ∧ (∀ h : 0 < k, ∀ h2 : k - 1 < l.length, lessS s l[k - 1] = false)
def putS (l : List Sn) (k : Nat) (s : Sn) : List Sn := l.take k ++ s :: l.drop k
theorem putS_perm (l : List Sn) (k : Nat) (s : Sn) : (putS l k s).Perm (l ++ [s]) := by
  unfold putS
  have h1 : (l.take k ++ s :: l.drop k).Perm (s :: (l.take k ++ l.drop k)) := List.perm_middle
  rw [List.take_append_drop] at h1
  exact h1.trans (List.perm_append_singleton s l).symm
theorem putS_srt {l : List Sn} {k : Nat} {s : Sn} (h : SrtS l) (hk : atS l s k) : SrtS (putS l k s) := by
  obtain ⟨hk0, hk1, hk2⟩ := hk
  unfold putS SrtS
  have h' := h
  unfold SrtS at h'
  rw [← List.take_append_drop k l] at h'
  obtain ⟨hA, hB, hAB⟩ := List.pairwise_append.1 h'
  have hlt : ∀ x ∈ l.drop k, lessS s x = true := fun x hx => by
    obtain ⟨j, hj, rfl⟩ := List.getElem_of_mem hx
    rw [List.getElem_drop]
    exact hk1 _ _ (by omega)
  have hge : ∀ x ∈ l.take k, lessS s x = false := fun x hx => by
    obtain ⟨j, hj, rfl⟩ := List.getElem_of_mem hx
    rw [List.length_take] at hj
    rw [List.getElem_take]
    have h0 : 0 < k := by omega
    have h1 := hk2 h0 (by omega)
    by_cases e : j = k - 1
    · subst e; exact h1
    · exact lessS_ntrans h1 (List.pairwise_iff_getElem.1 h j (k - 1) (by omega) (by omega) (by omega))
  refine List.pairwise_append.2 ⟨hA, List.pairwise_cons.2 ⟨fun x hx => lessS_asym (hlt x hx), hB⟩, fun a ha b hb => ?_⟩
  rcases List.mem_cons.1 hb with rfl | hb
  · exact hge a ha
  · exact hAB a ha b hb
theorem nodup_filter {α : Type} {p : α → Bool} {l : List α} (h : l.Nodup) : (l.filter p).Nodup := List.Pairwise.filter p h
/-- The elements of keys in whatever order. -/
theorem keys_perm {β : Type} (f : Int → Option β) (ks is : List Int) (p : Int → Bool) (hk : ks.Nodup) (hi : is.Nodup) (hm : ∀ i, i ∈ ks ↔ p i = true) (hf : ∀ i, i ∉ is → f i = none) :
    (ks.filterMap f).Perm ((is.filter p).filterMap f) := by
  have h1 : ks.filterMap f = (ks.filter fun i => decide (i ∈ is)).filterMap f := by
    rw [List.filterMap_filter]
    have e : f = fun i => if decide (i ∈ is) = true then f i else none := by
      funext i
      by_cases h : i ∈ is
      · simp [h]
      · simp [h, hf i h]
    conv => lhs; rw [e]
  rw [h1]
  refine List.Perm.filterMap f ((List.perm_ext_iff_of_nodup (nodup_filter hk) (nodup_filter hi)).2 fun i => ?_)
  simp only [List.mem_filter, decide_eq_true_eq]
  rw [hm i]
  exact And.comm
/-- Is a file looked at? -/
def wantB (d : PD) (p : ByteArray) (i : Int) : Bool := d.O.contains i || d.N.any fun n => n.ino == i && pre p n.nm
/-- What is seen of a file. -/
def seeB (d : PD) (k i : Int) : Option Sn := (readP d i).bind fun t => if numOk t.data k = true then some ⟨numOf t.data k, i, t.data.length⟩ else none
def inosP (d : PD) : List Int := d.F.map fun t => t.ino
def scanP (d : PD) (p : ByteArray) (k : Int) : List Sn := sortS (((inosP d).filter (wantB d p)).filterMap (seeB d k))
theorem see_none {d : PD} {k i : Int} (h : i ∉ inosP d) : seeB d k i = none := by
  have hg : getP d.F i = none := by
    unfold getP
    rw [List.find?_eq_none]
    intro x hx hd
    simp only [decide_eq_true_eq] at hd
    exact h (List.mem_map.2 ⟨x, hx, hd⟩)
  unfold seeB readP
  rw [hg]
  rfl
theorem scan_keys {d : PD} {p : ByteArray} {k : Int} (ks : List Int) (hk : ks.Nodup) (hi : (inosP d).Nodup) (hm : ∀ i, i ∈ ks ↔ wantB d p i = true) : sortS (ks.filterMap (seeB d k)) = scanP d p k :=
  sortS_perm (keys_perm (seeB d k) ks (inosP d) (wantB d p) hk hi hm fun _ h => see_none h)
/-- What has been seen of the first i files. -/
def seenUp (d : PD) (p : ByteArray) (k : Int) (i : Nat) : List Sn := (((inosP d).take i).filter (wantB d p)).filterMap (seeB d k)
theorem seenUp_zero (d : PD) (p : ByteArray) (k : Int) : seenUp d p k 0 = [] := rfl
theorem seenUp_all (d : PD) (p : ByteArray) (k : Int) : sortS (seenUp d p k d.F.length) = scanP d p k := by
  unfold seenUp scanP
  rw [List.take_of_length_le (by unfold inosP; rw [List.length_map]; exact Nat.le_refl _)]
theorem seenUp_succ {d : PD} {p : ByteArray} {k : Int} {i : Nat} (hi : i < (inosP d).length) :
    seenUp d p k (i + 1) = seenUp d p k i ++ (if wantB d p (inosP d)[i] = true then (seeB d k (inosP d)[i]).toList else []) := by
  unfold seenUp
  rw [List.take_succ_eq_append_getElem hi, List.filter_append, List.filterMap_append]
  congr 1
  cases h : wantB d p (inosP d)[i]
  · simp [h]
  · cases h2 : seeB d k (inosP d)[i] <;> simp [h, h2]
/-- The first element with a number. -/
def longP (l : List Sn) (file : Int) : Option Sn := l.find? fun s => decide (s.file = file)
end Go.Proofs.Ytgegmefnbkcdkaa
namespace Go.Proofs.Ytgegmefnbkcdkaa
open Go.RowKit
/-- cmp.Or of a row of numbers: the first that is not nought. -/
def orL (l : List Int) : Int := (l.find? fun x => x != 0).getD 0
theorem orL_two (a b : Int) : orL [a, b] = if a = 0 then b else a := by
  unfold orL
  by_cases ha : a = 0
  · subst ha
    by_cases hb : b = 0
    · subst hb; rfl
    · simp [hb]
  · simp [ha]
theorem orL_skip {l : List Int} {k : Nat} (hk : k < l.length) (h : l[k] = 0) : orL (l.drop k) = orL (l.drop (k + 1)) := by
  rw [List.drop_eq_getElem_cons hk]
  unfold orL
  rw [List.find?_cons_of_neg (by simp [h])]
theorem orL_take {l : List Int} {k : Nat} (hk : k < l.length) (h : l[k] ≠ 0) : orL (l.drop k) = l[k] := by
  rw [List.drop_eq_getElem_cons hk]
  unfold orL
  rw [List.find?_cons_of_pos (by simpa using h)]
  rfl
theorem or_int (v : Value) (l : List Int) (w : World) (S : Nat → Prop) (h : Sl w S 1 v l.length (l.map (.int .i64))) (hl : l.length ≤ 1000000) :
    Calls Try.prog 44 #[v] w fun e w' => e = .returned (.int .i64 (orL l)) ∧ w' = w := by
  obtain ⟨A, c, rfl, hc, h⟩ := h.form
  go_enter Try.func44, Try.ntmps44
  go_wp2_with fail
  go_loop [5, 8] (fun _ i => ∃ k : Nat, k ≤ l.length ∧ i = .int .i64 k ∧ Hid (orL l = orL (l.drop k))) (fun _ i => l.length - (intOf i).toNat)
  case atStart => exact ⟨0, Nat.zero_le _, rfl, keep rfl⟩
  case round =>
    obtain ⟨k, hk, rfl, hE⟩ := hrel
    by_cases hlt : k < l.length
    · obtain ⟨b, o, u, rfl, hb, hu, c0⟩ := h.at_ hlt
      have hu' : u = .int .i64 l[k] := by simpa [hlt] using hu.symm
      subst hu'
      have hs := orL_skip hlt
      have ht := orL_take hlt
      generalize l[k] = x at c0 hs ht
      have i1 : (k : Int) < (l.length : Int) := by omega
      have i2 : (k : Int) ≤ 1000000 := by omega
      clear hu
      by_cases hx : x = 0
      · subst hx
        have HS := keep (hs rfl)
        clear hs ht
        go_wp2_with fail
        go_round
        case rel => exact ⟨k + 1, by omega, by go_num, keep (hE.out.trans HS.out)⟩
        case measure => simp [intOf]; omega
      · have HT := keep (ht hx)
        have hne : (x != 0) = true := by simpa using hx
        clear hs ht hx
        go_wp2_with fail
        go_ret
        exact ⟨ret_int (by rw [hE.out, HT.out]), rfl⟩
    · obtain rfl : k = l.length := by omega
      go_wp2_with fail
      go_ret
      exact ⟨ret_int (by rw [hE.out, List.drop_length]; rfl), rfl⟩
end Go.Proofs.Ytgegmefnbkcdkaa
namespace Go.Proofs.Ytgegmefnbkcdkaa
open Go.RowKit Go.Sort Go.Shelf
theorem flat_len {α : Type} (enc : α → List Value) (k : Nat) (hk : ∀ x, (enc x).length = k) (l : List α) : (l.flatMap enc).length = l.length * k := by
  induction l with
  | nil => simp
  | cons x l ih => rw [List.flatMap_cons, List.length_append, ih, hk, List.length_cons, Nat.add_mul, Nat.one_mul, Nat.add_comm]
section
variable {α : Type} [Inhabited α]
theorem flat_list (enc : α → List Value) (k : Nat) (hk : ∀ x, (enc x).length = k) (hp : 0 < k) : ∀ l : List α, (flatK enc k l.toArray).toList = l.flatMap enc := by
  intro l
  have hlen : (l.flatMap enc).length = l.length * k := by
    induction l with
    | nil => simp
    | cons x l ih => rw [List.flatMap_cons, List.length_append, ih, hk, List.length_cons, Nat.add_mul, Nat.one_mul, Nat.add_comm]
  apply List.ext_getElem?
  intro j
  by_cases hj : j < l.length * k
  · have hd : j / k < l.length := Nat.div_lt_of_lt_mul (by rwa [Nat.mul_comm] at hj)
    have hm : j % k < k := Nat.mod_lt _ hp
    have e : j = j / k * k + j % k := by rw [Nat.mul_comm]; exact (Nat.div_add_mod j k).symm
    have key : ∀ (l : List α) (q r : Nat), q < l.length → r < k → (l.flatMap enc)[q * k + r]? = (enc (l[q]!))[r]? := by
      intro l
      induction l with
      | nil => intro q r h; simp at h
      | cons x l ih =>
        intro q r hq hr
        rw [List.flatMap_cons]
        cases q with
        | zero =>
          rw [Nat.zero_mul, Nat.zero_add, List.getElem?_append_left (by rw [hk]; exact hr)]
          simp
        | succ q =>
          rw [List.getElem?_append_right (by rw [hk, Nat.add_mul]; omega), hk, show (q + 1) * k + r - k = q * k + r by rw [Nat.add_mul]; omega, ih q r (by simpa using hq) hr]
          simp
    rw [e, key l _ _ hd hm, ← e]
    have hs : j < (flatK enc k l.toArray).size := by rw [size_flatK]; simpa using hj
    rw [Array.getElem?_toList, Array.getElem?_eq_getElem hs]
    have h2 := get_flatK enc k l.toArray j (by simpa using hj)
    rw [getElem!_pos _ j hs] at h2
    rw [h2]
    have e2 : (l.toArray)[j / k]! = l[j / k]! := by simp
    rw [e2]
    have hr : j % k < (enc l[j / k]!).length := by rw [hk]; exact hm
    rw [List.getElem?_eq_getElem hr, getElem!_pos (enc l[j / k]!) (j % k) hr]
  · have e1 : (flatK enc k l.toArray).toList[j]? = none := List.getElem?_eq_none (by rw [Array.length_toList, size_flatK]; simpa using hj)
    have e2 : (l.flatMap enc)[j]? = none := List.getElem?_eq_none (by rw [hlen]; omega)
    rw [e1, e2]
theorem holdsK_own {enc : α → List Value} {k : Nat} (hk : ∀ x, (enc x).length = k) (hp : 0 < k) {w : World} {base e g : Nat} {v : Value} {l : List α} (h : w.ownsRow base e k v l.length (l.flatMap enc)) (hg : v.ownBlock = some g) : HoldsK enc k w g 0 l.toArray := by
  intro j hj
  have hj' : j < l.length * k := by simpa using hj
  refine ⟨?_, own_frozen h hg _⟩
  rw [Nat.zero_add, own_cell h hg j hj', ← flat_list enc k hk hp l, Array.getElem?_toList, Array.getElem?_eq_getElem hj, getElem!_pos (flatK enc k l.toArray) j hj]
  rfl
theorem heap_sortedK {w : World} {g n : Nat} {os : Array Obj} {cur : Array Value} {e : TypeId} {fr : Nat × Nat} (F : Array Value) (hb : w.heap[g]? = some (.cells cur e fr)) :
    (grow (putRow id (Sort.ahead w n) g 0 F) os).heap[g]? = some (.cells (putCells id 0 F cur) e fr) := by
  have hg : g < w.heap.size := (Array.getElem?_eq_some_iff.1 hb).1
  rw [heap_grow_old _ _ (by simpa using hg)]
  simp [putRow, mapBlock, Sort.ahead, Array.getElem?_modify, hb, onCells]
theorem grownBy_sortedK {w : World} {g n : Nat} {os : Array Obj} (F : Array Value) : w.grownBy (grow (putRow id (Sort.ahead w n) g 0 F) os) (some g) := by
  refine ⟨rfl, rfl, rfl, by simp, fun k hk hne => ?_⟩
  rw [heap_grow_old _ _ (by simpa using hk)]
  have : g ≠ k := fun e => hne (by rw [e])
  simp [putRow, mapBlock, Sort.ahead, Array.getElem?_modify, this]
theorem take_putCellsK (cur F : Array Value) (h : F.size ≤ cur.size) : (putCells id 0 F cur).toList.take F.size = F.toList := by
  apply List.ext_getElem?
  intro j
  by_cases hj : j < F.size
  · rw [List.getElem?_take_of_lt hj, Array.getElem?_toList, Array.getElem?_toList]
    simp [putCells, hj, show j < cur.size by omega]
  · rw [List.getElem?_take_eq_none (by omega), List.getElem?_eq_none (by simp; omega)]
theorem own_sortedK {enc : α → List Value} {k : Nat} (hk : ∀ x, (enc x).length = k) (hp : 0 < k) {w : World} {base e g n cap : Nat} {os : Array Obj} {l ts : List α} (hl : ts.length = l.length)
    (h : w.ownsRow base e k (.slice (some ⟨g, 0, none⟩) l.length cap) l.length (l.flatMap enc)) :
    (sortWorldK enc k w g 0 n ts.toArray os).ownsRow base e k (.slice (some ⟨g, 0, none⟩) l.length cap) l.length (ts.flatMap enc) := by
  obtain ⟨cap', cur, he, h1, h2, h3, h4, h5, _⟩ := own_at h rfl
  injection he with _ _ he
  subst he
  have h7 := heap_sortedK (n := n) (os := os) (flatK enc k ts.toArray) h2
  have hs : (flatK enc k ts.toArray).size = l.length * k := by rw [size_flatK]; simp [hl]
  have := own_mk (n := l.length) (size := k) h1 h7 h3 h4 (by simp [putCells, h5])
  have hf : (flatK enc k ts.toArray).size ≤ cur.size := by rw [hs, h5]; exact Nat.mul_le_mul_right _ h3
  have ht := take_putCellsK cur (flatK enc k ts.toArray) hf
  rw [hs] at ht
  rw [ht, flat_list enc k hk hp] at this
  exact this
theorem sortFunc_own {P : Program} {ρ : Ren} (L : SlLaysF0.n6 P ρ) (k : Nat) (hp : 0 < k) (aE : ∀ w, (isAgg (ρ.t 24)).run P w = .ok true w) (zE : ∀ w, (Go.sizeOf (ρ.t 24)).run P w = .ok k w) (enc : α → List Value) (hk : ∀ x, (enc x).length = k)
    (h1 : ∀ x, ∀ v ∈ enc x, v.oneCell' = true) (cf : α → α → Int) (hO : SWO (ltOf cf)) (hT : ∀ x y, (ltOf cf) x y = false → (ltOf cf) y x = false → x = y) (g : Nat) (cb : Array Value) (eg : ∀ args w, (callFunc g args).run P w = .ok (.enter g args) w)
    (v : Value) (l : List α) (base e : Nat) (w : World) (hcmp : ∀ blk off size, CmpLays P g cb enc k cf blk off size w) (hown : w.ownsRow base e k v l.length (l.flatMap enc)) (hm : l.length < 4611686018427387904) :
    Calls P (ρ.f 6) #[v, .func (.func g) #[] cb] w fun x w' => x = .returned (.tuple #[]) ∧ w'.ownsRow base e k v l.length ((l.mergeSort fun x y => !(ltOf cf) y x).flatMap enc) ∧ w.grownBy w' v.ownBlock := by
  rcases hown.2 with ⟨rfl, hn⟩ | ⟨b, cap, cur, rfl, _, hb, _⟩
  · have hl : l = [] := List.eq_nil_of_length_eq_zero hn
    subst hl
    refine (AnyF.slices_SortFunc_none L none 0 (.func (.func g) #[] cb) w).mono ?_
    rintro x w' ⟨rfl, rfl⟩
    exact ⟨rfl, by simpa using hown, World.grownBy.refl _ _⟩
  · have hlen : (l.mergeSort fun x y => !(ltOf cf) y x).length = l.length := List.length_mergeSort _
    have hc := AnyQ.slices_SortFunc_total L k aE zE enc hk h1 cf hO g cb b 0 cap l.toArray w eg (hcmp b 0 _) (holdsK_own hk hp hown rfl) ((hown.lt b rfl).2) (by simpa using hm) hT
    refine hc.mono ?_
    rintro x w' ⟨rfl, n, os, rfl⟩
    exact ⟨rfl, own_sortedK hk hp hlen hown, grownBy_sortedK _⟩
end
end Go.Proofs.Ytgegmefnbkcdkaa
namespace Go.Proofs.Ytgegmefnbkcdkaa
open Go.RowKit
instance : Inhabited Sn := ⟨⟨0, 0, 0⟩⟩
def cmpS (a b : Sn) : Int := orL [cmpI a.file b.file, cmpI b.size a.size, cmpI a.ino b.ino]
theorem orL_three (a b c : Int) : orL [a, b, c] = if a = 0 then (if b = 0 then c else b) else a := by
  unfold orL
  by_cases ha : a = 0
  · subst ha
    by_cases hb : b = 0
    · subst hb
      by_cases hc : c = 0
      · subst hc; rfl
      · simp [hc]
    · simp [hb]
  · simp [ha]
theorem cmpS_lt (a b : Sn) : Go.Proofs.ltOf cmpS a b = lessS a b := by
  unfold Go.Proofs.ltOf cmpS lessS
  rw [orL_three]
  unfold cmpI
  rw [Bool.eq_iff_iff]
  simp only [decide_eq_true_eq]
  (repeat' split) <;> omega
theorem swoS : Go.Sort.SWO (Go.Proofs.ltOf cmpS) where
  irrefl x := by rw [cmpS_lt]; exact lessS_irr x
  trans x y z h1 h2 := by rw [cmpS_lt] at *; exact lessS_trans h1 h2
  ntrans x y z h1 h2 := by rw [cmpS_lt] at *; exact lessS_ntrans h1 h2
theorem totS (x y : Sn) (h1 : Go.Proofs.ltOf cmpS x y = false) (h2 : Go.Proofs.ltOf cmpS y x = false) : x = y := by
  rw [cmpS_lt] at h1 h2
  exact lessS_tri h1 h2
theorem sort_kit (l : List Sn) : (l.mergeSort fun x y => !(Go.Proofs.ltOf cmpS) y x) = sortS l := by
  unfold sortS
  simp only [cmpS_lt]
def snV (s : Sn) : List Value := [.int .i64 s.file, .int .i64 s.ino, .int .i64 s.size]
def sns (L : List Sn) : List Value := L.flatMap snV
theorem snV_len (s : Sn) : (snV s).length = 3 := rfl
theorem sns_len (L : List Sn) : (sns L).length = L.length * 3 := flat_len snV 3 snV_len L
theorem snV_one (s : Sn) : ∀ u ∈ snV s, u.oneCell' = true := by
  intro u hu
  simp [snV] at hu
  rcases hu with rfl | rfl | rfl <;> rfl
theorem sns_one (L : List Sn) : ∀ u ∈ sns L, u.oneCell' = true := by
  intro u hu
  obtain ⟨s, _, hs⟩ := List.mem_flatMap.1 hu
  exact snV_one s u hs
theorem sns_append (A B : List Sn) : sns (A ++ B) = sns A ++ sns B := List.flatMap_append
theorem sn_at (L : List Sn) (k : Nat) (hk : k < L.length) (j : Nat) (hj : j < 3) : (sns L)[k * 3 + j]? = (snV L[k])[j]? := rows_at snV_len L k hk j hj
theorem sn_cells {w : World} {S : Nat → Prop} {A : Option Addr} {c k : Nat} {L : List Sn} (h : Sl w S 3 (.slice A L.length c) L.length (sns L)) (hk : k < L.length) :
    ∃ b o, A = some ⟨b, o, none⟩ ∧ S b ∧ w.cell? ⟨b, o + k * 3, none⟩ = some (.int .i64 L[k].file) ∧ w.cell? ⟨b, o + k * 3 + 1, none⟩ = some (.int .i64 L[k].ino) ∧ w.cell? ⟨b, o + k * 3 + 2, none⟩ = some (.int .i64 L[k].size) := by
  obtain ⟨b, o, hA, hb, hrow⟩ := h.row (by omega)
  have q : ∀ j, j < 3 → ∀ u, (snV L[k])[j]? = some u → w.cell? ⟨b, o + k * 3 + j, none⟩ = some u := fun j hj u hu => by
    have := hrow _ _ ((sn_at L k hk j hj).trans hu)
    rwa [← Nat.add_assoc] at this
  exact ⟨b, o, hA, hb, q 0 (by omega) _ rfl, q 1 (by omega) _ rfl, q 2 (by omega) _ rfl⟩
theorem elSn : Elem Try.prog 50 54 3 24 (.agg #[.int .i64 0, .int .i64 0, .int .i64 0]) := ⟨Try.underlying50, by kernel_rfl, rfl, by decide⟩
theorem cmp_intR (a b x : Int) (w : World) (h : cmpI a b = x) : Calls Try.prog 45 #[.int .i64 a, .int .i64 b] w fun e w' => e = .returned (.int .i64 x) ∧ w' = w := (cmp_int a b w).mono fun _ _ hh => ⟨by rw [← h]; exact hh.1, hh.2.symm⟩
theorem push_three (a : Array Obj) (A B X : Obj) : ((a.push A).push B).push X = a ++ #[A, B, X] := Array.ext' (by simp)
theorem grow_three3 (w : World) (A B X : Obj) : (((w.alloc A).alloc B).drew).alloc X = Go.Sort.grow (w.drewN 1) #[A, B, X] :=
  congrArg (fun h => ({ w.drew with heap := h } : World)) (push_three w.heap A B X)
set_option maxHeartbeats 4000000 in
set_option maxRecDepth 100000 in
/-- The program's comparison. -/
theorem seen_cmp (s t : Sn) (w : World) : Calls Try.prog 43 #[.agg (snV s).toArray, .agg (snV t).toArray] w fun e w' => e = .returned (.int .i64 (cmpS s t)) ∧ ∃ q os', w' = Go.Sort.grow (w.drewN q) os' := by
  obtain ⟨f1, i1, z1⟩ := s
  obtain ⟨f2, i2, z2⟩ := t
  obtain ⟨x, hx⟩ : ∃ x, cmpI f1 f2 = x := ⟨_, rfl⟩
  obtain ⟨y, hy⟩ : ∃ y, cmpI z2 z1 = y := ⟨_, rfl⟩
  obtain ⟨z, hz⟩ : ∃ z, cmpI i1 i2 = z := ⟨_, rfl⟩
  have hr : cmpS ⟨f1, i1, z1⟩ ⟨f2, i2, z2⟩ = orL [x, y, z] := by unfold cmpS; simp only [hx, hy, hz]
  rw [hr]
  have HX := keep hx
  have HY := keep hy
  have HZ := keep hz
  clear hr hx hy hz
  simp only [snV]
  obtain ⟨w1, hw1⟩ : ∃ w1, w1 = (w.alloc (.cells #[.int .i64 f1, .int .i64 i1, .int .i64 z1] 54)).alloc (.cells #[.int .i64 f2, .int .i64 i2, .int .i64 z2] 54) := ⟨_, rfl⟩
  have hA : Blk w1 w.heap.size 54 #[.int .i64 f1, .int .i64 i1, .int .i64 z1] := hw1 ▸ (Blk.new w _ _).alloc _
  have hB : Blk w1 (w.heap.size + 1) 54 #[.int .i64 f2, .int .i64 i2, .int .i64 z2] := hw1 ▸ Blk.new_at (by simp)
  have a0 : w1.drew.cell? ⟨w.heap.size, 0, none⟩ = some (.int .i64 f1) := (hA.cell 0).trans rfl
  have a1 : w1.drew.cell? ⟨w.heap.size, 1, none⟩ = some (.int .i64 i1) := (hA.cell 1).trans rfl
  have a2 : w1.drew.cell? ⟨w.heap.size, 2, none⟩ = some (.int .i64 z1) := (hA.cell 2).trans rfl
  have b0 : w1.drew.cell? ⟨w.heap.size + 1, 0, none⟩ = some (.int .i64 f2) := (hB.cell 0).trans rfl
  have b1 : w1.drew.cell? ⟨w.heap.size + 1, 1, none⟩ = some (.int .i64 i2) := (hB.cell 1).trans rfl
  have b2 : w1.drew.cell? ⟨w.heap.size + 1, 2, none⟩ = some (.int .i64 z2) := (hB.cell 2).trans rfl
  have HQ1 := keep (cmp_intR _ _ x w1.drew HX.out)
  have HQ2 := keep (cmp_intR _ _ y w1.drew HY.out)
  have HQ3 := keep (cmp_intR _ _ z w1.drew HZ.out)
  have HW := keep hw1
  clear hw1 hA hB
  go_enter Try.func43, Try.ntmps43
  go_wp2_with fail
  rw [← HW.out]
  refine wp_region_still_tail 15 (by kernel_rfl) (by kernel_rfl) ?_
  simp only [List.take_succ_cons, List.take_zero, List.drop_succ_cons, List.drop_zero]
  iterate 4 still_step
  still_call HQ1.out
  iterate 4 still_step
  still_call HQ2.out
  iterate 4 still_step
  still_call HQ3.out
  refine wpStill_nil ?_
  change wpList _ _ _ _ _ w1.drew
  have hsl : Sl (w1.drew.alloc (.cells #[.int .i64 x, .int .i64 y, .int .i64 z] 3)) (fun b => b = w1.heap.size) 1 (.slice (some ⟨w1.heap.size, 0, none⟩) 3 3) 3 ([x, y, z].map (.int .i64)) :=
    ⟨rfl, _, _, rfl, Nat.le_refl _, fun _ => ⟨_, 0, rfl, rfl, fun j u hu => by rw [Nat.zero_add]; exact (Blk.cell (Blk.new w1.drew 3 #[.int .i64 x, .int .i64 y, .int .i64 z]) j).trans (by simpa using hu)⟩⟩
  have HSL := keep hsl
  clear hsl HQ1 HQ2 HQ3 a0 a1 a2 b0 b1 b2
  go_wp2_with fail
  refine (or_int _ [x, y, z] _ _ HSL.out (by simp)).mono ?_
  rintro e w2 ⟨rfl, rfl⟩
  go_wp2_with fail
  go_ret
  refine ⟨rfl, 1, #[.cells #[.int .i64 f1, .int .i64 i1, .int .i64 z1] 54 (0, 0), .cells #[.int .i64 f2, .int .i64 i2, .int .i64 z2] 54 (0, 0), .cells #[.int .i64 x, .int .i64 y, .int .i64 z] 3 (0, 0)], ?_⟩
  rw [HW.out]
  exact grow_three3 w _ _ _
theorem seen_lays (blk off size : Nat) (w : World) : Go.Proofs.CmpLays Try.prog 43 #[] snV 3 cmpS blk off size w := fun _ _ _ _ x y => seen_cmp x y _
end Go.Proofs.Ytgegmefnbkcdkaa
namespace Go.Proofs.Ytgegmefnbkcdkaa
open Go.RowKit Go.Maps
theorem lawI : Keyed Try.prog 3 := int_keyed Try.underlying3
theorem keyI {i : Int} (h : (Lit.int .i64 i).wf = true) : keyOf Try.prog 3 (.int .i64 i) = some (.int .i64 i) := keyOf_int_mk Try.underlying3 h
theorem wf_i64 {i : Int} (h0 : -9223372036854775808 ≤ i) (h1 : i ≤ 9223372036854775807) : (Lit.int .i64 i).wf = true := by
  simp [Lit.wf, IntKind.min, IntKind.max, IntKind.signed, IntKind.bits]
  omega
/-- The keys of a map. -/
def Kys (D : DataW Unit) (T : List Int) : Prop := IsMap D ∧ ∀ i : Int, has D (.int .i64 i) = T.contains i
theorem Kys.empty : Kys (.map []) [] := ⟨isMap_empty, fun _ => rfl⟩
theorem Kys.put {D : DataW Unit} {T : List Int} (h : Kys D T) (i : Int) (d : DataW Unit) : Kys (D.put (.int .i64 i) d) (T ++ [i]) := by
  refine ⟨h.1.put _ _, fun j => ?_⟩
  by_cases e : j = i
  · subst e
    rw [has_put_same h.1 (show WideAt.IsKeyLit (.int .i64 j) from trivial)]
    simp
  · rw [has_put_other (by intro e2; injection e2 with _ e2; exact e e2), h.2]
    simp [e]
/-- What a range over a map has visited. -/
def Vis (D : DataW Unit) (left : Lit → Bool) (ks : List Int) : Prop := ks.Nodup ∧ (∀ z, left z = (has D z && !ks.any fun x => z.sameKey (.int .i64 x))) ∧ ∀ x ∈ ks, has D (.int .i64 x) = true
theorem Vis.start (D : DataW Unit) : Vis D (has D) [] := ⟨List.nodup_nil, fun z => by simp, fun _ h => by cases h⟩
theorem sameKey_int (a b : Int) : (Lit.int .i64 a).sameKey (.int .i64 b) = decide (a = b) := by simp [Lit.sameKey]
theorem Vis.step {D : DataW Unit} {left : Lit → Bool} {ks : List Int} (h : Vis D left ks) {x : Int} (hl : left (.int .i64 x) = true) : Vis D (fun z => left z && !z.sameKey (.int .i64 x)) (ks ++ [x]) := by
  obtain ⟨h1, h2, h3⟩ := h
  have hx := h2 (.int .i64 x)
  rw [hl] at hx
  have hx' := hx.symm
  rw [Bool.and_eq_true] at hx'
  obtain ⟨ha, hb⟩ := hx'
  refine ⟨?_, fun z => ?_, fun y hy => ?_⟩
  · rw [List.nodup_append]
    refine ⟨h1, by simp, fun a ha' b hb' => ?_⟩
    rw [List.mem_singleton] at hb'
    subst hb'
    intro e
    subst e
    have : (ks.any fun y => (Lit.int .i64 a).sameKey (.int .i64 y)) = true := List.any_eq_true.2 ⟨a, ha', by rw [sameKey_int]; simp⟩
    rw [this] at hb
    cases hb
  · show (left z && !z.sameKey (Lit.int IntKind.i64 x)) = _
    rw [h2 z, List.any_append]
    simp [Bool.and_assoc]
  · rcases List.mem_append.1 hy with hy | hy
    · exact h3 y hy
    · rw [List.mem_singleton.1 hy]; exact ha
theorem Vis.done {D : DataW Unit} {left : Lit → Bool} {ks T : List Int} (h : Vis D left ks) (hd : ∀ z, left z = false) (hK : Kys D T) : ∀ i, i ∈ ks ↔ i ∈ T := by
  obtain ⟨_, h2, h3⟩ := h
  intro i
  constructor
  · intro hi
    have := h3 i hi
    rw [hK.2] at this
    simpa using this
  · intro hi
    have hh : has D (.int .i64 i) = true := by rw [hK.2]; simpa using hi
    have h4 := h2 (.int .i64 i)
    rw [hd, hh, Bool.true_and] at h4
    have h5 : (ks.any fun x => (Lit.int .i64 i).sameKey (.int .i64 x)) = true := by
      cases hq : ks.any fun x => (Lit.int .i64 i).sameKey (.int .i64 x)
      · rw [hq] at h4; cases h4
      · rfl
    obtain ⟨y, hy, e⟩ := List.any_eq_true.1 h5
    rw [sameKey_int] at e
    simp at e
    exact e ▸ hy
/-- The step of a range over such a map. -/
theorem wpList_next_is (w : World) {ops : Array Oper} {rest : List Oper} {o : Oper} {a : Act} {Q : Exit → Act → World → Prop} (hg : o.guard = none) (it : Operand) (hop : o.op = Op.next it false)
    (b r n : Nat) (D : DataW Unit) (left : Lit → Bool) (cnt : Nat) (hit : a.eval it = .pointer (some ⟨r, 0, none⟩)) (h : w.ranges Try.prog 3 (plainElem Try.prog 9) b r n D left cnt)
    (hDone : cnt = 0 → (∀ kl, left kl = false) → wpList Try.prog ops Q rest (a.put o.dst (.tuple #[.bool false])) w)
    (hMore : ∀ (x : Int) (s : ByteArray) (w' : World) (cnt' : Nat), (Lit.int .i64 x).wf = true → left (.int .i64 x) = true → w'.ranges Try.prog 3 (plainElem Try.prog 9) b r n D (fun z => left z && !z.sameKey (.int .i64 x)) cnt' → cnt' < cnt →
      w.grownBy w' (some r) → w'.heap.size = w.heap.size → (Instr.entry (.pointer (some ⟨r, 0, none⟩))).run Try.prog w' = .ok (.tuple #[.int .i64 x, .string s]) w' → wpList Try.prog ops Q rest (a.put o.dst (.tuple #[.bool true, .int .i64 x, .string s])) w') :
    wpList Try.prog ops Q (o :: rest) a w :=
  wpList_next_ranges w hg it hop 3 lawI (plainElem Try.prog 9) (Value.int .i64) Value.string (fun key kl hkey => by obtain ⟨x, rfl, _⟩ := Maps.keyOf_int_inv Try.underlying3 hkey; exact ⟨x, rfl⟩) (fun v y hv => by obtain ⟨c, rfl, _⟩ := plainElem_string_inv Try.underlying9 hv; exact ⟨c, rfl⟩)
    b r n D left cnt hit h (fun h0 hl => hDone h0 hl) (fun x c kl y w' cnt' hkey hlk hv hat hrg hlt hgr hsz hen => by
      obtain ⟨x', ex, rfl, hx⟩ := Maps.keyOf_int_inv Try.underlying3 hkey
      cases ex
      exact hMore x c w' cnt' hx hlk hrg hlt hgr hsz hen)
end Go.Proofs.Ytgegmefnbkcdkaa
