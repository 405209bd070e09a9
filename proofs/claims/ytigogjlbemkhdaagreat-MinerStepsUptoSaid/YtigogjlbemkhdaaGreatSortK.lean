/- slices.SortFunc at a row of our own, its elements of k cells each: what the row owns behind it. No program in sight. -/
import Derived.Test.YtigogjlbemkhdaaGreatEdit
import Derived.Shelf.SlSortCmp.NoneTotal
import Derived.Sort.OwnSorted
namespace Go.Proofs.YtigogjlbemkhdaaGreat
open Go.RowKit Go.Sort Go.Shelf
section
variable {α : Type} [Inhabited α]
theorem flat_list (enc : α → List Value) (k : Nat) (hk : ∀ x, (enc x).length = k) (hp : 0 < k) : ∀ l : List α, (flatK enc k l.toArray).toList = l.flatMap enc := by
  intro l
  have hlen : (l.flatMap enc).length = l.length * k := by
    induction l with
    | nil => simp
    | cons x l ih => rw [List.flatMap_cons, List.length_append, ih, hk, List.length_cons, Nat.add_mul, Nat.one_mul, Nat.add_comm]
  apply List.ext_getElem?
  intro j
  by_cases hj : j < l.length * k
  · have hd : j / k < l.length := Nat.div_lt_of_lt_mul (by rwa [Nat.mul_comm] at hj)
    have hm : j % k < k := Nat.mod_lt _ hp
    have e : j = j / k * k + j % k := by rw [Nat.mul_comm]; exact (Nat.div_add_mod j k).symm
    have key : ∀ (l : List α) (q r : Nat), q < l.length → r < k → (l.flatMap enc)[q * k + r]? = (enc (l[q]!))[r]? := by
      intro l
      induction l with
      | nil => intro q r h; simp at h
      | cons x l ih =>
        intro q r hq hr
        rw [List.flatMap_cons]
        cases q with
        | zero =>
          rw [Nat.zero_mul, Nat.zero_add, List.getElem?_append_left (by rw [hk]; exact hr)]
          simp
        | succ q =>
          rw [List.getElem?_append_right (by rw [hk, Nat.add_mul]; omega), hk, show (q + 1) * k + r - k = q * k + r by rw [Nat.add_mul]; omega, ih q r (by simpa using hq) hr]
          simp
    rw [e, key l _ _ hd hm, ← e]
    have hs : j < (flatK enc k l.toArray).size := by rw [size_flatK]; simpa using hj
    rw [Array.getElem?_toList, Array.getElem?_eq_getElem hs]
    have h2 := get_flatK enc k l.toArray j (by simpa using hj)
    rw [getElem!_pos _ j hs] at h2
    rw [h2]
    have e2 : (l.toArray)[j / k]! = l[j / k]! := by simp
    rw [e2]
    have hr : j % k < (enc l[j / k]!).length := by rw [hk]; exact hm
    rw [List.getElem?_eq_getElem hr, getElem!_pos (enc l[j / k]!) (j % k) hr]
  · have e1 : (flatK enc k l.toArray).toList[j]? = none := List.getElem?_eq_none (by rw [Array.length_toList, size_flatK]; simpa using hj)
    have e2 : (l.flatMap enc)[j]? = none := List.getElem?_eq_none (by rw [hlen]; omega)
    rw [e1, e2]
theorem holdsK_own {enc : α → List Value} {k : Nat} (hk : ∀ x, (enc x).length = k) (hp : 0 < k) {w : World} {base e g : Nat} {v : Value} {l : List α} (h : w.ownsRow base e k v l.length (l.flatMap enc)) (hg : v.ownBlock = some g) : HoldsK enc k w g 0 l.toArray := by
  intro j hj
  have hj' : j < l.length * k := by simpa using hj
  refine ⟨?_, own_frozen h hg _⟩
  rw [Nat.zero_add, own_cell h hg j hj', ← flat_list enc k hk hp l, Array.getElem?_toList, Array.getElem?_eq_getElem hj, getElem!_pos (flatK enc k l.toArray) j hj]
  rfl
theorem heap_sortedK {w : World} {g n : Nat} {os : Array Obj} {cur : Array Value} {e : TypeId} {fr : Nat × Nat} (F : Array Value) (hb : w.heap[g]? = some (.cells cur e fr)) :
    (grow (putRow id (Sort.ahead w n) g 0 F) os).heap[g]? = some (.cells (putCells id 0 F cur) e fr) := by
  have hg : g < w.heap.size := (Array.getElem?_eq_some_iff.1 hb).1
  rw [heap_grow_old _ _ (by simpa using hg)]
  simp [putRow, mapBlock, Sort.ahead, Array.getElem?_modify, hb, onCells]
theorem grownBy_sortedK {w : World} {g n : Nat} {os : Array Obj} (F : Array Value) : w.grownBy (grow (putRow id (Sort.ahead w n) g 0 F) os) (some g) := by
  refine ⟨rfl, rfl, rfl, by simp, fun k hk hne => ?_⟩
  rw [heap_grow_old _ _ (by simpa using hk)]
  have : g ≠ k := fun e => hne (by rw [e])
  simp [putRow, mapBlock, Sort.ahead, Array.getElem?_modify, this]
theorem take_putCellsK (cur F : Array Value) (h : F.size ≤ cur.size) : (putCells id 0 F cur).toList.take F.size = F.toList := by
  apply List.ext_getElem?
  intro j
  by_cases hj : j < F.size
  · rw [List.getElem?_take_of_lt hj, Array.getElem?_toList, Array.getElem?_toList]
    simp [putCells, hj, show j < cur.size by omega]
  · rw [List.getElem?_take_eq_none (by omega), List.getElem?_eq_none (by simp; omega)]
theorem own_sortedK {enc : α → List Value} {k : Nat} (hk : ∀ x, (enc x).length = k) (hp : 0 < k) {w : World} {base e g n cap : Nat} {os : Array Obj} {l ts : List α} (hl : ts.length = l.length)
    (h : w.ownsRow base e k (.slice (some ⟨g, 0, none⟩) l.length cap) l.length (l.flatMap enc)) :
    (sortWorldK enc k w g 0 n ts.toArray os).ownsRow base e k (.slice (some ⟨g, 0, none⟩) l.length cap) l.length (ts.flatMap enc) := by
  obtain ⟨cap', cur, he, h1, h2, h3, h4, h5, _⟩ := own_at h rfl
  injection he with _ _ he
  subst he
  have h7 := heap_sortedK (n := n) (os := os) (flatK enc k ts.toArray) h2
  have hs : (flatK enc k ts.toArray).size = l.length * k := by rw [size_flatK]; simp [hl]
  have := own_mk (n := l.length) (size := k) h1 h7 h3 h4 (by simp [putCells, h5])
  have hf : (flatK enc k ts.toArray).size ≤ cur.size := by rw [hs, h5]; exact Nat.mul_le_mul_right _ h3
  have ht := take_putCellsK cur (flatK enc k ts.toArray) hf
  rw [hs] at ht
  rw [ht, flat_list enc k hk hp] at this
  exact this
end
end Go.Proofs.YtigogjlbemkhdaaGreat
