/- The names and files of a directory in memory: rows of two and of five cells. No program in sight. -/
import Derived.Test.YtgegmefnbkcdkaaDoorFsIns
namespace Go.Proofs.YtgegmefnbkcdkaaDoor
open Go.RowKit
abbrev lb (s : ByteArray) : List UInt8 := s.data.toList
/-- A name. -/
structure Nm where
  nm : ByteArray
  ino : Int
def nmV (t : Nm) : List Value := [.string t.nm, .int .i64 t.ino]
def nms (L : List Nm) : List Value := L.flatMap nmV
/-- A file: its bytes' slice, what that reads as. -/
structure Fi where
  ino : Int
  dv : Value
  data : List UInt8
  cp : Bool
  wh : Bool
  left : Int
def fiV (t : Fi) : List Value := [.int .i64 t.ino, t.dv, .bool t.cp, .bool t.wh, .int .i64 t.left]
def fis (L : List Fi) : List Value := L.flatMap fiV
section
variable {α : Type} {f : α → List Value} {k : Nat}
theorem rows_len (hf : ∀ a, (f a).length = k) (L : List α) : (L.flatMap f).length = L.length * k := by
  induction L with
  | nil => simp
  | cons a l ih => rw [List.flatMap_cons, List.length_append, ih, hf, List.length_cons, Nat.add_mul]; omega
theorem rows_at (hf : ∀ a, (f a).length = k) (L : List α) (i : Nat) (h : i < L.length) (j : Nat) (hj : j < k) : (L.flatMap f)[i * k + j]? = (f L[i])[j]? := by
  induction L generalizing i with
  | nil => simp at h
  | cons a l ih =>
    rw [List.flatMap_cons]
    have ha := hf a
    cases i with
    | zero => rw [List.getElem?_append_left (by omega)]; simp
    | succ i =>
      rw [List.getElem?_append_right (by rw [ha, Nat.add_mul]; omega), ha, show (i + 1) * k + j - k = i * k + j by rw [Nat.add_mul]; omega, ih i (by simpa using h)]
      simp
theorem rows_take (hf : ∀ a, (f a).length = k) (L : List α) (i : Nat) (h : i ≤ L.length) : (L.flatMap f).take (i * k) = (L.take i).flatMap f := by
  have e : L.flatMap f = (L.take i).flatMap f ++ (L.drop i).flatMap f := by rw [← List.flatMap_append, List.take_append_drop]
  rw [e]
  have hl : ((L.take i).flatMap f).length = i * k := by rw [rows_len hf, List.length_take, Nat.min_eq_left h]
  exact List.take_left' hl
theorem rows_drop (hf : ∀ a, (f a).length = k) (L : List α) (i : Nat) (h : i ≤ L.length) : (L.flatMap f).drop (i * k) = (L.drop i).flatMap f := by
  have e : L.flatMap f = (L.take i).flatMap f ++ (L.drop i).flatMap f := by rw [← List.flatMap_append, List.take_append_drop]
  rw [e]
  have hl : ((L.take i).flatMap f).length = i * k := by rw [rows_len hf, List.length_take, Nat.min_eq_left h]
  exact List.drop_left' hl
theorem rows_set (hf : ∀ a, (f a).length = k) (L : List α) (i : Nat) (h : i < L.length) (j : Nat) (hj : j < k) (u : Value) (a : α) (ha : f a = (f L[i]).set j u) : (L.flatMap f).set (i * k + j) u = (L.set i a).flatMap f := by
  have e1 : L = L.take i ++ L[i] :: L.drop (i + 1) := by rw [← List.drop_eq_getElem_cons h, List.take_append_drop]
  have hl : ((L.take i).flatMap f).length = i * k := by rw [rows_len hf, List.length_take, Nat.min_eq_left (by omega)]
  have e2 : L.set i a = L.take i ++ a :: L.drop (i + 1) := by rw [List.set_eq_take_append_cons_drop, if_pos h]
  have e3 : L.flatMap f = (L.take i).flatMap f ++ (f L[i] ++ (L.drop (i + 1)).flatMap f) := by
    have := congrArg (fun l : List α => l.flatMap f) e1
    simp only [List.flatMap_append, List.flatMap_cons] at this
    exact this
  rw [e2, e3, List.set_append_right _ _ (by omega), hl, show i * k + j - i * k = j by omega, List.set_append_left _ _ (by rw [hf]; exact hj)]
  simp [ha]
end
theorem nmV_len (t : Nm) : (nmV t).length = 2 := rfl
theorem fiV_len (t : Fi) : (fiV t).length = 5 := rfl
theorem nms_len (L : List Nm) : (nms L).length = L.length * 2 := rows_len nmV_len L
theorem fis_len (L : List Fi) : (fis L).length = L.length * 5 := rows_len fiV_len L
theorem nm_cells {w : World} {S : Nat → Prop} {A : Option Addr} {c k : Nat} {L : List Nm} (h : Sl w S 2 (.slice A L.length c) L.length (nms L)) (hk : k < L.length) :
    ∃ b o, A = some ⟨b, o, none⟩ ∧ S b ∧ w.cell? ⟨b, o + k * 2, none⟩ = some (.string L[k].nm) ∧ w.cell? ⟨b, o + k * 2 + 1, none⟩ = some (.int .i64 L[k].ino) := by
  obtain ⟨b, o, hA, hb, hrow⟩ := h.row (by omega)
  have q : ∀ j, j < 2 → ∀ u, (nmV L[k])[j]? = some u → w.cell? ⟨b, o + k * 2 + j, none⟩ = some u := fun j hj u hu => by
    have := hrow _ _ ((rows_at nmV_len L k hk j hj).trans hu)
    rwa [← Nat.add_assoc] at this
  exact ⟨b, o, hA, hb, q 0 (by omega) _ rfl, q 1 (by omega) _ rfl⟩
theorem fi_cells {w : World} {S : Nat → Prop} {A : Option Addr} {c k : Nat} {L : List Fi} (h : Sl w S 5 (.slice A L.length c) L.length (fis L)) (hk : k < L.length) :
    ∃ b o, A = some ⟨b, o, none⟩ ∧ S b ∧ w.cell? ⟨b, o + k * 5, none⟩ = some (.int .i64 L[k].ino) ∧ w.cell? ⟨b, o + k * 5 + 1, none⟩ = some L[k].dv ∧ w.cell? ⟨b, o + k * 5 + 2, none⟩ = some (.bool L[k].cp) ∧ w.cell? ⟨b, o + k * 5 + 3, none⟩ = some (.bool L[k].wh) ∧ w.cell? ⟨b, o + k * 5 + 4, none⟩ = some (.int .i64 L[k].left) := by
  obtain ⟨b, o, hA, hb, hrow⟩ := h.row (by omega)
  have q : ∀ j, j < 5 → ∀ u, (fiV L[k])[j]? = some u → w.cell? ⟨b, o + k * 5 + j, none⟩ = some u := fun j hj u hu => by
    have := hrow _ _ ((rows_at fiV_len L k hk j hj).trans hu)
    rwa [← Nat.add_assoc] at this
  exact ⟨b, o, hA, hb, q 0 (by omega) _ rfl, q 1 (by omega) _ rfl, q 2 (by omega) _ rfl, q 3 (by omega) _ rfl, q 4 (by omega) _ rfl⟩
/-- Blocks of bytes. -/
def u8B (w : World) (b : Nat) : Prop := ∃ cur f, w.heap[b]? = some (.cells cur 5 f)
theorem u8B.lt_ {w : World} {b : Nat} (h : u8B w b) : b < w.heap.size := by obtain ⟨_, _, h⟩ := h; exact (Array.getElem?_eq_some_iff.1 h).1
theorem u8B.grown {w w' : World} {b : Nat} {row : Option Nat} (h : u8B w b) (hg : w.grownBy w' row) (hr : some b ≠ row) : u8B w' b := by
  have hl := h.lt_
  obtain ⟨cur, f, h⟩ := h
  exact ⟨cur, f, (hg.block b hl hr).trans h⟩
def bys (l : List UInt8) : List Value := l.map fun b => .int .u8 (b.toNat : Int)
/-- The bytes of a file are there. -/
def FiR (w : World) (t : Fi) : Prop := Sl w (u8B w) 1 t.dv t.data.length (bys t.data) ∧ t.data.length ≤ 1000000
theorem FiR.form {w : World} {t : Fi} (h : FiR w t) : ∃ A c, t.dv = .slice A t.data.length c := by obtain ⟨A, c, hv, _⟩ := h.1.form; exact ⟨A, c, hv⟩
theorem FiR.grown {w w' : World} {t : Fi} {row : Option Nat} (h : FiR w t) (hg : w.grownBy w' row) (hr : ∀ b, u8B w b → some b ≠ row) : FiR w' t := by
  obtain ⟨⟨hl, A, c, hv, hc, hrr⟩, hn⟩ := h
  refine ⟨⟨hl, A, c, hv, hc, fun hn => ?_⟩, hn⟩
  obtain ⟨b, o, hA, hb, hrow⟩ := hrr hn
  exact ⟨b, o, hA, hb.grown hg (hr b hb), hrow.keep fun p hp => World.cell?_of_block (hg.block p.block (hp ▸ hb.lt_) (hp ▸ hr b hb))⟩
theorem FiR.up {w w' : World} {t : Fi} (h : FiR w t) (hb : Below w.heap.size w w') : FiR w' t := h.grown (grownBy_of_below hb none) (by simp)
theorem Sl.upW {w w' : World} {size n : Nat} {v : Value} {xs : List Value} (h : Sl w (lt w.heap.size) size v n xs) (hb : Below w.heap.size w w') : Sl w' (lt w'.heap.size) size v n xs := (h.below hb (Nat.le_refl _)).more hb.size
/-- A block that has another type holds no bytes. -/
theorem noU8 {w : World} {g : Nat} {cs : Array Value} {t : TypeId} {f : Nat × Nat} (h : w.heap[g]? = some (.cells cs t f)) (ht : t ≠ 5) : ∀ b, u8B w b → some b ≠ some g := by
  rintro b ⟨cur, f', hb⟩ e
  injection e with e
  subst e
  rw [h] at hb
  injection hb with hb
  injection hb with _ hb _
  exact ht hb
theorem own_noU8 {w : World} {base e size n : Nat} {v : Value} {xs : List Value} (h : w.ownsRow base e size v n xs) (ht : e ≠ 5) : ∀ b, u8B w b → some b ≠ v.ownBlock := by
  intro b hb e
  obtain ⟨_, _, _, _, h2, _⟩ := own_at h e.symm
  exact noU8 h2 ht b hb rfl
theorem own_u8 {w : World} {base n : Nat} {v : Value} {xs : List Value} (h : w.ownsRow base 5 1 v n xs) : Sl w (u8B w) 1 v n xs := by
  refine ⟨h.1, ?_⟩
  rcases h.2 with ⟨hv, hn⟩ | ⟨g, cap, cur, hv, hb, hg, hnc, _⟩
  · subst hn; exact ⟨none, 0, hv, Nat.le_refl _, fun h => absurd h (by omega)⟩
  · refine ⟨_, cap, hv, hnc, fun _ => ⟨g, 0, rfl, ⟨cur, _, hg⟩, fun j u hu => ?_⟩⟩
    have hc := h.cells (g := g) (by rw [hv]; rfl) j u hu
    rw [Addr.add_lit] at hc
    exact hc
theorem nms_one (L : List Nm) : ∀ u ∈ nms L, u.oneCell' = true := by
  intro u hu
  obtain ⟨t, _, hu⟩ := List.mem_flatMap.1 hu
  simp only [nmV, List.mem_cons, List.not_mem_nil, or_false] at hu
  rcases hu with rfl | rfl <;> rfl
theorem fis_one {w : World} (L : List Fi) (h : ∀ t ∈ L, FiR w t) : ∀ u ∈ fis L, u.oneCell' = true := by
  intro u hu
  obtain ⟨t, ht, hu⟩ := List.mem_flatMap.1 hu
  obtain ⟨A, c, hv⟩ := (h t ht).form
  simp only [fiV, hv, List.mem_cons, List.not_mem_nil, or_false] at hu
  rcases hu with rfl | rfl | rfl | rfl | rfl <;> rfl
end Go.Proofs.YtgegmefnbkcdkaaDoor
