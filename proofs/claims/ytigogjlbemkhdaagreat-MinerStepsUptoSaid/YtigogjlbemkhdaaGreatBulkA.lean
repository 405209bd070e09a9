/- Arguments that came in, with their sizes bounded by the reading's bulk. Arguments opened: a slice of strings that came in, its strings bounded by the reading's bulk. -/
import Derived.Test.YtigogjlbemkhdaaGreatOpen
import Derived.JoinedCond
namespace Go.Proofs.YtigogjlbemkhdaaGreat
open Go.ChangeShapes Go.WideShapes Go.ChangeAt Go.RowKit
theorem bulk_part {H : Type} {d : DataW H} {l : List (DataW H)} (h : d ∈ l) : Rows.uptoBulk d ≤ Rows.uptoBulkAll l := by
  induction l with
  | nil => cases h
  | cons x r ih =>
    simp only [Rows.uptoBulkAll]
    cases List.mem_cons.1 h with
    | inl e => subst e; omega
    | inr e => have := ih e; omega
theorem bulk_one {H : Type} (d : DataW H) : 1 ≤ Rows.uptoBulk d := by
  cases d with
  | lit l => cases l <;> simp [Rows.uptoBulk]
  | nil => simp [Rows.uptoBulk]
  | ptr d => simp [Rows.uptoBulk]
  | slice elems spare => simp [Rows.uptoBulk]
  | agg parts => simp [Rows.uptoBulk]
  | iface t d => simp [Rows.uptoBulk]
  | map entries => simp [Rows.uptoBulk]
  | held h => simp [Rows.uptoBulk]
theorem bulk_len {H : Type} (l : List (DataW H)) : l.length ≤ Rows.uptoBulkAll l := by
  induction l with
  | nil => simp [Rows.uptoBulkAll]
  | cons x r ih => have := bulk_one x; simp only [Rows.uptoBulkAll, List.length_cons]; omega
section
variable {H : Type} {enc : TypeId × Value → H} {P : Program} {w : World}
/-- A slice of integers that came in is no longer than its bulk. -/
theorem sl_intsB {t e fuel : Nat} {k : IntKind} {v : Value} {x : DataW H × List MemPlace} (ht : P.underlying t = some (.slice e)) (he : P.underlying e = some (.int k)) (hC : P.cellsOf e = 1)
    (h : DataW.trod enc P w 0 (fun _ => true) true fuel t [v] = some x) :
    ∃ l : List Int, Sl w (lt w.heap.size) 1 v l.length (l.map (.int k)) ∧ l.length ≤ maxLen ∧ (∀ n ∈ l, (Lit.int k n).wf = true) ∧ l.length ≤ Rows.uptoBulk x.1 := by
  obtain ⟨l, h1, h2, h3⟩ := sl_ints ht he hC h
  refine ⟨l, h1, h2, h3, ?_⟩
  rcases open_ints ht he hC h with ⟨hcs, hx⟩ | ⟨a, len, cap, zs, hcs, _, hl, hm, hz, hx, _⟩
  · simp at hcs
    subst hcs
    obtain ⟨_, _, _, hv, _⟩ := h1
    injection hv with _ hn _
    omega
  · simp at hcs
    subst hcs
    obtain ⟨_, _, _, hv, _⟩ := h1
    injection hv with _ hn _
    have hz' : zs.length = cap := by simpa using hz
    have e1 : (zs.take len).length = len := by rw [List.length_take]; omega
    rw [hx]
    have := bulk_len (H := H) (lits k (zs.take len))
    have e2 : (lits (H := H) k (zs.take len)).length = len := by unfold lits; rw [List.length_map, e1]
    simp only [Rows.uptoBulk]
    omega
theorem bytes_of_ints {S : Nat → Prop} {v : Value} {bs : List Int} (h : Sl w S 1 v bs.length (bs.map (.int .u8))) (hr : ∀ x ∈ bs, (Lit.int .u8 x).wf = true) : ∃ l : List UInt8, l.length = bs.length ∧ Sl w S 1 v l.length (l.map fun b => .int .u8 (b.toNat : Int)) := by
  refine ⟨bs.map fun x => UInt8.ofNat x.toNat, by simp, ?_⟩
  have e : (bs.map fun x => UInt8.ofNat x.toNat).map (fun b => Value.int .u8 (b.toNat : Int)) = bs.map (.int .u8) := by
    rw [List.map_map]
    refine List.map_congr_left fun x hx => ?_
    have hb : 0 ≤ x ∧ x ≤ 255 := by simpa [Lit.wf, IntKind.min, IntKind.max, IntKind.signed, IntKind.bits] using hr x hx
    show Value.int .u8 ((UInt8.ofNat x.toNat).toNat : Int) = .int .u8 x
    congr 1
    simp only [UInt8.toNat_ofNat']
    omega
  rw [e, List.length_map]
  exact h
end
end Go.Proofs.YtigogjlbemkhdaaGreat
namespace Go.Proofs.YtigogjlbemkhdaaGreat
open Go.ChangeShapes Go.WideShapes Go.ChangeAt Go.RowKit
section
variable {H : Type} {enc : TypeId × Value → H} {P : Program} {w : World}
theorem sl_strsB {t e fuel : Nat} {v : Value} {x : DataW H × List MemPlace} (ht : P.underlying t = some (.slice e)) (he : P.underlying e = some .string) (hC : P.cellsOf e = 1)
    (h : DataW.trod enc P w 0 (fun _ => true) true fuel t [v] = some x) :
    ∃ l : List ByteArray, Sl w (lt w.heap.size) 1 v l.length (l.map .string) ∧ l.length + 1 ≤ Rows.uptoBulk x.1 ∧ ∀ s ∈ l, s.size + 1 ≤ Rows.uptoBulk x.1 := by
  rcases open_strings ht he hC h with ⟨hcs, hx⟩ | ⟨a, len, cap, zs, hcs, _, hl, hm, hz, hx, hcell, hwz⟩
  · simp at hcs
    subst hcs
    exact ⟨[], Sl.nil _ _ _ _ _, by rw [hx]; simp [Rows.uptoBulk], fun s hs => by simp at hs⟩
  · simp at hcs
    subst hcs
    have hz' : zs.length = cap := by simpa using hz
    have hlen : (zs.take len).length = len := by simp; omega
    have hbl : (zs.take len).length + 1 ≤ Rows.uptoBulk x.1 := by
      have h1 := bulk_len (H := H) (strs (zs.take len))
      have h2 : (strs (H := H) (zs.take len)).length = (zs.take len).length := by unfold strs; rw [List.length_map]
      rw [hx]
      simp only [Rows.uptoBulk]
      omega
    refine ⟨zs.take len, ?_, hbl, fun s hs => ?_⟩
    · rw [hlen]
      refine ⟨by simp; omega, some a, cap, rfl, hl, fun hp => ?_⟩
      obtain ⟨b, o, spot⟩ := a
      have hc0 := hcell 0 (by omega)
      have hspot : spot = none := by simpa [Addr.add] using World.cell?_spot hc0
      subst hspot
      have hb : b < w.heap.size := by
        have := World.block_lt_of_cell? w _ hc0
        simpa [Addr.add] using this
      refine ⟨b, o, rfl, hb, fun j u hu => ?_⟩
      have hj : j < len := by
        have := (List.getElem?_eq_some_iff.1 hu).1
        rw [List.length_map, hlen] at this; exact this
      have hcj := hcell j (by omega)
      rw [Addr.add_lit] at hcj
      have : ((zs.take len).map Value.string)[j]? = some (.string (zs.getD j ByteArray.empty)) := by
        simp [hj, show j < zs.length by omega]
      rw [this] at hu
      rw [← hu]; exact hcj
    · rw [hx]
      have h1 : (DataW.lit (.string s.data.toList) : DataW H) ∈ strs (zs.take len) := List.mem_map.2 ⟨s, hs, rfl⟩
      have h2 := bulk_part h1
      have h3 : Rows.uptoBulk (DataW.lit (.string s.data.toList) : DataW H) = s.data.toList.length + 1 := by simp [Rows.uptoBulk]
      have h4 : s.data.toList.length = s.size := rfl
      simp only [Rows.uptoBulk]
      omega
end
end Go.Proofs.YtigogjlbemkhdaaGreat
