/- slices.DeleteFunc where the last element alone goes. -/
import Derived.Test.YtkjhnipjhefndaaCnt
import Derived.Laws.IdiomCopy
namespace Go.Proofs.Ytkjhnipjhefndaa
open Go.RowKit

theorem grown_setCells (g : Nat) : ∀ (vs : List Value) (o : Nat) (w : World), w.grownBy (w.setCells g o vs) (some g)
  | [], _, w => World.grownBy.refl w _
  | v :: r, o, w => grownBy_trans (grownBy_set (World.grownBy.refl w (some g)) o v) (grown_setCells g r (o + 1) (w.setCell ⟨g, o, none⟩ v))
abbrev zero7 : List Value := [.int .i64 0, .int .i64 0, .int .i64 0, .int .i64 0, .int .i64 0, .int .i64 0, .int .i64 0]
theorem run_clear7 (w : World) (ty : TypeId) (b o c : Nat) (hc : ∀ j, j < 7 → (w.cell? ⟨b, o + j, none⟩).isSome = true) (hf : ∀ j, j < 7 → w.frozen? ⟨b, o + j, none⟩ = false) :
    (Builtin.clear_ #[22] ty #[.slice (some ⟨b, o, none⟩) 1 c]).run Try.prog w = .ok (.tuple #[]) (w.setCells b o zero7) := by
  have hv : ∀ w, (zeroValue 46).run Try.prog w = .ok (.agg #[.int .i64 0, .int .i64 0, .int .i64 0, .int .i64 0, .int .i64 0, .int .i64 0, .int .i64 0]) w := fun _ => by kernel_rfl
  have hzc : (Builtin.zeroCells (Value.cells (.agg #[.int .i64 0, .int .i64 0, .int .i64 0, .int .i64 0, .int .i64 0, .int .i64 0, .int .i64 0])) 1).toList = zero7 := by kernel_rfl
  have hst := run_storeCells_cells (P := Try.prog) b o zero7 0 w (by simpa using hc) (by simpa using hf) (by intro v hv'; simp at hv'; subst hv'; rfl)
  simp only [Nat.add_zero] at hst
  simp [Builtin.clear_, run_underlying Try.underlying22, hv, hzc, hst]
theorem own_cells7 {w : World} {base n : Nat} {v : Value} {xs ys : List Value} (h : w.ownsRow base 46 7 v (n + 1) (xs ++ ys)) (hy : ys.length = 7) :
    ∃ g c, v = .slice (some ⟨g, 0, none⟩) (n + 1) c ∧ base ≤ g ∧ g < w.heap.size ∧ n + 1 ≤ c ∧ (∀ j, j < 7 → (w.cell? ⟨g, n * 7 + j, none⟩).isSome = true) ∧ (∀ j, j < 7 → w.frozen? ⟨g, n * 7 + j, none⟩ = false) ∧ Row w g 0 xs := by
  have hx : xs.length = n * 7 := by have := h.1; rw [List.length_append, hy] at this; omega
  rcases h.2 with ⟨_, h0⟩ | ⟨g, cap, cur, hv, hb, hg, hnc, hcm, hcs, ht⟩
  · omega
  · have hgl := (Array.getElem?_eq_some_iff.1 hg).1
    have hcur : (n + 1) * 7 ≤ cur.size := by rw [hcs]; exact Nat.mul_le_mul_right _ hnc
    refine ⟨g, cap, hv, hb, hgl, hnc, fun j hj => ?_, fun j hj => ?_, fun j u hu => ?_⟩
    · have : n * 7 + j < cur.size := by omega
      simp [World.cell?, hg, this]
    · simp [World.frozen?, hg]
    · have hjl : j < xs.length := (List.getElem?_eq_some_iff.1 hu).1
      have hj2 : j < cur.size := by omega
      have e1 : (cur.toList.take ((n + 1) * 7))[j]? = some u := by
        rw [ht, List.getElem?_append_left hjl]
        exact hu
      rw [List.getElem?_take, if_pos (by omega)] at e1
      simp only [Nat.zero_add, World.cell?, hg]
      simpa [hj2] using e1
def DelRes (w : World) (base : Nat) (v : Value) (n : Nat) (xs : List Value) (e : Ending) (w' : World) : Prop :=
  ∃ g c, v = .slice (some ⟨g, 0, none⟩) (n + 1) c ∧ base ≤ g ∧ g < w.heap.size ∧ e = .returned (.slice (some ⟨g, 0, none⟩) n c) ∧ Sl w' (fun k => k = g) 7 (.slice (some ⟨g, 0, none⟩) n c) n xs ∧ w.grownBy w' (some g)
set_option maxHeartbeats 2000000 in
set_option maxRecDepth 100000 in
theorem delLast_any (v vi : Value) (l : List Seg) (x : Seg) (gi base : Nat) (id : Int) (w : World) (hown : w.ownsRow base 46 7 v (l.length + 1) (l.flatMap Seg.vals ++ x.vals)) (hB : Blk w gi 50 #[vi]) (hi : Sl w (lt base) 1 vi 1 [.int .i64 id]) (hbw : base ≤ w.heap.size)
    (hno : ∀ j, (h : j < l.length) → (l[j].id == id) = false) (hx : (x.id == id) = true) (hm : l.length + 1 ≤ 1000000) :
    Calls Try.prog 57 #[v, .func (.func 58) #[] #[.pointer (some ⟨gi, 0, none⟩)]] w (DelRes w base v l.length (l.flatMap Seg.vals)) := by
  obtain ⟨g, c, rfl, hbg, hgl, hc, hcs, hfs, hrow⟩ := own_cells7 hown rfl
  have hS : Sl w (lt w.heap.size) 7 (.slice (some ⟨g, 0, none⟩) (l ++ [x]).length c) (l ++ [x]).length ((l ++ [x]).flatMap Seg.vals) := by
    have h := Sl.of_own hown
    rw [List.length_append, List.flatMap_append]
    simpa using h
  have hI := idxRem_any _ vi (l ++ [x]) gi id w hB (hi.mono (fun k hk => Nat.lt_of_lt_of_le hk hbw)) hS (by simp; omega)
  have hln : (l ++ [x]).length = l.length + 1 := by simp
  rw [hln] at hI
  go_enter Try.func57, Try.ntmps57
  go_wp2_with fail
  refine hI.mono ?_
  rintro e w1 ⟨r, rfl, hr, hb1⟩
  have hrl : r = (l.length : Int) := by
    rcases hr with ⟨i, hi2, rfl, hp, hn⟩ | ⟨rfl, hn⟩
    · have : i = l.length := by
        rcases Nat.lt_or_ge i l.length with h | h
        · have h2 := hno i h
          simp only [List.getElem_append_left h] at hp
          rw [h2] at hp
          cases hp
        · rw [hln] at hi2; omega
      rw [this]
    · have h2 := hn l.length (by rw [hln]; omega)
      simp at h2
      rw [beq_iff_eq] at hx
      exact absurd hx h2
  subst hrl
  have hclr := fun ty => run_clear7 w1 ty g (l.length * 7) (c - l.length) (fun j hj => by rw [hb1.cell (p := ⟨g, l.length * 7 + j, none⟩) hgl]; exact hcs j hj) (fun j hj => by rw [hb1.frozen (p := ⟨g, l.length * 7 + j, none⟩) hgl]; exact hfs j hj)
  have hxl : (l.flatMap Seg.vals).length = l.length * 7 := by have := hown.1; rw [List.length_append] at this; have h7 : x.vals.length = 7 := rfl; omega
  have hg2 := grownBy_trans (grownBy_of_below hb1 (some g)) (grown_setCells g zero7 (l.length * 7) w1)
  have HF : Hid (DelRes w base (.slice (some ⟨g, 0, none⟩) (l.length + 1) c) l.length (l.flatMap Seg.vals) (.returned (.slice (some ⟨g, 0, none⟩) l.length c)) (w1.setCells g (l.length * 7) zero7)) := by
    refine keep ⟨g, c, rfl, hbg, hgl, rfl, ⟨hxl, _, c, rfl, by omega, fun _ => ⟨g, 0, rfl, rfl, fun j u hu => ?_⟩⟩, hg2⟩
    have hj : j < (l.flatMap Seg.vals).length := (List.getElem?_eq_some_iff.1 hu).1
    rw [World.cell?_setCells_out g zero7 (l.length * 7) w1 ⟨g, 0 + j, none⟩ (fun _ _ => .inl (by show 0 + j < _; omega)), hb1.cell (p := ⟨g, 0 + j, none⟩) hgl]
    exact hrow j u hu
  have k1 : ((l.length : Int) == -1) = false := by simp
  have k2 : ¬ c = l.length := by omega
  have k3 : (l.length : Int) ≤ 1000000 := by omega
  have k4 : (l.length : Int) ≤ (c : Int) := by omega
  clear hS hI hr hcs hfs hrow hown hB hi hno hx hxl hg2 hln
  go_wp2_with fail
  go_loop [5, 6, 7] (fun i k _ => i = .int .i64 (l.length : Int) ∧ k = .int .i64 ((l.length : Int) + 1)) (fun _ _ _ => 0)
  case atStart => exact ⟨rfl, rfl⟩
  case round =>
    obtain ⟨rfl, rfl⟩ := hrel
    go_wp2_with fail
    go_ret
    exact HF.out
end Go.Proofs.Ytkjhnipjhefndaa
