/- Contracts of the making functions (package logtidemake): a list of choices behind a pointer. What is made is left open but for its bounds. -/
import Derived.Test.YtigogjlbemkhdaaGreatLib
namespace Go.Proofs.YtigogjlbemkhdaaGreat
open Go.RowKit
theorem elBytes : Elem Tryz.prog 22 5 1 1 (.int .u8 0) := ⟨Tryz.underlying22, by kernel_rfl, rfl, by decide⟩
/-- Block gc holds choices: a list of bytes that lies below block gc, and how many were taken. -/
def Codes (w : World) (gc : Nat) : Prop :=
  ∃ (A : Option Addr) (n c : Nat) (p : Nat) (bs : List Int), Blk w gc 44 #[.slice A n c, .int .i64 p] ∧ p ≤ n ∧ n ≤ 1048576 ∧
    Sl w (lt gc) 1 (.slice A n c) n (bs.map (.int .u8)) ∧ (∀ x ∈ bs, 0 ≤ x ∧ x ≤ 255)
theorem Codes.lt_ {w : World} {gc : Nat} (h : Codes w gc) : gc < w.heap.size := by
  obtain ⟨_, _, _, _, _, hb, _⟩ := h
  exact hb.lt
theorem Codes.under {w w' : World} {gc B : Nat} (h : Codes w gc) (hb : Below B w w') (hB : gc < B) : Codes w' gc := by
  obtain ⟨A, n, c, p, bs, h1, h2, h3, h4, h5⟩ := h
  exact ⟨A, n, c, p, bs, h1.below hb hB, h2, h3, h4.below hb (by omega), h5⟩
theorem Codes.alloc {w : World} {gc : Nat} (h : Codes w gc) (o : Obj) : Codes (w.alloc o) gc := h.under ((Below.refl _ w).alloc (Nat.le_refl _) o) h.lt_
theorem Codes.drewN {w : World} {gc : Nat} (h : Codes w gc) (k : Nat) : Codes (w.drewN k) gc := h.under (below_drewN (Below.refl w.heap.size w) k) h.lt_
theorem Codes.grown {w w' : World} {gc g : Nat} (h : Codes w gc) (hg : w.grownBy w' (some g)) (hB : gc < g) : Codes w' gc := by
  have hl := h.lt_
  obtain ⟨A, n, c, p, bs, h1, h2, h3, h4, h5⟩ := h
  refine ⟨A, n, c, p, bs, h1.grown hg (fun e => by injection e; omega), h2, h3, h4.grown hg (fun b hb => ?_), h5⟩
  have hb' : b < gc := hb
  exact ⟨by omega, fun e => by injection e; omega⟩
theorem drawLeft (gc : Nat) (w : World) (A : Option Addr) (n c p : Nat) (hb : Blk w gc 44 #[.slice A n c, .int .i64 p]) :
    Calls Tryz.prog 22 #[.pointer (some ⟨gc, 0, none⟩)] w fun e w' => e = .returned (.bool (decide (p < n))) ∧ ∃ k, w' = w.drewN k := by
  have hc0 : w.cell? ⟨gc, 0, none⟩ = some (.slice A n c) := by rw [hb.cell]; rfl
  have hc1 : w.cell? ⟨gc, 1, none⟩ = some (.int .i64 p) := by rw [hb.cell]; rfl
  go_enter Tryz.func22, Tryz.ntmps22
  go_wp2
  go_quiet (fail)
  go_wp2
  go_ret
  exact ⟨ret_bool (by simp), _, rfl⟩
/-- What Next leaves: a number in range, the choices, and nothing else has changed. -/
def NextRes (w : World) (gc : Nat) (n : Int) (e : Ending) (w' : World) : Prop :=
  ∃ r : Int, e = .returned (.int .i64 r) ∧ 0 ≤ r ∧ (1 ≤ n → r < n) ∧ (n < 1 → r = 0) ∧ Codes w' gc ∧ w.grownBy w' (some gc)
theorem drawNext (gc : Nat) (n : Int) (w : World) (h : Codes w gc) (hn0 : -1048576 ≤ n) (hn : n ≤ 1000000000000) :
    Calls Tryz.prog 7 #[.pointer (some ⟨gc, 0, none⟩), .int .i64 n] w (NextRes w gc n) := by
  have hC := h
  obtain ⟨A, m, c, p, bs, hb, hp, hm, hs, hr⟩ := h
  have hgc := hb.lt
  by_cases hpm : p < m
  · by_cases hn1 : n < 1
    · have d1 : decide (n < 1) = true := by simpa using hn1
      have d0 : decide (p < m) = true := by simpa using hpm
      go_enter Tryz.func7, Tryz.ntmps7
      go_wp2_with (go_at_call 22; refine (drawLeft gc _ A m c p hb).mono ?_; rintro e w1 ⟨rfl, k, rfl⟩)
      go_ret
      exact ⟨0, rfl, by omega, by omega, fun _ => rfl, hC, grownBy_drewN (World.grownBy.refl _ _) _⟩
    · have d1 : decide (n < 1) = false := by simpa using hn1
      have d0 : decide (p < m) = true := by simpa using hpm
      obtain ⟨b, o, u, rfl, hbl, hx, hcl⟩ := hs.at_ hpm
      have hlen : bs.length = m := by have := hs.len; simpa using this
      have hu : u = .int .u8 bs[p] := by simpa [show p < bs.length by omega] using hx.symm
      subst hu
      obtain ⟨r0, r1⟩ := hr bs[p] (List.getElem_mem _)
      have hbl' : b < gc := hbl
      have hc0 : w.cell? ⟨gc, 0, none⟩ = some (.slice (some ⟨b, o, none⟩) m c) := by rw [hb.cell]; rfl
      have hc1 : w.cell? ⟨gc, 1, none⟩ = some (.int .i64 p) := by rw [hb.cell]; rfl
      have hf1 : w.frozen? ⟨gc, 1, none⟩ = false := hb.frozen 1
      have i0 : (0 : Int) ≤ (p : Int) := by omega
      have i1 : (p : Int) < (m : Int) := by omega
      have i2 : (0 : Int) ≤ (p : Int) + 1 - 1 := by omega
      have i3 : (p : Int) + 1 - 1 < (m : Int) := by omega
      generalize bs[p] = x at *
      have hne : b ≠ gc := by omega
      have hcl' : ∀ k u, ((w.drewN k).setCell ⟨gc, 1, none⟩ u).cell? ⟨b, o + p, none⟩ = some (.int .u8 x) := fun k u =>
        (World.cell?_setCell_other (w.drewN k) _ _ _ (fun e => by injection e; omega)).trans hcl
      have t1 : x.tmod n < n := Int.tmod_lt_of_pos x (by omega)
      have t0 : 0 ≤ x.tmod n := Int.tmod_nonneg n r0
      have HT := keep (And.intro t0 t1)
      clear t0 t1
      go_enter Tryz.func7, Tryz.ntmps7
      go_wp2_with (go_at_call 22; refine (drawLeft gc _ _ m c p hb).mono ?_; rintro e w1 ⟨rfl, k, rfl⟩)
      go_quiet (fail)
      go_wp2
      go_ret
      have hbk : Blk ((w.drewN k).setCell ⟨gc, 1, none⟩ (.int .i64 ((p : Int) + 1))) gc 44 #[.slice (some ⟨b, o, none⟩) m c, .int .i64 ((p : Int) + 1)] := Blk.set_ (w := w.drewN k) hb 1 _
      refine ⟨_, rfl, ?_, fun _ => ?_, by omega, ?_, ?_⟩
      · exact Int.emod_nonneg _ (by omega)
      · exact Int.emod_lt_of_pos _ (by omega)
      · refine ⟨some ⟨b, o, none⟩, m, c, p + 1, bs, hbk, by omega, hm, ?_, hr⟩
        exact hs.keep fun q hq => World.cell?_setCell_other (w.drewN k) _ _ _ (fun e => by subst e; exact absurd hq (by simp))
      · exact grownBy_drewN (grownBy_set (grownBy_drewN (World.grownBy.refl _ _) _) 1 _) _
  · have d0 : decide (p < m) = false := by simpa using hpm
    go_enter Tryz.func7, Tryz.ntmps7
    go_wp2_with (go_at_call 22; refine (drawLeft gc _ A m c p hb).mono ?_; rintro e w1 ⟨rfl, k, rfl⟩)
    go_ret
    exact ⟨0, rfl, by omega, by omega, fun _ => rfl, hC, grownBy_drewN (World.grownBy.refl _ _) _⟩
def DrawNewRes (w : World) (e : Ending) (w' : World) : Prop := ∃ gc, e = .returned (.pointer (some ⟨gc, 0, none⟩)) ∧ w.heap.size ≤ gc ∧ Codes w' gc ∧ Below w.heap.size w w'
theorem drawNew (v : Value) (bs : List Int) (lim : Nat) (w : World) (hs : Sl w (lt w.heap.size) 1 v bs.length (bs.map (.int .u8))) (hr : ∀ x ∈ bs, 0 ≤ x ∧ x ≤ 255) (hl : lim ≤ 1048576) (hm : bs.length ≤ maxLen) :
    Calls Tryz.prog 5 #[v, .int .i64 lim] w (DrawNewRes w) := by
  unfold maxLen at hm
  obtain ⟨A, c, rfl, hc, hs⟩ := hs.form
  go_enter Tryz.func5, Tryz.ntmps5
  go_wp2
  · go_ret
    refine ⟨w.heap.size, rfl, Nat.le_refl _, ⟨A, lim, c, 0, bs.take lim, Blk.new _ _ _, by omega, hl, ?_, fun x hx => hr x (List.mem_of_mem_take hx)⟩, (Below.refl _ _).alloc (Nat.le_refl _) _⟩
    have := hs.take (k := lim) (by omega)
    rw [Nat.mul_one, ← List.map_take] at this
    exact this.below ((Below.refl _ w).alloc (Nat.le_refl _) _) (Nat.le_refl _)
  · go_ret
    refine ⟨w.heap.size, rfl, Nat.le_refl _, ⟨A, bs.length, c, 0, bs, Blk.new _ _ _, by omega, by omega, hs.below ((Below.refl _ w).alloc (Nat.le_refl _) _) (Nat.le_refl _), hr⟩, (Below.refl _ _).alloc (Nat.le_refl _) _⟩
end Go.Proofs.YtigogjlbemkhdaaGreat
