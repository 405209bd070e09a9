/- slices.Index and slices.Contains of ints; the predicate of Remove; slices.Clone of segments. -/
import Derived.Test.YtkjhnipjhefndaaFind
import Derived.Test.YtkjhnipjhefndaaLawCheck
import Derived.Lib.SliceRun
namespace Go.Proofs.Ytkjhnipjhefndaa
open Go.RowKit

def NoI (xs : List Int) (id : Int) (k : Nat) : Prop := ∀ j, (h : j < xs.length) → j < k → (id == xs[j]) = false
def IdxI (xs : List Int) (id : Int) (w : World) (e : Ending) (w' : World) : Prop := ∃ r : Int, e = .returned (.int .i64 r) ∧ decide (0 ≤ r) = xs.any (fun y => id == y) ∧ w = w'
theorem NoI.none {xs : List Int} {id : Int} {k : Nat} (h : NoI xs id k) (hk : xs.length ≤ k) : xs.any (fun y => id == y) = false := by
  rw [List.any_eq_false]
  intro y hy
  obtain ⟨j, hj, rfl⟩ := List.getElem_of_mem hy
  rw [h j hj (by omega)]
  simp
set_option maxRecDepth 100000 in
theorem idxInt_any (v : Value) (xs : List Int) (id : Int) (S : Nat → Prop) (w : World) (h : Sl w S 1 v xs.length (xs.map (.int .i64))) (hm : xs.length ≤ 1000000) :
    Calls Try.prog 79 #[v, .int .i64 id] w (IdxI xs id w) := by
  obtain ⟨A, c, rfl, hc, hs⟩ := h.form
  go_enter Try.func79, Try.ntmps79
  go_wp2_with fail
  go_loop [5, 8] (fun _ i => ∃ k : Nat, k ≤ xs.length ∧ i = .int .i64 k ∧ Hid (NoI xs id k)) (fun _ i => xs.length - (intOf i).toNat)
  case atStart => exact ⟨0, Nat.zero_le _, rfl, keep (fun j _ h => absurd h (by omega))⟩
  case round =>
    obtain ⟨k, hk, rfl, hN⟩ := hrel
    by_cases hlt : k < xs.length
    · obtain ⟨b, o, u, rfl, hb, hu, hcell⟩ := hs.at_ hlt
      have hu' : u = .int .i64 xs[k] := by simpa [hlt] using hu.symm
      subst hu'
      clear hu
      obtain ⟨y, hy⟩ : ∃ y, y = xs[k]'hlt := ⟨_, rfl⟩
      have HY := keep hy
      rw [← hy] at hcell
      clear hy
      have i1 : (k : Int) < (xs.length : Int) := by omega
      by_cases he : id = y
      · have HE : Hid (IdxI xs id w (.returned (.int .i64 k)) w) := keep ⟨_, rfl, by
          rw [show decide ((0 : Int) ≤ (k : Int)) = true by simp]
          symm
          rw [List.any_eq_true]
          exact ⟨y, by rw [HY.out]; exact List.getElem_mem _, by simpa using he⟩, rfl⟩
        subst he
        clear h hs hN
        go_wp2_with fail
        go_ret
        exact HE.out
      · have hq : (id == y) = false := by simpa using he
        have hN' : Hid (NoI xs id (k + 1)) := keep (fun j hj hj2 => by
          by_cases e : j = k
          · subst e; rw [← HY.out]; exact hq
          · exact hN.out j hj (by omega))
        clear hN he
        go_wp2_with fail
        go_round
        case rel => exact ⟨k + 1, by omega, by go_num, hN'⟩
        case measure => simp [intOf]; omega
    · have HE : Hid (IdxI xs id w (.returned (.int .i64 (-1))) w) := keep ⟨_, rfl, by rw [hN.out.none (by omega)]; rfl, rfl⟩
      clear hN
      go_wp2_with fail
      go_ret
      exact HE.out
set_option maxRecDepth 100000 in
theorem contains_any (v : Value) (xs : List Int) (id : Int) (S : Nat → Prop) (w : World) (h : Sl w S 1 v xs.length (xs.map (.int .i64))) (hm : xs.length ≤ 1000000) :
    Calls Try.prog 56 #[v, .int .i64 id] w fun e w' => e = .returned (.bool (xs.any (fun y => id == y))) ∧ w = w' := by
  have hI := idxInt_any v xs id S w h hm
  go_enter Try.func56, Try.ntmps56
  go_wp2_with fail
  refine hI.mono ?_
  rintro e w1 ⟨r, rfl, hr, rfl⟩
  have HR := keep hr
  clear hr hI
  go_wp2_with fail
  go_ret
  exact ⟨ret_bool HR.out, rfl⟩
theorem any_one (x id : Int) : ([id] : List Int).any (fun y => x == y) = (x == id) := by simp
theorem isIn_any (g : Nat) (vi : Value) (id : Int) (s : Seg) (w : World) (hB : Blk w g 50 #[vi]) (hi : Sl w (lt w.heap.size) 1 vi 1 [.int .i64 id]) :
    Calls Try.prog 58 #[s.agg, .pointer (some ⟨g, 0, none⟩)] w fun e w' => e = .returned (.bool (s.id == id)) ∧ Below w.heap.size w w' := by
  obtain ⟨A, c, rfl, _, hi⟩ := hi.form
  have hg := hB.lt
  obtain ⟨W, hW⟩ : ∃ W, W = w.alloc (.cells #[.int .i64 s.id, .int .i64 s.level, .int .i64 s.tier, .int .i64 s.count, .int .i64 s.lo, .int .i64 s.hi, .int .i64 s.size] 46) := ⟨_, rfl⟩
  have hbW : Below w.heap.size w W := by rw [hW]; exact (Below.refl _ _).alloc (Nat.le_refl _) _
  have hBW := hB.below hbW hg
  have hiW : Sl W (lt w.heap.size) 1 (.slice A 1 c) 1 [.int .i64 id] := hi.below hbW (Nat.le_refl _)
  have hN : Blk W w.heap.size 46 #[.int .i64 s.id, .int .i64 s.level, .int .i64 s.tier, .int .i64 s.count, .int .i64 s.lo, .int .i64 s.hi, .int .i64 s.size] := by rw [hW]; exact Blk.new _ _ _
  have c0 : W.cell? ⟨g, 0, none⟩ = some (.slice A 1 c) := by rw [hBW.cell]; rfl
  have c1 := hN.cell7.1
  go_enter Try.func58, Try.ntmps58
  go_upto_region 1 with fail
  rw [← hW]
  clear hW
  go_wp2_with fail
  refine (contains_any _ [id] s.id (lt w.heap.size) W hiW (by simp)).mono ?_
  rintro e w1 ⟨he, rfl⟩
  rw [any_one] at he
  subst he
  go_wp2_with fail
  go_ret
  exact ⟨rfl, hbW⟩
set_option maxRecDepth 100000 in
theorem idxRem_any (v vi : Value) (l : List Seg) (g : Nat) (id : Int) (w : World) (hB : Blk w g 50 #[vi]) (hi : Sl w (lt w.heap.size) 1 vi 1 [.int .i64 id]) (h : Sl w (lt w.heap.size) 7 v l.length (l.flatMap Seg.vals)) (hm : l.length ≤ 1000000) :
    Calls Try.prog 71 #[v, .func (.func 58) #[] #[.pointer (some ⟨g, 0, none⟩)]] w (IdxRes w l (fun s => s.id == id)) := by
  obtain ⟨A, c, rfl, hc, h⟩ := h.form
  have hgl := hB.lt
  go_enter Try.func71, Try.ntmps71
  go_wp2_with fail
  go_loopw [5, 8] (fun _ i wr => ∃ k : Nat, k ≤ l.length ∧ i = .int .i64 k ∧ Hid (No l (fun s => s.id == id) k) ∧ Below w.heap.size w wr) (fun _ i _ => l.length - (intOf i).toNat)
  case atStart => exact ⟨0, Nat.zero_le _, rfl, keep (fun j _ h => absurd h (by omega)), Below.refl _ _⟩
  case round =>
    obtain ⟨k, hk, rfl, hN, hbr⟩ := hrel
    obtain ⟨wo, rfl⟩ : ∃ wo : World, wo = wr := ⟨_, rfl⟩
    by_cases hlt : k < l.length
    · obtain ⟨b, o, rfl, hb, c0, c1, c2, c3, c4, c5, c6⟩ := segs_cells (h.below hbr (Nat.le_refl _)) hlt
      have hBo := hB.below hbr hgl
      have hio := (hi.below hbr (Nat.le_refl _)).more hbr.size
      obtain ⟨y, hy⟩ : ∃ y, y = l[k]'hlt := ⟨_, rfl⟩
      rw [← hy] at c0 c1 c2 c3 c4 c5 c6
      have HY := keep hy
      clear hy
      have i1 : (k : Int) < (l.length : Int) := by omega
      obtain ⟨q, hq⟩ : ∃ q, (fun s => s.id == id) y = q := ⟨_, rfl⟩
      have HQ := keep hq
      clear hq
      go_wp2_with fail
      refine (isIn_any g vi id y _ hBo hio).mono ?_
      rintro e w1 ⟨he, hb1⟩
      have he2 : e = .returned (.bool q) := he.trans (ret_bool HQ.out)
      subst he2
      clear he
      have hb3 := hbr.trans (hb1.mono hbr.size)
      have HP : Hid ((fun s => s.id == id) (l[k]'hlt) = q) := by rw [← HY.out]; exact HQ.out
      cases q
      · go_wp2_with fail
        go_roundw
        case rel => exact ⟨k + 1, by omega, by go_num, keep (hN.out.step hlt HP.out), hb3⟩
        case measure => simp [intOf]; omega
      · go_wp2_with fail
        go_ret
        exact ⟨_, rfl, .inl ⟨k, hlt, rfl, HP.out, hN.out⟩, hb3⟩
    · go_wp2_with fail
      go_ret
      exact ⟨_, rfl, .inr ⟨rfl, fun j hj => hN.out j hj (by omega)⟩, hbr⟩
theorem elSegs46 : Elem Try.prog 22 46 7 56 (.agg #[.int .i64 0, .int .i64 0, .int .i64 0, .int .i64 0, .int .i64 0, .int .i64 0, .int .i64 0]) := ⟨Try.underlying22, by kernel_rfl, rfl, by decide⟩
def CloneRes (w : World) (n : Nat) (xs : List Value) (e : Ending) (w' : World) : Prop := ∃ v, e = .returned v ∧ w'.ownsRow w.heap.size 46 7 v n xs ∧ Below w.heap.size w w'
theorem segs_oneCell (l : List Seg) : ∀ u ∈ l.flatMap Seg.vals, u.oneCell' = true := by
  intro u hu
  obtain ⟨s, _, hs⟩ := List.mem_flatMap.1 hu
  simp only [Seg.vals, List.mem_cons, List.not_mem_nil, or_false] at hs
  rcases hs with rfl | rfl | rfl | rfl | rfl | rfl | rfl <;> rfl
set_option maxRecDepth 100000 in
theorem clone_any (v : Value) (l : List Seg) (w : World) (h : Sl w (lt w.heap.size) 7 v l.length (l.flatMap Seg.vals)) (hm : l.length ≤ 1000000) :
    Calls Try.prog 53 #[v] w (CloneRes w l.length (l.flatMap Seg.vals)) := by
  obtain ⟨A, c, rfl, hc, h⟩ := h.form
  cases A with
  | none =>
    have hl : l.length = 0 := by
      rcases Nat.eq_zero_or_pos l.length with h0 | h0
      · exact h0
      · obtain ⟨b, o, hA, _⟩ := h.row h0; cases hA
    have hln : l = [] := List.eq_nil_of_length_eq_zero hl
    subst hln
    have hnil := fun (w : World) => Lib.run_eql_slice_nil (P := Try.prog) w 22 46 none 0 c 0 0 Try.underlying22
    simp only [Option.isNone_none] at hnil
    show Calls Try.prog 53 #[.slice none 0 c] w (CloneRes w 0 [])
    go_enter Try.func53, Try.ntmps53
    go_wp2_with fail
    go_ret
    exact ⟨_, rfl, World.ownsRow_nil _ _ _ _, Below.refl _ _⟩
  | some a =>
    have hnil := fun (w : World) => Lib.run_eql_slice_nil (P := Try.prog) w 22 46 (some a) l.length c 0 0 Try.underlying22
    simp only [Option.isNone_some] at hnil
    have q1 : Hid (0 + l.length ≤ maxLen) := keep (by unfold maxLen; omega)
    have q2 : Hid ((0 + l.length) * 56 ≤ 140737488355328) := keep (by omega)
    go_enter Try.func53, Try.ntmps53
    go_wp2_with (refine wpList_appendS elSegs46 rfl _ _ rfl w.heap.size (.slice (some ⟨w.heap.size, 0, none⟩) 0 0) 0 [] rfl (own_empty w 46 7) (lt w.heap.size) _ l.length _ rfl (h.below ((Below.refl _ _).alloc (Nat.le_refl _) _) (Nat.le_refl _)) (segs_oneCell l) q1.out q2.out (by simp) ?_; intro v1 w1 hown hb hg)
    go_ret
    rw [Nat.zero_add, List.nil_append] at hown
    exact ⟨_, rfl, hown, ((Below.refl _ w).alloc (Nat.le_refl _) _).trans hb⟩
end Go.Proofs.Ytkjhnipjhefndaa
