/- The closures of purge. -/
import Derived.Test.YtgegmefnbkcdkaaDoorFsSrch
import Derived.Test.YtgegmefnbkcdkaaDoorFsName
namespace Go.Proofs.YtgegmefnbkcdkaaDoor
open Go.RowKit
theorem containsI (v : Value) (O : List Int) (x : Int) (w : World) {S : Nat → Prop} (hs : Sl w S 1 v O.length (O.map (.int .i64))) (hm : O.length ≤ 1000000) :
    Calls Tryd.prog 38 #[v, .int .i64 x] w fun e w' => e = .returned (.bool (O.contains x)) ∧ w' = w := by
  obtain ⟨A, c, rfl, _, hs⟩ := hs.form
  rcases Nat.eq_zero_or_pos O.length with h0 | h0
  · have : O = [] := List.eq_nil_of_length_eq_zero h0
    subst this
    exact Tryd.slices_Contains_int_empty A c x w
  · obtain ⟨b, o, rfl, _, hrow⟩ := hs.row h0
    have := Tryd.slices_Contains_int b o O.length c O x w (Nat.le_refl _) (by omega) (fun j hj => by
      have h1 : (O.map (Value.int .i64))[j]? = some (.int .i64 (O.getD j 0)) := by
        rw [List.getElem?_map, List.getElem?_eq_getElem hj, List.getD_eq_getElem?_getD, List.getElem?_eq_getElem hj]; rfl
      exact hrow j _ h1)
    rw [List.take_length] at this
    exact this
/-- purge takes a file away. -/
def goes (N : List Nm) (O : List Int) (t : Fi) : Bool := !O.contains t.ino && !N.any fun n => n.ino == t.ino
theorem purge11 (t : Nm) (g : Nat) (x : Int) (w : World) (h0 : w.cell? ⟨g, 0, none⟩ = some (.int .i64 x)) :
    Calls Tryd.prog 40 #[.agg (nmV t).toArray, .pointer (some ⟨g, 0, none⟩)] w fun e w' => e = .returned (.bool (t.ino == x)) ∧ Below w.heap.size w w' := by
  obtain ⟨nm, ino⟩ := t
  simp only [nmV]
  have hl : g < w.heap.size := World.block_lt_of_cell? w _ h0
  have h1 : (w.alloc (.cells #[.string nm, .int .i64 ino] 57)).cell? ⟨g, 0, none⟩ = some (.int .i64 x) := ((Below.refl _ w).alloc (Nat.le_refl _) _).cell hl |>.trans h0
  go_enter Tryd.func40, Tryd.ntmps40
  go_wp2_with fail
  go_ret
  exact ⟨by first | rfl | (congr 2) | simp, (Below.refl _ w).alloc (Nat.le_refl _) _⟩
set_option maxHeartbeats 4000000 in
set_option maxRecDepth 100000 in
theorem purge1 (t : Fi) (gb gd : Nat) (vN vO : Value) (N : List Nm) (O : List Int) (w : World) (ht : FiR w t) (h0 : w.cell? ⟨gb, 0, none⟩ = some (.pointer (some ⟨gd, 0, none⟩))) (h1 : w.cell? ⟨gd, 0, none⟩ = some vN) (h2 : w.cell? ⟨gd, 2, none⟩ = some vO)
    (hN : Sl w (lt w.heap.size) 2 vN N.length (nms N)) (hO : Sl w (lt w.heap.size) 1 vO O.length (O.map (.int .i64))) (hmN : N.length ≤ 1000000) (hmO : O.length ≤ 1000000) :
    Calls Tryd.prog 37 #[.agg (fiV t).toArray, .pointer (some ⟨gb, 0, none⟩)] w fun e w' => e = .returned (.bool (goes N O t)) ∧ Below w.heap.size w w' := by
  obtain ⟨A, c, hv⟩ := ht.form
  obtain ⟨ino, dv, data, cp, wh, left⟩ := t
  simp only at hv
  subst hv
  simp only [fiV]
  obtain ⟨A1, c1, rfl, _, _⟩ := hN.form
  obtain ⟨A2, c2, rfl, _, _⟩ := hO.form
  obtain ⟨W, hW⟩ : ∃ W, W = w.alloc (.cells #[.int .i64 ino, .slice A data.length c, .bool cp, .bool wh, .int .i64 left] 60) := ⟨_, rfl⟩
  have hBk : Blk W w.heap.size 60 #[.int .i64 ino, .slice A data.length c, .bool cp, .bool wh, .int .i64 left] := hW ▸ Blk.new _ _ _
  have hb : Below w.heap.size w W := hW ▸ (Below.refl _ w).alloc (Nat.le_refl _) _
  have k0 : W.cell? ⟨gb, 0, none⟩ = some (.pointer (some ⟨gd, 0, none⟩)) := (hb.cell (World.block_lt_of_cell? w _ h0)).trans h0
  have k1 : W.cell? ⟨gd, 0, none⟩ = some (.slice A1 N.length c1) := (hb.cell (World.block_lt_of_cell? w _ h1)).trans h1
  have k2 : W.cell? ⟨gd, 2, none⟩ = some (.slice A2 O.length c2) := (hb.cell (World.block_lt_of_cell? w _ h2)).trans h2
  have k3 : W.cell? ⟨w.heap.size, 0, none⟩ = some (.int .i64 ino) := (hBk.cell 0).trans rfl
  have l0 : gb < W.heap.size := World.block_lt_of_cell? W _ k0
  have l1 : gd < W.heap.size := World.block_lt_of_cell? W _ k1
  have l3 : w.heap.size < W.heap.size := World.block_lt_of_cell? W _ k3
  have hN' := hN.upW hb
  have hO' := hO.upW hb
  have hc1 := fun a (h : Held W.heap.size W a) => containsI _ O ino a (hO'.upW h.2.2) hmO
  have hc2 := fun a (h : Held W.heap.size W a) => contains_nm 40 _ #[.pointer (some ⟨w.heap.size, 0, none⟩)] (fun n => n.ino == ino) N a (fun args w => by kernel_rfl) (hN'.upW h.2.2)
    (fun u _ X hX => purge11 u w.heap.size ino X ((hX.cell (Nat.lt_of_lt_of_le l3 h.2.2.size)).trans ((h.1 _ _ l3).trans k3))) hmN
  have HC1 := keep hc1
  have HC2 := keep hc2
  have HB := keep hb
  have hg : goes N O ⟨ino, .slice A data.length c, data, cp, wh, left⟩ = (!O.contains ino && !N.any fun n => n.ino == ino) := rfl
  rw [hg]
  obtain ⟨q1, hq1⟩ : ∃ q, O.contains ino = q := ⟨_, rfl⟩
  obtain ⟨q2, hq2⟩ : ∃ q, (N.any fun n => n.ino == ino) = q := ⟨_, rfl⟩
  rw [hq1, hq2]
  have HQ1 := keep hq1
  have HQ2 := keep hq2
  clear hq1 hq2 hg hc1 hc2 hN hO hN' h0 h1 h2 hb hmN ht hBk
  go_enter Tryd.func37, Tryd.ntmps37
  go_wp2_with fail
  rw [← hW]
  clear hW
  cases q1 with
  | true =>
    have hcd : ∀ n, Calls Tryd.prog 38 #[.slice A2 O.length c2, .int .i64 ino] (W.drewN n) fun e w' => e = .returned (.bool true) ∧ w' = W.drewN n := fun n => by
      have := containsI (.slice A2 O.length c2) O ino (W.drewN n) (hO'.upW (below_drewN (Below.refl _ W) n)) hmO
      rw [HQ1.out] at this
      exact this
    have HCD := keep hcd
    clear hcd hO' hmO
    go_quiet ((go_at_call 38; exact Calls.quiet_of_same (HCD.out _)))
    go_wp2_with fail
    go_ret
    exact ⟨rfl, below_drewN HB.out _⟩
  | false =>
    clear hO' hmO
    go_region_held3 (Held W.heap.size W) (first | exact Held.start _ _ | exact Held.call (by assumption) (by assumption) (Nat.le_refl _) | assumption)
      (first
        | (go_at_call 38; (with_reducible refine (HC1.out _ (by assumption)).mono ?_); rintro e w5 ⟨rfl, rfl⟩; rw [HQ1.out])
        | (go_at_call 39; (with_reducible refine (HC2.out _ (by assumption)).mono ?_); rintro e w6 ⟨rfl, hb6⟩; rw [HQ2.out])
        | fail)
    have hH : Held W.heap.size W w6 := by assumption
    have HH := keep (HB.out.trans (hH.2.2.mono HB.out.size))
    clear hH hb6
    go_wp2_with fail
    go_ret
    exact ⟨rfl, HH.out⟩
end Go.Proofs.YtgegmefnbkcdkaaDoor
