/- A new file. -/
import Derived.Test.YtldopkdjoejhbaaDoorFsUnlink
namespace Go.Proofs.YtldopkdjoejhbaaDoor
open Go.RowKit

theorem bys_one (l : List UInt8) : ∀ u ∈ bys l, u.oneCell' = true := by
  intro u hu
  obtain ⟨x, _, rfl⟩ := List.mem_map.1 hu
  rfl
/-- Bytes that are given. -/
def BR (w : World) (v : Value) (l : List UInt8) : Prop := Sl w (lt w.heap.size) 1 v l.length (bys l)
theorem BR.up {w w' : World} {v : Value} {l : List UInt8} (h : BR w v l) (hb : Below w.heap.size w w') : BR w' v l := Sl.upW h hb
theorem FiR.br {w : World} {t : Fi} (h : FiR w t) : BR w t.dv t.data := h.1.mono fun _ hb => hb.lt_
theorem clone_bytes (v : Value) (l : List UInt8) (w : World) (h : BR w v l) (hm : l.length ≤ 1000000) : Calls Tryd.prog 44 #[v] w fun x w' => ∃ v', x = .returned v' ∧ w'.ownsRow w.heap.size 5 1 v' l.length (bys l) ∧ Below w.heap.size w w' :=
  clone_By v l.length (bys l) w _ h (bys_one l) (fun _ hb => hb) hm
/-- Five cells of a box are written. -/
theorem Blk.five {w : World} {g : Nat} {t : TypeId} {a0 a1 a2 a3 a4 : Value} (h : Blk w g t #[a0, a1, a2, a3, a4]) (b0 b1 b2 b3 b4 : Value) :
    Blk (((((w.setCell ⟨g, 0, none⟩ b0).setCell ⟨g, 1, none⟩ b1).setCell ⟨g, 2, none⟩ b2).setCell ⟨g, 3, none⟩ b3).setCell ⟨g, 4, none⟩ b4) g t #[b0, b1, b2, b3, b4] :=
  ((((h.set_ 0 b0).set_ 1 b1).set_ 2 b2).set_ 3 b3).set_ 4 b4
theorem below_five {B g : Nat} {a w : World} (h : Below B a w) (hg : B ≤ g) (b0 b1 b2 b3 b4 : Value) :
    Below B a (((((w.setCell ⟨g, 0, none⟩ b0).setCell ⟨g, 1, none⟩ b1).setCell ⟨g, 2, none⟩ b2).setCell ⟨g, 3, none⟩ b3).setCell ⟨g, 4, none⟩ b4) :=
  ((((h.setCell (p := ⟨g, 0, none⟩) hg b0).setCell (p := ⟨g, 1, none⟩) hg b1).setCell (p := ⟨g, 2, none⟩) hg b2).setCell (p := ⟨g, 3, none⟩) hg b3).setCell (p := ⟨g, 4, none⟩) hg b4
theorem grown_five (w : World) (g : Nat) (b0 b1 b2 b3 b4 : Value) :
    w.grownBy (((((w.setCell ⟨g, 0, none⟩ b0).setCell ⟨g, 1, none⟩ b1).setCell ⟨g, 2, none⟩ b2).setCell ⟨g, 3, none⟩ b3).setCell ⟨g, 4, none⟩ b4) (some g) :=
  grownBy_set (grownBy_set (grownBy_set (grownBy_set (grownBy_set (World.grownBy.refl w _) 0 b0) 1 b1) 2 b2) 3 b3) 4 b4
def FreshRes (l : List UInt8) (w : World) (x : Ending) (w' : World) : Prop := ∃ dv, x = .returned (.agg #[.int .i64 0, dv, .bool false, .bool true, .int .i64 0]) ∧ FiR w' ⟨0, dv, l, false, true, 0⟩ ∧ Below w.heap.size w w'
set_option maxHeartbeats 4000000 in
set_option maxRecDepth 100000 in
theorem fresh_any (v : Value) (l : List UInt8) (w : World) (h : BR w v l) (hm : l.length ≤ 1000000) : Calls Tryd.prog 110 #[v] w (FreshRes l w) := by
  obtain ⟨W, hW⟩ : ∃ W, W = w.alloc (.cells #[.int .i64 0, .slice none 0 0, .bool false, .bool false, .int .i64 0] 45) := ⟨_, rfl⟩
  have hBk : Blk W w.heap.size 45 #[.int .i64 0, .slice none 0 0, .bool false, .bool false, .int .i64 0] := hW ▸ Blk.new _ _ _
  have hb : Below w.heap.size w W := hW ▸ (Below.refl _ w).alloc (Nat.le_refl _) _
  obtain ⟨A, c, rfl, _, _⟩ := Sl.form h
  have hq := clone_bytes _ l W (h.up hb) hm
  have HQ := keep hq
  have HB := keep hb
  have HBK := keep hBk
  clear hq hb hBk h
  go_enter Tryd.func110, Tryd.ntmps110
  go_wp2_with fail
  rw [← hW]
  clear hW
  go_wp2_with fail
  refine HQ.out.mono ?_
  rintro e w3 ⟨v3, rfl, ho3, hb3⟩
  obtain ⟨A5, c5, rfl, _⟩ := own_sl ho3
  have hB3 := HBK.out.below hb3 HBK.out.lt
  have k0 : w3.cell? ⟨w.heap.size, 0, none⟩ = some (.int .i64 0) := (hB3.cell 0).trans rfl
  have k1 : w3.cell? ⟨w.heap.size, 1, none⟩ = some (.slice none 0 0) := (hB3.cell 1).trans rfl
  have k2 : w3.cell? ⟨w.heap.size, 2, none⟩ = some (.bool false) := (hB3.cell 2).trans rfl
  have k3 : w3.cell? ⟨w.heap.size, 3, none⟩ = some (.bool false) := (hB3.cell 3).trans rfl
  have k4 : w3.cell? ⟨w.heap.size, 4, none⟩ = some (.int .i64 0) := (hB3.cell 4).trans rfl
  have f0 : w3.frozen? ⟨w.heap.size, 0, none⟩ = false := hB3.frozen 0
  have f1 : w3.frozen? ⟨w.heap.size, 1, none⟩ = false := hB3.frozen 1
  have f2 : w3.frozen? ⟨w.heap.size, 2, none⟩ = false := hB3.frozen 2
  have f3 : w3.frozen? ⟨w.heap.size, 3, none⟩ = false := hB3.frozen 3
  have f4 : w3.frozen? ⟨w.heap.size, 4, none⟩ = false := hB3.frozen 4
  have HB3 := keep hB3
  have HBF := keep (bchain HB.out hb3)
  have HF := keep (show FiR w3 ⟨0, .slice A5 l.length c5, l, false, true, 0⟩ from ⟨own_u8 ho3, hm⟩)
  clear hB3 hb3 ho3
  go_wp2_with fail
  have hb' := HB3.out.five (.int .i64 0) (.slice A5 l.length c5) (.bool false) (.bool true) (.int .i64 0)
  refine bodyPost_ret (results_cell_row rfl _ _ _ _ _ _ _ rfl hb' Tryd.underlying45 rfl (by kernel_rfl)) rfl ?_
  exact ⟨_, rfl, HF.out.grown (grown_five _ _ _ _ _ _ _) (noU8 HB3.out (by decide)), below_five HBF.out (Nat.le_refl _) _ _ _ _ _⟩
end Go.Proofs.YtldopkdjoejhbaaDoor
