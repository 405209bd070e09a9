/- Lookup, New: what they give. -/
import Derived.Test.YtldopkdjoejhbaaDoorFsRun
namespace Go.Proofs.YtldopkdjoejhbaaDoor
open Go.RowKit

def LookOut (fs : FS) (s : ByteArray) (w : World) (x : Ending) (w' : World) : Prop := x = .returned (.tuple #[.int .i64 ((lookP fs.N s).getD 0), .bool (hasP fs.N s)]) ∧ Below w.heap.size w w'
set_option maxHeartbeats 4000000 in
set_option maxRecDepth 100000 in
theorem lookup_any (vN vF vO : Value) (fs : FS) (s : ByteArray) (w : World) (h : FsT w vN vF vO fs) (hi : Inv fs) :
    Calls Tryd.prog 14 #[.agg #[vN, vF, vO], .string s] w (LookOut fs s w) := by
  obtain ⟨A1, c1, rfl, _, _⟩ := h.n.form
  obtain ⟨A2, c2, rfl, _, _⟩ := h.f.form
  obtain ⟨A3, c3, rfl, _, _⟩ := h.o.form
  obtain ⟨W, hW⟩ : ∃ W, W = ((w.alloc (.cells #[.slice A1 fs.N.length c1, .slice A2 fs.F.length c2, .slice A3 fs.O.length c3] 31)).alloc (.cells #[.slice A1 fs.N.length c1, .slice A2 fs.F.length c2, .slice A3 fs.O.length c3] 81)) := ⟨_, rfl⟩
  have hb : Below w.heap.size w W := hW ▸ ((Below.refl _ w).alloc (Nat.le_refl _) _).alloc (by simp) _
  have hF : Blk W w.heap.size 31 #[.slice A1 fs.N.length c1, .slice A2 fs.F.length c2, .slice A3 fs.O.length c3] := hW ▸ ((Blk.new w _ _).alloc _)
  have hX : Blk W (w.heap.size + 1) 81 #[.slice A1 fs.N.length c1, .slice A2 fs.F.length c2, .slice A3 fs.O.length c3] := hW ▸ Blk.new_at (by simp)
  have hT := h.up hb
  have HQ := keep (name_any (w.heap.size + 1) s _ fs.N W ((hX.cell 0).trans rfl) hT.r.n hi.n (by have := hi.b; omega))
  have HF := keep hF
  have HT := keep hT
  have HB := keep hb
  have HI := keep hi
  clear hb hF hX hT h hi
  go_enter Tryd.func14, Tryd.ntmps14
  go_wp2_with fail
  rw [← hW]
  clear hW
  refine HQ.out.mono ?_
  rintro e w1 ⟨i, hA, rfl, hb1⟩
  have HB1 := keep (bchain HB.out hb1)
  by_cases hc : cfAt_nm (cfn s) fs.N i = 0
  · rw [decide_eq_true hc]
    obtain ⟨hi, hnm, _⟩ := at_rm_yes HI.out.n hc
    have hF1 := HF.out.below hb1 HF.out.lt
    have hT1 := HT.out.up hb1
    obtain ⟨b, o, rfl, _, _, n1⟩ := nm_cells hT1.n hi
    obtain ⟨f0, _, _⟩ := hF1.cell3
    have i1 : (i : Int) < (fs.N.length : Int) := by omega
    have i2 : (fs.N.length : Int) ≤ 40 := by have := HI.out.b; omega
    have e1 := keep (look_at HI.out.n hi hnm)
    have e2 := keep (has_yes ⟨_, List.getElem_mem hi, hnm⟩)
    obtain ⟨y, hy⟩ : ∃ y, fs.N[i].ino = y := ⟨_, rfl⟩
    rw [hy] at n1 e1
    clear hc hA hF1 hT1 hb1 hnm hy
    go_wp2_with fail
    go_ret2
    exact ⟨by rw [e1.out, e2.out]; rfl, HB1.out⟩
  · rw [decide_eq_false hc]
    have HNO := keep (at_rm_no HI.out.n hA hc)
    clear hc hA hb1
    go_wp2_with fail
    go_ret2
    exact ⟨by rw [look_none HNO.out, has_no HNO.out]; rfl, HB1.out⟩
theorem new_any (w : World) : Calls Tryd.prog 13 #[] w fun x w' => x = .returned (.agg #[.slice none 0 0, .slice none 0 0, .slice none 0 0]) ∧ Below w.heap.size w w' := by
  have hb : Below w.heap.size w (w.alloc (.cells #[.slice none 0 0, .slice none 0 0, .slice none 0 0] 31)) := (Below.refl _ w).alloc (Nat.le_refl _) _
  have HB := keep hb
  clear hb
  go_enter Tryd.func13, Tryd.ntmps13
  go_wp2_with fail
  refine bodyPost_ret (results_cell_row rfl _ _ w.heap.size _ _ _ _ rfl (Blk.new _ _ _) Tryd.underlying31 rfl (by kernel_rfl)) rfl ?_
  exact ⟨rfl, HB.out⟩
end Go.Proofs.YtldopkdjoejhbaaDoor
