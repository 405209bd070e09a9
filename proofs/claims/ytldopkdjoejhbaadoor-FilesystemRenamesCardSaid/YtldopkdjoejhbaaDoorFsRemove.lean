/- A change as a value; the method remove. -/
import Derived.Test.YtldopkdjoejhbaaDoorFsFile
namespace Go.Proofs.YtldopkdjoejhbaaDoor
open Go.RowKit

/-- A change. -/
structure Ch where
  kind : Int
  name : ByteArray
  dst : ByteArray
  dv : Value
  data : List UInt8
  n : Int
def chV (c : Ch) : Array Value := #[.int .i64 c.kind, .string c.name, .string c.dst, c.dv, .int .i64 c.n]
/-- What a method does: the error and the directory. -/
def MetRes (B gd : Nat) (e : Int) (fs : FS) (w : World) (x : Ending) (w' : World) : Prop := x = .returned (.int .i64 e) ∧ Dir w' B gd fs ∧ Below B w w'
set_option maxHeartbeats 4000000 in
set_option maxRecDepth 100000 in
theorem remove_any (gd B : Nat) (fs : FS) (c : Ch) (w : World) (hB : B ≤ w.heap.size) (h : Dir w B gd fs) (hs : NSrt fs.N) (hm : Small fs) (hc : BR w c.dv c.data) :
    Calls Tryd.prog 106 #[.pointer (some ⟨gd, 0, none⟩), .agg (chV c)] w fun x w' => ∃ e fs', ((∀ t ∈ fs.N, t.nm ≠ c.name) ∧ e = 12 ∧ fs' = fs ∨ (∃ t ∈ fs.N, t.nm = c.name) ∧ e = 0 ∧ fs' = ⟨rmName fs.N c.name, fs.F, fs.O⟩) ∧ MetRes B gd e fs' w x w' := by
  obtain ⟨A, cc, hv, _, _⟩ := Sl.form hc
  obtain ⟨kind, name, dst, dv, data, n⟩ := c
  simp only at hv
  subst hv
  simp only [chV]
  clear hc
  obtain ⟨W, hW⟩ : ∃ W, W = w.alloc (.cells #[.int .i64 kind, .string name, .string dst, .slice A data.length cc, .int .i64 n] 37) := ⟨_, rfl⟩
  have hBx : Blk W w.heap.size 37 #[.int .i64 kind, .string name, .string dst, .slice A data.length cc, .int .i64 n] := hW ▸ Blk.new _ _ _
  have hb : Below w.heap.size w W := hW ▸ (Below.refl _ w).alloc (Nat.le_refl _) _
  have k1 : W.cell? ⟨w.heap.size, 1, none⟩ = some (.string name) := (hBx.cell 1).trans rfl
  have hD := h.up hb
  obtain ⟨_, vN, vF, vO, hBk, hO⟩ := id hD
  have hq := name_any gd name _ fs.N W ((hBk.cell 0).trans rfl) hO.r.n hs (by have := hm.n; omega)
  have HQ := keep hq
  have HD := keep hD
  have HB := keep hb
  have HBX := keep hBx
  clear hq hD hBk hO hb h hBx
  go_enter Tryd.func106, Tryd.ntmps106
  go_wp2_with fail
  rw [← hW]
  clear hW
  go_wp2_with fail
  refine HQ.out.mono ?_
  rintro e w1 ⟨i, hA, rfl, hb1⟩
  have hD1 := HD.out.up hb1
  have hB1 := bchain HB.out hb1
  by_cases hc : cfAt_nm (cfn name) fs.N i = 0
  · rw [decide_eq_true hc]
    obtain ⟨hi, hnm, _⟩ := at_rm_yes hs hc
    have hbx := HBX.out.below hb1 HBX.out.lt
    have q1 : w1.cell? ⟨w.heap.size, 1, none⟩ = some (.string name) := (hbx.cell 1).trans rfl
    have hun := unlink_any gd B fs name w1 (by have := hB1.size; omega) hD1 hs hm
    have HUN := keep hun
    have HB1 := keep hB1
    have HNM := keep hnm
    clear hc hA hbx hun hB1 hD1 hb1 hnm
    go_wp2_with fail
    refine HUN.out.mono ?_
    rintro e w2 ⟨rfl, hD2, hb2, _⟩
    have HD2 := keep hD2
    have HB2 := keep ((HB1.out.mono hB).trans hb2)
    clear hD2 hb2
    go_wp2_with fail
    go_ret
    exact ⟨0, _, .inr ⟨⟨_, List.getElem_mem hi, HNM.out⟩, rfl, rfl⟩, rfl, HD2.out, HB2.out⟩
  · rw [decide_eq_false hc]
    have HNO := keep (at_rm_no hs hA hc)
    have HD1 := keep hD1
    have HB1 := keep (hB1.mono hB)
    clear hc hA hB1 hD1 hb1
    go_wp2_with fail
    go_ret
    exact ⟨12, _, .inl ⟨HNO.out, rfl, rfl⟩, rfl, HD1.out, HB1.out⟩
end Go.Proofs.YtldopkdjoejhbaaDoor
