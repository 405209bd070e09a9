/- The reference's Check: what it tells of any directory. Printed by wip/gen/rfchk.py. -/
import Derived.Test.YtldopkdjoejhbaaDoorFsChk
import Derived.Test.YtldopkdjoejhbaaDoorRfB
import Derived.Test.YtldopkdjoejhbaaDoorRegs
import Derived.Sort.Walk0
namespace Go.Proofs.YtldopkdjoejhbaaDoor
open Go.RowKit

def fr151 (x : Nat → Value) : Array Value := #[x 0, x 1, x 2, x 3, x 4, x 5, x 6, x 7, x 8, x 9, x 10, x 11, x 12, x 13, x 14, x 15, x 16, x 17, x 18, x 19, x 20, x 21, x 22, x 23, x 24, x 25, x 26, x 27, x 28, x 29, x 30, x 31, x 32, x 33, x 34, x 35, x 36, x 37, x 38, x 39, x 40, x 41, x 42, x 43, x 44, x 45, x 46, x 47, x 48, x 49, x 50, x 51, x 52, x 53, x 54, x 55, x 56, x 57, x 58, x 59, x 60, x 61, x 62, x 63, x 64, x 65, x 66, x 67, x 68, x 69, x 70, x 71, x 72, x 73, x 74, x 75, x 76, x 77, x 78, x 79, x 80, x 81, x 82, x 83, x 84, x 85, x 86, x 87, x 88, x 89, x 90, x 91, x 92, x 93, x 94, x 95, x 96, x 97, x 98, x 99, x 100, x 101, x 102, x 103, x 104, x 105, x 106, x 107, x 108, x 109, x 110, x 111, x 112, x 113, x 114, x 115, x 116, x 117, x 118, x 119, x 120, x 121, x 122, x 123, x 124, x 125, x 126, x 127, x 128, x 129, x 130, x 131, x 132, x 133, x 134, x 135, x 136, x 137, x 138, x 139, x 140, x 141, x 142, x 143, x 144, x 145, x 146, x 147, x 148, x 149, x 150]
def badG (e1 z bl e2 q h : Bool) : Bool := e1 || (z && !bl) || e2 || (!q && !h)
def badH (cp wh e5 e6 e7 : Bool) : Bool := (!cp && !wh) || e5 || e6 || (wh && e7)
theorem badF_split (e1 e2 q h cp wh e5 e6 e7 : Bool) : badF e1 e2 q h cp wh e5 e6 e7 = false ↔ badG e1 false true e2 q h = false ∧ badH cp wh e5 e6 e7 = false := by
  cases e1 <;> cases e2 <;> cases q <;> cases h <;> simp [badF, badG, badH] <;> cases cp <;> cases wh <;> simp
set_option maxHeartbeats 16000000 in
set_option maxRecDepth 100000 in
theorem refCheck_any (vN vF vO : Value) (fs : FS) (w : World) (h : FsT w vN vF vO fs) (hm : fs.N.length ≤ 1000000 ∧ fs.F.length ≤ 1000000 ∧ fs.O.length ≤ 1000000) (hz : ∀ n ∈ fs.N, n.nm.size ≤ 9223372036854775807) :
    Calls Tryd.prog 33 #[.agg #[vN, vF, vO]] w (ChkOut fs w) := by
  obtain ⟨A1, c1, rfl, _, _⟩ := h.n.form
  obtain ⟨A2, c2, rfl, _, _⟩ := h.f.form
  obtain ⟨A3, c3, rfl, _, _⟩ := h.o.form
  obtain ⟨hmN, hmF, hmO⟩ := hm
  obtain ⟨W, hW⟩ : ∃ W, W = w.alloc (.cells #[.slice A1 fs.N.length c1, .slice A2 fs.F.length c2, .slice A3 fs.O.length c3] 31) := ⟨_, rfl⟩
  have hb : Below w.heap.size w W := hW ▸ (Below.refl _ w).alloc (Nat.le_refl _) _
  have hF : Blk W w.heap.size 31 #[.slice A1 fs.N.length c1, .slice A2 fs.F.length c2, .slice A3 fs.O.length c3] := hW ▸ Blk.new w _ _
  have HF := keep hF
  have HT := keep (h.up hb)
  have HB := keep hb
  have HM := keep (And.intro hmN (And.intro hmF hmO))
  have HSZ := keep hz
  clear hb hF h hmF hmO hz
  go_enter Tryd.func33, Tryd.ntmps33
  go_upto_region 1 with fail
  rw [← hW]
  clear hW
  obtain ⟨f0, f1, f2⟩ := HF.out.cell3
  by_cases hN : 40 < fs.N.length
  · have d0 : decide (40 < (fs.N.length : Int)) = true := decide_eq_true (by omega)
    go_wp2_with fail
    go_ret
    exact ⟨false, rfl, ⟨fun h => Bool.noConfusion h, fun h => absurd h.b (by omega)⟩, HB.out⟩
  · have d0 : decide (40 < (fs.N.length : Int)) = false := decide_eq_false (by omega)
    have HN40 := keep hN
    have m1 : (fs.N.length : Int) ≤ 1000000 := by omega
    clear hN
    go_wp2_with fail
    clear f0 f1 f2 d0
    go_loopw [3] (fun i wr => ∃ k : Nat, i = .int .i64 k ∧ k ≤ fs.N.length ∧ Hid (∀ j, (hj : j < fs.N.length) → j < k → (∃ t ∈ fs.F, t.ino = fs.N[j].ino) ∧ vld fs.N[j].nm = true) ∧ Hid (AdjTo (fun a b => cfn b.nm a) fs.N k) ∧ Hid (Below W.heap.size W wr)) (fun i _ => fs.N.length - (intOf i).toNat)
    case atStart => exact ⟨0, rfl, Nat.zero_le _, keep (fun j hj h => absurd h (Nat.not_lt_zero _)), keep (fun i h => absurd h (by omega)), keep (Below.refl _ _)⟩
    case round =>
      obtain ⟨k, rfl, hk, hP, hQ, hBr⟩ := hrel
      obtain ⟨wo, rfl⟩ : ∃ wo : World, wo = wr := ⟨_, rfl⟩
      have HTo := keep (HT.out.up hBr.out)
      have HFo := HF.out.below hBr.out HF.out.lt
      obtain ⟨f0, f1, f2⟩ := HFo.cell3
      by_cases hlt : k < fs.N.length
      · obtain ⟨b, o, rfl, _, n0, n1⟩ := nm_cells HTo.out.n hlt
        have i0 : (0 : Int) ≤ (k : Int) := by omega
        have i1 : (k : Int) < (fs.N.length : Int) := by omega
        obtain ⟨t, ht⟩ : ∃ t, fs.N[k] = t := ⟨_, rfl⟩
        have HTT := keep ht
        have htm : t ∈ fs.N := ht ▸ List.getElem_mem hlt
        rw [ht] at n0 n1
        obtain ⟨nm, ino⟩ := t
        simp only at n0 n1
        have HSZ1 : Hid (nm.size ≤ 9223372036854775807) := keep (HSZ.out _ htm)
        have hal : Below wo.heap.size wo (wo.alloc (.cells #[.string nm, .int .i64 ino] 69)) := (Below.refl _ wo).alloc (Nat.le_refl _) _
        have hNb : Blk (wo.alloc (.cells #[.string nm, .int .i64 ino] 69)) wo.heap.size 69 #[.string nm, .int .i64 ino] := Blk.new _ _ _
        have HFb := keep (HFo.below hal HFo.lt)
        have HTb := keep (HTo.out.up hal)
        have HNB := keep hNb
        have HBb := keep (hBr.out.trans (hal.mono hBr.out.size))
        have HAL := keep hal
        have hlN : wo.heap.size < (wo.alloc (.cells #[.string nm, .int .i64 ino] 69)).heap.size := hNb.lt
        clear ht htm hNb HFo hal
        obtain ⟨vb, hv⟩ : ∃ v, vld nm = v := ⟨_, rfl⟩
        obtain ⟨ab, ha⟩ : ∃ a, decide (∃ t ∈ fs.F, t.ino = ino) = a := ⟨_, rfl⟩
        have HV := keep hv
        have HAA := keep ha
        have HA : Hid (∀ r, AtRes fs.F ino r → decide (r < 0) = !ab) := keep (fun r hr => by
          rcases hr with ⟨rfl, h⟩ | ⟨j, hj, rfl, h1, _⟩
          · rw [← ha, decide_eq_false (p := ∃ t ∈ fs.F, t.ino = ino) (fun ⟨t, ht, e⟩ => h t ht e)]
            rfl
          · rw [← ha, decide_eq_true (p := ∃ t ∈ fs.F, t.ino = ino) ⟨_, List.getElem_mem hj, h1⟩]
            simp)
        clear hv ha
        go_upto_region 7 with fail
        have hbl8 : b < wo.heap.size := World.block_lt_of_cell? wo _ n0
        have hbl9 := Nat.lt_trans hbl8 hlN
        have hex : ∃ (z : Bool) (p : Nat) (pnm : ByteArray), decide (0 < k) = z ∧ (z = true → k = p + 1 ∧ (∃ h : p < fs.N.length, fs.N[p].nm = pnm) ∧ wo.cell? ⟨b, o + p * 2, none⟩ = some (.string pnm)) ∧ (z = false → k = 0) := by
          cases hk : k with
          | zero => exact ⟨false, 0, nm, rfl, (fun h => by cases h), fun _ => rfl⟩
          | succ p =>
            have hp1 : p < fs.N.length := by omega
            obtain ⟨b', o', hA', _, p0, _⟩ := nm_cells HTo.out.n hp1
            injection hA' with hA'
            injection hA' with q1 q2 _
            subst q1 q2
            exact ⟨true, p, fs.N[p].nm, by simp, fun _ => ⟨rfl, ⟨hp1, rfl⟩, p0⟩, fun h => by cases h⟩
        obtain ⟨z, p, pnm, hz, hzt, hzf⟩ := hex
        have HP0 : Hid (z = true → (wo.alloc (.cells #[.string nm, .int .i64 ino] 69)).cell? ⟨b, o + p * 2, none⟩ = some (.string pnm)) := keep (fun h => (HAL.out.cell (p := ⟨b, o + p * 2, none⟩) hbl8).trans (hzt h).2.2)
        obtain ⟨bl, hbl⟩ : ∃ x, Op.bytesLess pnm.toList nm.toList = x := ⟨_, rfl⟩
        have HBL := keep (show decide (lb pnm < lb nm) = bl by rw [← hbl, Proofs.bytesLess_eq, Lib.toList_data, Lib.toList_data])
        have HBL2 := keep hbl
        have HZ := keep hz
        have HWR : Hid (z = true → IntKind.i64.wrap ((k : Int) - 1) = (p : Int)) := keep (fun h => by have := (hzt h).1; rw [IntWalk.i64_in _ (by omega)]; omega)
        have HPB : Hid (z = true → (0 : Int) ≤ (p : Int) ∧ (p : Int) < (fs.N.length : Int)) := keep (fun h => by have := (hzt h).1; omega)
        have HKP : Hid (z = true → k = p + 1) := keep (fun h => (hzt h).1)
        have HPN : Hid (z = true → ∃ h : p < fs.N.length, fs.N[p].nm = pnm) := keep (fun h => (hzt h).2.1)
        have HK0 := keep hzf
        clear hz hzt hzf hbl hbl8
        generalize wo.alloc (.cells #[.string nm, .int .i64 ino] 69) = wb at *
        generalize wo.heap.size = gn at *
        clear f0 f1 f2 n0 n1 hBr HTo HAL
        go_cut [50] (fun q wd => q = .bool (!vb || !ab || (z && !bl)) ∧ Hid (Below wb.heap.size wb wd))
        case first =>
          refine reg_start 151 fr151 (fun _ => rfl) _ rfl fun x0 hx0 => ?_
          have y1 : x0 1 = .pointer (some ⟨w.heap.size, 0, none⟩) := hx0 1
          have y3 : x0 3 = .int .i64 (k : Int) := hx0 3
          have y4 : x0 4 = .pointer (some ⟨gn, 0, none⟩) := hx0 4
          refine wp_regT (by kernel_rfl) 151 (by kernel_rfl) fr151 (fun _ => rfl) x0 (Below wb.heap.size wb) (fun _ _ _ => True) (fun i v wa => match i with
              | 0 => v = .pointer (some ⟨gn, 0, none⟩)
              | 1 => v = .string nm
              | 2 => v = .bool vb
              | 3 => v = .bool (!vb)
              | 4 => v = .bool (!vb)
              | 5 => (!vb) = false → v = .agg #[.slice (some ⟨b, o, none⟩) fs.N.length c1, .slice A2 fs.F.length c2, .slice A3 fs.O.length c3]
              | 6 => (!vb) = false → v = .pointer (some ⟨gn, 1, none⟩)
              | 7 => (!vb) = false → v = .int .i64 ino
              | 8 => (!vb) = false → ∃ r : Int, v = .int .i64 r ∧ AtRes fs.F ino r
              | 9 => (!vb) = false → v = .bool (!ab)
              | 10 => v = .bool (!vb || !ab)
              | 11 => v = .bool (!vb || !ab)
              | 12 => (!vb || !ab) = false → v = .int .i64 (k : Int)
              | 13 => (!vb || !ab) = false → v = .bool z
              | 14 => ((!vb || !ab) = false → v = .bool z) ∧ ((!vb || !ab) = true → v = undef)
              | 15 => (!vb || !ab) = false → z = true → v = .pointer (some ⟨w.heap.size, 0, none⟩)
              | 16 => (!vb || !ab) = false → z = true → v = .slice (some ⟨b, o, none⟩) fs.N.length c1
              | 17 => (!vb || !ab) = false → z = true → v = .int .i64 (k : Int)
              | 18 => (!vb || !ab) = false → z = true → v = .int .i64 (p : Int)
              | 19 => (!vb || !ab) = false → z = true → v = .pointer (some ⟨b, o + p * 2, none⟩)
              | 20 => (!vb || !ab) = false → z = true → v = .pointer (some ⟨b, o + p * 2, none⟩)
              | 21 => (!vb || !ab) = false → z = true → v = .string pnm
              | 22 => (!vb || !ab) = false → z = true → v = .pointer (some ⟨gn, 0, none⟩)
              | 23 => (!vb || !ab) = false → z = true → v = .string nm
              | 24 => (!vb || !ab) = false → z = true → v = .bool (!bl)
              | 25 => (!vb || !ab) = false → v = .bool (z && !bl)
              | 26 => v = .bool ((!vb || !ab) || (z && !bl))
              | _ => True) (fun _ _ _ _ _ _ _ h => h) (below_drewN (Below.refl _ _) 1) ?step ?skip ?done
          case step =>
            intro i o ho x wa K hW hout hdep hgd hK
            have E1 : Hid (x 1 = .pointer (some ⟨w.heap.size, 0, none⟩)) := keep ((hout 1 (by decide)).trans y1)
            have E3 : Hid (x 3 = .int .i64 (k : Int)) := keep ((hout 3 (by decide)).trans y3)
            have E4 : Hid (x 4 = .pointer (some ⟨gn, 0, none⟩)) := keep ((hout 4 (by decide)).trans y4)
            have i0 : (0 : Int) ≤ (k : Int) := by omega
            have i1 : (k : Int) < (fs.N.length : Int) := by omega
            clear hout hx0 y1 y3 y4
            have hi : i < 27 := (Array.getElem?_eq_some_iff.1 ho).1
            have hcase : i = 0 ∨ i = 1 ∨ i = 2 ∨ i = 3 ∨ i = 4 ∨ i = 5 ∨ i = 6 ∨ i = 7 ∨ i = 8 ∨ i = 9 ∨ i = 10 ∨ i = 11 ∨ i = 12 ∨ i = 13 ∨ i = 14 ∨ i = 15 ∨ i = 16 ∨ i = 17 ∨ i = 18 ∨ i = 19 ∨ i = 20 ∨ i = 21 ∨ i = 22 ∨ i = 23 ∨ i = 24 ∨ i = 25 ∨ i = 26 := by omega
            clear hi
            rcases hcase with rfl | rfl | rfl | rfl | rfl | rfl | rfl | rfl | rfl | rfl | rfl | rfl | rfl | rfl | rfl | rfl | rfl | rfl | rfl | rfl | rfl | rfl | rfl | rfl | rfl | rfl | rfl
            · -- operation 0
              simp only [List.getElem?_toArray, List.getElem?_cons_zero, Option.some.injEq] at ho
              subst ho
              clear hdep hgd
              unfold fr151
              rw [E4.out]
              go_simp
              have hk : K { tmps := #[x 0, x 1, x 2, x 3, x 4, x 5, x 6, x 7, x 8, x 9, x 10, x 11, x 12, x 13, x 14, x 15, x 16, x 17, x 18, x 19, x 20, x 21, x 22, x 23, .pointer (some ⟨gn, 0, none⟩), x 25, x 26, x 27, x 28, x 29, x 30, x 31, x 32, x 33, x 34, x 35, x 36, x 37, x 38, x 39, x 40, x 41, x 42, x 43, x 44, x 45, x 46, x 47, x 48, x 49, x 50, x 51, x 52, x 53, x 54, x 55, x 56, x 57, x 58, x 59, x 60, x 61, x 62, x 63, x 64, x 65, x 66, x 67, x 68, x 69, x 70, x 71, x 72, x 73, x 74, x 75, x 76, x 77, x 78, x 79, x 80, x 81, x 82, x 83, x 84, x 85, x 86, x 87, x 88, x 89, x 90, x 91, x 92, x 93, x 94, x 95, x 96, x 97, x 98, x 99, x 100, x 101, x 102, x 103, x 104, x 105, x 106, x 107, x 108, x 109, x 110, x 111, x 112, x 113, x 114, x 115, x 116, x 117, x 118, x 119, x 120, x 121, x 122, x 123, x 124, x 125, x 126, x 127, x 128, x 129, x 130, x 131, x 132, x 133, x 134, x 135, x 136, x 137, x 138, x 139, x 140, x 141, x 142, x 143, x 144, x 145, x 146, x 147, x 148, x 149, x 150], defers := [] } wa := hK _ _ hW trivial rfl
              rw [E4.out] at hk
              exact hk
            · -- operation 1
              simp only [List.getElem?_toArray, List.getElem?_cons_succ, List.getElem?_cons_zero, Option.some.injEq] at ho
              subst ho
              have p0 : (x 24) = .pointer (some ⟨gn, 0, none⟩) := hdep 0 (List.mem_of_elem_eq_true (by kernel_rfl))
              clear hdep hgd
              obtain ⟨y0, y1⟩ := (HNB.out.below hW HNB.out.lt).cell2
              unfold fr151
              rw [p0]
              go_simp
              have hk : K { tmps := #[x 0, x 1, x 2, x 3, x 4, x 5, x 6, x 7, x 8, x 9, x 10, x 11, x 12, x 13, x 14, x 15, x 16, x 17, x 18, x 19, x 20, x 21, x 22, x 23, x 24, .string nm, x 26, x 27, x 28, x 29, x 30, x 31, x 32, x 33, x 34, x 35, x 36, x 37, x 38, x 39, x 40, x 41, x 42, x 43, x 44, x 45, x 46, x 47, x 48, x 49, x 50, x 51, x 52, x 53, x 54, x 55, x 56, x 57, x 58, x 59, x 60, x 61, x 62, x 63, x 64, x 65, x 66, x 67, x 68, x 69, x 70, x 71, x 72, x 73, x 74, x 75, x 76, x 77, x 78, x 79, x 80, x 81, x 82, x 83, x 84, x 85, x 86, x 87, x 88, x 89, x 90, x 91, x 92, x 93, x 94, x 95, x 96, x 97, x 98, x 99, x 100, x 101, x 102, x 103, x 104, x 105, x 106, x 107, x 108, x 109, x 110, x 111, x 112, x 113, x 114, x 115, x 116, x 117, x 118, x 119, x 120, x 121, x 122, x 123, x 124, x 125, x 126, x 127, x 128, x 129, x 130, x 131, x 132, x 133, x 134, x 135, x 136, x 137, x 138, x 139, x 140, x 141, x 142, x 143, x 144, x 145, x 146, x 147, x 148, x 149, x 150], defers := [] } wa := hK _ _ hW trivial rfl
              rw [p0] at hk
              exact hk
            · -- operation 2
              simp only [List.getElem?_toArray, List.getElem?_cons_succ, List.getElem?_cons_zero, Option.some.injEq] at ho
              subst ho
              have p1 : (x 25) = .string nm := hdep 1 (List.mem_of_elem_eq_true (by kernel_rfl))
              clear hdep hgd
              unfold fr151
              rw [p1]
              go_simp
              refine (refFileName_any nm _ HSZ1.out).mono ?_
              rintro e w5 ⟨rfl, rfl⟩
              rw [HV.out]
              have hk : K { tmps := #[x 0, x 1, x 2, x 3, x 4, x 5, x 6, x 7, x 8, x 9, x 10, x 11, x 12, x 13, x 14, x 15, x 16, x 17, x 18, x 19, x 20, x 21, x 22, x 23, x 24, x 25, .bool vb, x 27, x 28, x 29, x 30, x 31, x 32, x 33, x 34, x 35, x 36, x 37, x 38, x 39, x 40, x 41, x 42, x 43, x 44, x 45, x 46, x 47, x 48, x 49, x 50, x 51, x 52, x 53, x 54, x 55, x 56, x 57, x 58, x 59, x 60, x 61, x 62, x 63, x 64, x 65, x 66, x 67, x 68, x 69, x 70, x 71, x 72, x 73, x 74, x 75, x 76, x 77, x 78, x 79, x 80, x 81, x 82, x 83, x 84, x 85, x 86, x 87, x 88, x 89, x 90, x 91, x 92, x 93, x 94, x 95, x 96, x 97, x 98, x 99, x 100, x 101, x 102, x 103, x 104, x 105, x 106, x 107, x 108, x 109, x 110, x 111, x 112, x 113, x 114, x 115, x 116, x 117, x 118, x 119, x 120, x 121, x 122, x 123, x 124, x 125, x 126, x 127, x 128, x 129, x 130, x 131, x 132, x 133, x 134, x 135, x 136, x 137, x 138, x 139, x 140, x 141, x 142, x 143, x 144, x 145, x 146, x 147, x 148, x 149, x 150], defers := [] } w5 := hK _ _ hW trivial rfl
              rw [p1] at hk
              exact hk
            · -- operation 3
              simp only [List.getElem?_toArray, List.getElem?_cons_succ, List.getElem?_cons_zero, Option.some.injEq] at ho
              subst ho
              have p2 : (x 26) = .bool vb := hdep 2 (List.mem_of_elem_eq_true (by kernel_rfl))
              clear hdep hgd
              unfold fr151
              rw [p2]
              go_simp
              have hk : K { tmps := #[x 0, x 1, x 2, x 3, x 4, x 5, x 6, x 7, x 8, x 9, x 10, x 11, x 12, x 13, x 14, x 15, x 16, x 17, x 18, x 19, x 20, x 21, x 22, x 23, x 24, x 25, x 26, .bool (!vb), x 28, x 29, x 30, x 31, x 32, x 33, x 34, x 35, x 36, x 37, x 38, x 39, x 40, x 41, x 42, x 43, x 44, x 45, x 46, x 47, x 48, x 49, x 50, x 51, x 52, x 53, x 54, x 55, x 56, x 57, x 58, x 59, x 60, x 61, x 62, x 63, x 64, x 65, x 66, x 67, x 68, x 69, x 70, x 71, x 72, x 73, x 74, x 75, x 76, x 77, x 78, x 79, x 80, x 81, x 82, x 83, x 84, x 85, x 86, x 87, x 88, x 89, x 90, x 91, x 92, x 93, x 94, x 95, x 96, x 97, x 98, x 99, x 100, x 101, x 102, x 103, x 104, x 105, x 106, x 107, x 108, x 109, x 110, x 111, x 112, x 113, x 114, x 115, x 116, x 117, x 118, x 119, x 120, x 121, x 122, x 123, x 124, x 125, x 126, x 127, x 128, x 129, x 130, x 131, x 132, x 133, x 134, x 135, x 136, x 137, x 138, x 139, x 140, x 141, x 142, x 143, x 144, x 145, x 146, x 147, x 148, x 149, x 150], defers := [] } wa := hK _ _ hW trivial rfl
              rw [p2] at hk
              exact hk
            · -- operation 4
              simp only [List.getElem?_toArray, List.getElem?_cons_succ, List.getElem?_cons_zero, Option.some.injEq] at ho
              subst ho
              have p3 : (x 27) = .bool (!vb) := hdep 3 (List.mem_of_elem_eq_true (by kernel_rfl))
              clear hdep hgd
              unfold fr151
              rw [p3]
              go_simp
              have hk : K { tmps := #[x 0, x 1, x 2, x 3, x 4, x 5, x 6, x 7, x 8, x 9, x 10, x 11, x 12, x 13, x 14, x 15, x 16, x 17, x 18, x 19, x 20, x 21, x 22, x 23, x 24, x 25, x 26, x 27, .bool (!vb), x 29, x 30, x 31, x 32, x 33, x 34, x 35, x 36, x 37, x 38, x 39, x 40, x 41, x 42, x 43, x 44, x 45, x 46, x 47, x 48, x 49, x 50, x 51, x 52, x 53, x 54, x 55, x 56, x 57, x 58, x 59, x 60, x 61, x 62, x 63, x 64, x 65, x 66, x 67, x 68, x 69, x 70, x 71, x 72, x 73, x 74, x 75, x 76, x 77, x 78, x 79, x 80, x 81, x 82, x 83, x 84, x 85, x 86, x 87, x 88, x 89, x 90, x 91, x 92, x 93, x 94, x 95, x 96, x 97, x 98, x 99, x 100, x 101, x 102, x 103, x 104, x 105, x 106, x 107, x 108, x 109, x 110, x 111, x 112, x 113, x 114, x 115, x 116, x 117, x 118, x 119, x 120, x 121, x 122, x 123, x 124, x 125, x 126, x 127, x 128, x 129, x 130, x 131, x 132, x 133, x 134, x 135, x 136, x 137, x 138, x 139, x 140, x 141, x 142, x 143, x 144, x 145, x 146, x 147, x 148, x 149, x 150], defers := [] } wa := hK _ _ hW trivial rfl
              rw [p3] at hk
              exact hk
            · -- operation 5
              simp only [List.getElem?_toArray, List.getElem?_cons_succ, List.getElem?_cons_zero, Option.some.injEq] at ho
              subst ho
              have hg : x 28 = .bool false := hgd 4 false rfl
              have p4 : (x 28) = .bool (!vb) := hdep 4 (List.mem_of_elem_eq_true (by kernel_rfl))
              clear hdep hgd
              have hg1 := p4
              rw [hg1] at hg
              injection hg with hq1
              clear hg1
              clear p4
              obtain ⟨f0, f1, f2⟩ := (HFb.out.below hW HFb.out.lt).cell3
              unfold fr151
              rw [E1.out]
              go_simp
              have hk : K { tmps := #[x 0, x 1, x 2, x 3, x 4, x 5, x 6, x 7, x 8, x 9, x 10, x 11, x 12, x 13, x 14, x 15, x 16, x 17, x 18, x 19, x 20, x 21, x 22, x 23, x 24, x 25, x 26, x 27, x 28, .agg #[.slice (some ⟨b, o, none⟩) fs.N.length c1, .slice A2 fs.F.length c2, .slice A3 fs.O.length c3], x 30, x 31, x 32, x 33, x 34, x 35, x 36, x 37, x 38, x 39, x 40, x 41, x 42, x 43, x 44, x 45, x 46, x 47, x 48, x 49, x 50, x 51, x 52, x 53, x 54, x 55, x 56, x 57, x 58, x 59, x 60, x 61, x 62, x 63, x 64, x 65, x 66, x 67, x 68, x 69, x 70, x 71, x 72, x 73, x 74, x 75, x 76, x 77, x 78, x 79, x 80, x 81, x 82, x 83, x 84, x 85, x 86, x 87, x 88, x 89, x 90, x 91, x 92, x 93, x 94, x 95, x 96, x 97, x 98, x 99, x 100, x 101, x 102, x 103, x 104, x 105, x 106, x 107, x 108, x 109, x 110, x 111, x 112, x 113, x 114, x 115, x 116, x 117, x 118, x 119, x 120, x 121, x 122, x 123, x 124, x 125, x 126, x 127, x 128, x 129, x 130, x 131, x 132, x 133, x 134, x 135, x 136, x 137, x 138, x 139, x 140, x 141, x 142, x 143, x 144, x 145, x 146, x 147, x 148, x 149, x 150], defers := [] } wa := hK _ _ hW trivial (fun _ => rfl)
              rw [E1.out] at hk
              exact hk
            · -- operation 6
              simp only [List.getElem?_toArray, List.getElem?_cons_succ, List.getElem?_cons_zero, Option.some.injEq] at ho
              subst ho
              have hg : x 28 = .bool false := hgd 4 false rfl
              have p4 : (x 28) = .bool (!vb) := hdep 4 (List.mem_of_elem_eq_true (by kernel_rfl))
              clear hdep hgd
              have hg1 := p4
              rw [hg1] at hg
              injection hg with hq1
              clear hg1
              clear p4
              unfold fr151
              rw [E4.out]
              go_simp
              have hk : K { tmps := #[x 0, x 1, x 2, x 3, x 4, x 5, x 6, x 7, x 8, x 9, x 10, x 11, x 12, x 13, x 14, x 15, x 16, x 17, x 18, x 19, x 20, x 21, x 22, x 23, x 24, x 25, x 26, x 27, x 28, x 29, .pointer (some ⟨gn, 1, none⟩), x 31, x 32, x 33, x 34, x 35, x 36, x 37, x 38, x 39, x 40, x 41, x 42, x 43, x 44, x 45, x 46, x 47, x 48, x 49, x 50, x 51, x 52, x 53, x 54, x 55, x 56, x 57, x 58, x 59, x 60, x 61, x 62, x 63, x 64, x 65, x 66, x 67, x 68, x 69, x 70, x 71, x 72, x 73, x 74, x 75, x 76, x 77, x 78, x 79, x 80, x 81, x 82, x 83, x 84, x 85, x 86, x 87, x 88, x 89, x 90, x 91, x 92, x 93, x 94, x 95, x 96, x 97, x 98, x 99, x 100, x 101, x 102, x 103, x 104, x 105, x 106, x 107, x 108, x 109, x 110, x 111, x 112, x 113, x 114, x 115, x 116, x 117, x 118, x 119, x 120, x 121, x 122, x 123, x 124, x 125, x 126, x 127, x 128, x 129, x 130, x 131, x 132, x 133, x 134, x 135, x 136, x 137, x 138, x 139, x 140, x 141, x 142, x 143, x 144, x 145, x 146, x 147, x 148, x 149, x 150], defers := [] } wa := hK _ _ hW trivial (fun _ => rfl)
              rw [E4.out] at hk
              exact hk
            · -- operation 7
              simp only [List.getElem?_toArray, List.getElem?_cons_succ, List.getElem?_cons_zero, Option.some.injEq] at ho
              subst ho
              have hg : x 28 = .bool false := hgd 4 false rfl
              have p4 : (x 28) = .bool (!vb) := hdep 4 (List.mem_of_elem_eq_true (by kernel_rfl))
              have p6 : (!vb) = false → (x 30) = .pointer (some ⟨gn, 1, none⟩) := hdep 6 (List.mem_of_elem_eq_true (by kernel_rfl))
              clear hdep hgd
              have hg1 := p4
              rw [hg1] at hg
              injection hg with hq1
              clear hg1
              clear p4
              replace p6 := p6 hq1
              obtain ⟨y0, y1⟩ := (HNB.out.below hW HNB.out.lt).cell2
              unfold fr151
              rw [p6]
              go_simp
              have hk : K { tmps := #[x 0, x 1, x 2, x 3, x 4, x 5, x 6, x 7, x 8, x 9, x 10, x 11, x 12, x 13, x 14, x 15, x 16, x 17, x 18, x 19, x 20, x 21, x 22, x 23, x 24, x 25, x 26, x 27, x 28, x 29, x 30, .int .i64 ino, x 32, x 33, x 34, x 35, x 36, x 37, x 38, x 39, x 40, x 41, x 42, x 43, x 44, x 45, x 46, x 47, x 48, x 49, x 50, x 51, x 52, x 53, x 54, x 55, x 56, x 57, x 58, x 59, x 60, x 61, x 62, x 63, x 64, x 65, x 66, x 67, x 68, x 69, x 70, x 71, x 72, x 73, x 74, x 75, x 76, x 77, x 78, x 79, x 80, x 81, x 82, x 83, x 84, x 85, x 86, x 87, x 88, x 89, x 90, x 91, x 92, x 93, x 94, x 95, x 96, x 97, x 98, x 99, x 100, x 101, x 102, x 103, x 104, x 105, x 106, x 107, x 108, x 109, x 110, x 111, x 112, x 113, x 114, x 115, x 116, x 117, x 118, x 119, x 120, x 121, x 122, x 123, x 124, x 125, x 126, x 127, x 128, x 129, x 130, x 131, x 132, x 133, x 134, x 135, x 136, x 137, x 138, x 139, x 140, x 141, x 142, x 143, x 144, x 145, x 146, x 147, x 148, x 149, x 150], defers := [] } wa := hK _ _ hW trivial (fun _ => rfl)
              rw [p6] at hk
              exact hk
            · -- operation 8
              simp only [List.getElem?_toArray, List.getElem?_cons_succ, List.getElem?_cons_zero, Option.some.injEq] at ho
              subst ho
              have hg : x 28 = .bool false := hgd 4 false rfl
              have p4 : (x 28) = .bool (!vb) := hdep 4 (List.mem_of_elem_eq_true (by kernel_rfl))
              have p5 : (!vb) = false → (x 29) = .agg #[.slice (some ⟨b, o, none⟩) fs.N.length c1, .slice A2 fs.F.length c2, .slice A3 fs.O.length c3] := hdep 5 (List.mem_of_elem_eq_true (by kernel_rfl))
              have p7 : (!vb) = false → (x 31) = .int .i64 ino := hdep 7 (List.mem_of_elem_eq_true (by kernel_rfl))
              clear hdep hgd
              have hg1 := p4
              rw [hg1] at hg
              injection hg with hq1
              clear hg1
              clear p4
              replace p5 := p5 hq1
              replace p7 := p7 hq1
              unfold fr151
              rw [p5, p7]
              go_simp
              refine (refAt_any _ _ _ fs ino _ (HTb.out.up hW) HM.out.2.1).mono ?_
              rintro e w5 ⟨r, rfl, hr, hb5⟩
              have hk : K { tmps := #[x 0, x 1, x 2, x 3, x 4, x 5, x 6, x 7, x 8, x 9, x 10, x 11, x 12, x 13, x 14, x 15, x 16, x 17, x 18, x 19, x 20, x 21, x 22, x 23, x 24, x 25, x 26, x 27, x 28, x 29, x 30, x 31, .int .i64 r, x 33, x 34, x 35, x 36, x 37, x 38, x 39, x 40, x 41, x 42, x 43, x 44, x 45, x 46, x 47, x 48, x 49, x 50, x 51, x 52, x 53, x 54, x 55, x 56, x 57, x 58, x 59, x 60, x 61, x 62, x 63, x 64, x 65, x 66, x 67, x 68, x 69, x 70, x 71, x 72, x 73, x 74, x 75, x 76, x 77, x 78, x 79, x 80, x 81, x 82, x 83, x 84, x 85, x 86, x 87, x 88, x 89, x 90, x 91, x 92, x 93, x 94, x 95, x 96, x 97, x 98, x 99, x 100, x 101, x 102, x 103, x 104, x 105, x 106, x 107, x 108, x 109, x 110, x 111, x 112, x 113, x 114, x 115, x 116, x 117, x 118, x 119, x 120, x 121, x 122, x 123, x 124, x 125, x 126, x 127, x 128, x 129, x 130, x 131, x 132, x 133, x 134, x 135, x 136, x 137, x 138, x 139, x 140, x 141, x 142, x 143, x 144, x 145, x 146, x 147, x 148, x 149, x 150], defers := [] } w5 := hK _ _ (bchain hW hb5) trivial (fun _ => ⟨r, rfl, hr⟩)
              rw [p5, p7] at hk
              exact hk
            · -- operation 9
              simp only [List.getElem?_toArray, List.getElem?_cons_succ, List.getElem?_cons_zero, Option.some.injEq] at ho
              subst ho
              have hg : x 28 = .bool false := hgd 4 false rfl
              have p4 : (x 28) = .bool (!vb) := hdep 4 (List.mem_of_elem_eq_true (by kernel_rfl))
              have p8 : (!vb) = false → ∃ r : Int, (x 32) = .int .i64 r ∧ AtRes fs.F ino r := hdep 8 (List.mem_of_elem_eq_true (by kernel_rfl))
              clear hdep hgd
              have hg1 := p4
              rw [hg1] at hg
              injection hg with hq1
              clear hg1
              clear p4
              replace p8 := p8 hq1
              obtain ⟨r, hv, hr⟩ := p8
              have hra := HA.out r hr
              clear hr
              unfold fr151
              rw [hv]
              go_simp
              have hk : K { tmps := #[x 0, x 1, x 2, x 3, x 4, x 5, x 6, x 7, x 8, x 9, x 10, x 11, x 12, x 13, x 14, x 15, x 16, x 17, x 18, x 19, x 20, x 21, x 22, x 23, x 24, x 25, x 26, x 27, x 28, x 29, x 30, x 31, x 32, .bool (!ab), x 34, x 35, x 36, x 37, x 38, x 39, x 40, x 41, x 42, x 43, x 44, x 45, x 46, x 47, x 48, x 49, x 50, x 51, x 52, x 53, x 54, x 55, x 56, x 57, x 58, x 59, x 60, x 61, x 62, x 63, x 64, x 65, x 66, x 67, x 68, x 69, x 70, x 71, x 72, x 73, x 74, x 75, x 76, x 77, x 78, x 79, x 80, x 81, x 82, x 83, x 84, x 85, x 86, x 87, x 88, x 89, x 90, x 91, x 92, x 93, x 94, x 95, x 96, x 97, x 98, x 99, x 100, x 101, x 102, x 103, x 104, x 105, x 106, x 107, x 108, x 109, x 110, x 111, x 112, x 113, x 114, x 115, x 116, x 117, x 118, x 119, x 120, x 121, x 122, x 123, x 124, x 125, x 126, x 127, x 128, x 129, x 130, x 131, x 132, x 133, x 134, x 135, x 136, x 137, x 138, x 139, x 140, x 141, x 142, x 143, x 144, x 145, x 146, x 147, x 148, x 149, x 150], defers := [] } wa := hK _ _ hW trivial (fun _ => rfl)
              rw [hv] at hk
              exact hk
            · -- operation 10
              simp only [List.getElem?_toArray, List.getElem?_cons_succ, List.getElem?_cons_zero, Option.some.injEq] at ho
              subst ho
              have p4 : (x 28) = .bool (!vb) := hdep 4 (List.mem_of_elem_eq_true (by kernel_rfl))
              have p9 : (!vb) = false → (x 33) = .bool (!ab) := hdep 9 (List.mem_of_elem_eq_true (by kernel_rfl))
              clear hdep hgd
              rcases Bool.eq_false_or_eq_true vb with hv | hv
              · replace p9 := p9 (by rw [hv]; rfl)
                rw [hv, Bool.not_true] at p4
                unfold fr151
                rw [p4, p9]
                have hk : K { tmps := #[x 0, x 1, x 2, x 3, x 4, x 5, x 6, x 7, x 8, x 9, x 10, x 11, x 12, x 13, x 14, x 15, x 16, x 17, x 18, x 19, x 20, x 21, x 22, x 23, x 24, x 25, x 26, x 27, x 28, x 29, x 30, x 31, x 32, x 33, .bool (!ab), x 35, x 36, x 37, x 38, x 39, x 40, x 41, x 42, x 43, x 44, x 45, x 46, x 47, x 48, x 49, x 50, x 51, x 52, x 53, x 54, x 55, x 56, x 57, x 58, x 59, x 60, x 61, x 62, x 63, x 64, x 65, x 66, x 67, x 68, x 69, x 70, x 71, x 72, x 73, x 74, x 75, x 76, x 77, x 78, x 79, x 80, x 81, x 82, x 83, x 84, x 85, x 86, x 87, x 88, x 89, x 90, x 91, x 92, x 93, x 94, x 95, x 96, x 97, x 98, x 99, x 100, x 101, x 102, x 103, x 104, x 105, x 106, x 107, x 108, x 109, x 110, x 111, x 112, x 113, x 114, x 115, x 116, x 117, x 118, x 119, x 120, x 121, x 122, x 123, x 124, x 125, x 126, x 127, x 128, x 129, x 130, x 131, x 132, x 133, x 134, x 135, x 136, x 137, x 138, x 139, x 140, x 141, x 142, x 143, x 144, x 145, x 146, x 147, x 148, x 149, x 150], defers := [] } wa := hK _ _ hW trivial (by rw [hv]; rfl)
                rw [p4, p9] at hk
                clear p4 p9 hv
                go_simp
                exact hk
              · rw [hv, Bool.not_false] at p4
                clear p9
                unfold fr151
                rw [p4]
                have hk : K { tmps := #[x 0, x 1, x 2, x 3, x 4, x 5, x 6, x 7, x 8, x 9, x 10, x 11, x 12, x 13, x 14, x 15, x 16, x 17, x 18, x 19, x 20, x 21, x 22, x 23, x 24, x 25, x 26, x 27, x 28, x 29, x 30, x 31, x 32, x 33, .bool true, x 35, x 36, x 37, x 38, x 39, x 40, x 41, x 42, x 43, x 44, x 45, x 46, x 47, x 48, x 49, x 50, x 51, x 52, x 53, x 54, x 55, x 56, x 57, x 58, x 59, x 60, x 61, x 62, x 63, x 64, x 65, x 66, x 67, x 68, x 69, x 70, x 71, x 72, x 73, x 74, x 75, x 76, x 77, x 78, x 79, x 80, x 81, x 82, x 83, x 84, x 85, x 86, x 87, x 88, x 89, x 90, x 91, x 92, x 93, x 94, x 95, x 96, x 97, x 98, x 99, x 100, x 101, x 102, x 103, x 104, x 105, x 106, x 107, x 108, x 109, x 110, x 111, x 112, x 113, x 114, x 115, x 116, x 117, x 118, x 119, x 120, x 121, x 122, x 123, x 124, x 125, x 126, x 127, x 128, x 129, x 130, x 131, x 132, x 133, x 134, x 135, x 136, x 137, x 138, x 139, x 140, x 141, x 142, x 143, x 144, x 145, x 146, x 147, x 148, x 149, x 150], defers := [] } wa := hK _ _ hW trivial (by rw [hv]; rfl)
                rw [p4] at hk
                clear p4 hv
                go_simp
                exact hk
            · -- operation 11
              simp only [List.getElem?_toArray, List.getElem?_cons_succ, List.getElem?_cons_zero, Option.some.injEq] at ho
              subst ho
              have p10 : (x 34) = .bool (!vb || !ab) := hdep 10 (List.mem_of_elem_eq_true (by kernel_rfl))
              clear hdep hgd
              unfold fr151
              rw [p10]
              go_simp
              have hk : K { tmps := #[x 0, x 1, x 2, x 3, x 4, x 5, x 6, x 7, x 8, x 9, x 10, x 11, x 12, x 13, x 14, x 15, x 16, x 17, x 18, x 19, x 20, x 21, x 22, x 23, x 24, x 25, x 26, x 27, x 28, x 29, x 30, x 31, x 32, x 33, x 34, .bool (!vb || !ab), x 36, x 37, x 38, x 39, x 40, x 41, x 42, x 43, x 44, x 45, x 46, x 47, x 48, x 49, x 50, x 51, x 52, x 53, x 54, x 55, x 56, x 57, x 58, x 59, x 60, x 61, x 62, x 63, x 64, x 65, x 66, x 67, x 68, x 69, x 70, x 71, x 72, x 73, x 74, x 75, x 76, x 77, x 78, x 79, x 80, x 81, x 82, x 83, x 84, x 85, x 86, x 87, x 88, x 89, x 90, x 91, x 92, x 93, x 94, x 95, x 96, x 97, x 98, x 99, x 100, x 101, x 102, x 103, x 104, x 105, x 106, x 107, x 108, x 109, x 110, x 111, x 112, x 113, x 114, x 115, x 116, x 117, x 118, x 119, x 120, x 121, x 122, x 123, x 124, x 125, x 126, x 127, x 128, x 129, x 130, x 131, x 132, x 133, x 134, x 135, x 136, x 137, x 138, x 139, x 140, x 141, x 142, x 143, x 144, x 145, x 146, x 147, x 148, x 149, x 150], defers := [] } wa := hK _ _ hW trivial rfl
              rw [p10] at hk
              exact hk
            · -- operation 12
              simp only [List.getElem?_toArray, List.getElem?_cons_succ, List.getElem?_cons_zero, Option.some.injEq] at ho
              subst ho
              have hg : x 35 = .bool false := hgd 11 false rfl
              have p11 : (x 35) = .bool (!vb || !ab) := hdep 11 (List.mem_of_elem_eq_true (by kernel_rfl))
              clear hdep hgd
              have hg1 := p11
              rw [hg1] at hg
              injection hg with hq1
              clear hg1
              clear p11
              unfold fr151
              rw [E3.out]
              go_simp
              have hk : K { tmps := #[x 0, x 1, x 2, x 3, x 4, x 5, x 6, x 7, x 8, x 9, x 10, x 11, x 12, x 13, x 14, x 15, x 16, x 17, x 18, x 19, x 20, x 21, x 22, x 23, x 24, x 25, x 26, x 27, x 28, x 29, x 30, x 31, x 32, x 33, x 34, x 35, .int .i64 (k : Int), x 37, x 38, x 39, x 40, x 41, x 42, x 43, x 44, x 45, x 46, x 47, x 48, x 49, x 50, x 51, x 52, x 53, x 54, x 55, x 56, x 57, x 58, x 59, x 60, x 61, x 62, x 63, x 64, x 65, x 66, x 67, x 68, x 69, x 70, x 71, x 72, x 73, x 74, x 75, x 76, x 77, x 78, x 79, x 80, x 81, x 82, x 83, x 84, x 85, x 86, x 87, x 88, x 89, x 90, x 91, x 92, x 93, x 94, x 95, x 96, x 97, x 98, x 99, x 100, x 101, x 102, x 103, x 104, x 105, x 106, x 107, x 108, x 109, x 110, x 111, x 112, x 113, x 114, x 115, x 116, x 117, x 118, x 119, x 120, x 121, x 122, x 123, x 124, x 125, x 126, x 127, x 128, x 129, x 130, x 131, x 132, x 133, x 134, x 135, x 136, x 137, x 138, x 139, x 140, x 141, x 142, x 143, x 144, x 145, x 146, x 147, x 148, x 149, x 150], defers := [] } wa := hK _ _ hW trivial (fun _ => rfl)
              rw [E3.out] at hk
              exact hk
            · -- operation 13
              simp only [List.getElem?_toArray, List.getElem?_cons_succ, List.getElem?_cons_zero, Option.some.injEq] at ho
              subst ho
              have hg : x 35 = .bool false := hgd 11 false rfl
              have p11 : (x 35) = .bool (!vb || !ab) := hdep 11 (List.mem_of_elem_eq_true (by kernel_rfl))
              have p12 : (!vb || !ab) = false → (x 36) = .int .i64 (k : Int) := hdep 12 (List.mem_of_elem_eq_true (by kernel_rfl))
              clear hdep hgd
              have hg1 := p11
              rw [hg1] at hg
              injection hg with hq1
              clear hg1
              clear p11
              replace p12 := p12 hq1
              have hz1 := HZ.out
              unfold fr151
              rw [p12]
              go_simp
              have hk : K { tmps := #[x 0, x 1, x 2, x 3, x 4, x 5, x 6, x 7, x 8, x 9, x 10, x 11, x 12, x 13, x 14, x 15, x 16, x 17, x 18, x 19, x 20, x 21, x 22, x 23, x 24, x 25, x 26, x 27, x 28, x 29, x 30, x 31, x 32, x 33, x 34, x 35, x 36, .bool z, x 38, x 39, x 40, x 41, x 42, x 43, x 44, x 45, x 46, x 47, x 48, x 49, x 50, x 51, x 52, x 53, x 54, x 55, x 56, x 57, x 58, x 59, x 60, x 61, x 62, x 63, x 64, x 65, x 66, x 67, x 68, x 69, x 70, x 71, x 72, x 73, x 74, x 75, x 76, x 77, x 78, x 79, x 80, x 81, x 82, x 83, x 84, x 85, x 86, x 87, x 88, x 89, x 90, x 91, x 92, x 93, x 94, x 95, x 96, x 97, x 98, x 99, x 100, x 101, x 102, x 103, x 104, x 105, x 106, x 107, x 108, x 109, x 110, x 111, x 112, x 113, x 114, x 115, x 116, x 117, x 118, x 119, x 120, x 121, x 122, x 123, x 124, x 125, x 126, x 127, x 128, x 129, x 130, x 131, x 132, x 133, x 134, x 135, x 136, x 137, x 138, x 139, x 140, x 141, x 142, x 143, x 144, x 145, x 146, x 147, x 148, x 149, x 150], defers := [] } wa := hK _ _ hW trivial (fun _ => rfl)
              rw [p12] at hk
              exact hk
            · -- operation 14
              simp only [List.getElem?_toArray, List.getElem?_cons_succ, List.getElem?_cons_zero, Option.some.injEq] at ho
              subst ho
              have hg : x 35 = .bool false := hgd 11 false rfl
              have p11 : (x 35) = .bool (!vb || !ab) := hdep 11 (List.mem_of_elem_eq_true (by kernel_rfl))
              have p13 : (!vb || !ab) = false → (x 37) = .bool z := hdep 13 (List.mem_of_elem_eq_true (by kernel_rfl))
              clear hdep hgd
              have hg1 := p11
              rw [hg1] at hg
              injection hg with hq1
              clear hg1
              clear p11
              replace p13 := p13 hq1
              unfold fr151
              rw [p13]
              go_simp
              have hk : K { tmps := #[x 0, x 1, x 2, x 3, x 4, x 5, x 6, x 7, x 8, x 9, x 10, x 11, x 12, x 13, x 14, x 15, x 16, x 17, x 18, x 19, x 20, x 21, x 22, x 23, x 24, x 25, x 26, x 27, x 28, x 29, x 30, x 31, x 32, x 33, x 34, x 35, x 36, x 37, .bool z, x 39, x 40, x 41, x 42, x 43, x 44, x 45, x 46, x 47, x 48, x 49, x 50, x 51, x 52, x 53, x 54, x 55, x 56, x 57, x 58, x 59, x 60, x 61, x 62, x 63, x 64, x 65, x 66, x 67, x 68, x 69, x 70, x 71, x 72, x 73, x 74, x 75, x 76, x 77, x 78, x 79, x 80, x 81, x 82, x 83, x 84, x 85, x 86, x 87, x 88, x 89, x 90, x 91, x 92, x 93, x 94, x 95, x 96, x 97, x 98, x 99, x 100, x 101, x 102, x 103, x 104, x 105, x 106, x 107, x 108, x 109, x 110, x 111, x 112, x 113, x 114, x 115, x 116, x 117, x 118, x 119, x 120, x 121, x 122, x 123, x 124, x 125, x 126, x 127, x 128, x 129, x 130, x 131, x 132, x 133, x 134, x 135, x 136, x 137, x 138, x 139, x 140, x 141, x 142, x 143, x 144, x 145, x 146, x 147, x 148, x 149, x 150], defers := [] } wa := hK _ _ hW trivial ⟨fun _ => rfl, fun h => by rw [hq1] at h; cases h⟩
              rw [p13] at hk
              exact hk
            · -- operation 15
              simp only [List.getElem?_toArray, List.getElem?_cons_succ, List.getElem?_cons_zero, Option.some.injEq] at ho
              subst ho
              have hg : x 38 = .bool true := hgd 14 true rfl
              have p14 : ((!vb || !ab) = false → (x 38) = .bool z) ∧ ((!vb || !ab) = true → (x 38) = undef) := hdep 14 (List.mem_of_elem_eq_true (by kernel_rfl))
              clear hdep hgd
              have hq1 : (!vb || !ab) = false := by
                cases hE : ((!vb || !ab)) with
                | false => rfl
                | true => rw [p14.2 hE] at hg; cases hg
              have hq2 : z = true := by
                have h := p14.1 hq1
                rw [h] at hg
                injection hg
              clear hg p14
              unfold fr151
              rw [E1.out]
              go_simp
              have hk : K { tmps := #[x 0, x 1, x 2, x 3, x 4, x 5, x 6, x 7, x 8, x 9, x 10, x 11, x 12, x 13, x 14, x 15, x 16, x 17, x 18, x 19, x 20, x 21, x 22, x 23, x 24, x 25, x 26, x 27, x 28, x 29, x 30, x 31, x 32, x 33, x 34, x 35, x 36, x 37, x 38, .pointer (some ⟨w.heap.size, 0, none⟩), x 40, x 41, x 42, x 43, x 44, x 45, x 46, x 47, x 48, x 49, x 50, x 51, x 52, x 53, x 54, x 55, x 56, x 57, x 58, x 59, x 60, x 61, x 62, x 63, x 64, x 65, x 66, x 67, x 68, x 69, x 70, x 71, x 72, x 73, x 74, x 75, x 76, x 77, x 78, x 79, x 80, x 81, x 82, x 83, x 84, x 85, x 86, x 87, x 88, x 89, x 90, x 91, x 92, x 93, x 94, x 95, x 96, x 97, x 98, x 99, x 100, x 101, x 102, x 103, x 104, x 105, x 106, x 107, x 108, x 109, x 110, x 111, x 112, x 113, x 114, x 115, x 116, x 117, x 118, x 119, x 120, x 121, x 122, x 123, x 124, x 125, x 126, x 127, x 128, x 129, x 130, x 131, x 132, x 133, x 134, x 135, x 136, x 137, x 138, x 139, x 140, x 141, x 142, x 143, x 144, x 145, x 146, x 147, x 148, x 149, x 150], defers := [] } wa := hK _ _ hW trivial (fun _ => fun _ => rfl)
              rw [E1.out] at hk
              exact hk
            · -- operation 16
              simp only [List.getElem?_toArray, List.getElem?_cons_succ, List.getElem?_cons_zero, Option.some.injEq] at ho
              subst ho
              have hg : x 38 = .bool true := hgd 14 true rfl
              have p14 : ((!vb || !ab) = false → (x 38) = .bool z) ∧ ((!vb || !ab) = true → (x 38) = undef) := hdep 14 (List.mem_of_elem_eq_true (by kernel_rfl))
              have p15 : (!vb || !ab) = false → z = true → (x 39) = .pointer (some ⟨w.heap.size, 0, none⟩) := hdep 15 (List.mem_of_elem_eq_true (by kernel_rfl))
              clear hdep hgd
              have hq1 : (!vb || !ab) = false := by
                cases hE : ((!vb || !ab)) with
                | false => rfl
                | true => rw [p14.2 hE] at hg; cases hg
              have hq2 : z = true := by
                have h := p14.1 hq1
                rw [h] at hg
                injection hg
              clear hg p14
              replace p15 := p15 hq1 hq2
              obtain ⟨f0, f1, f2⟩ := (HFb.out.below hW HFb.out.lt).cell3
              unfold fr151
              rw [p15]
              go_simp
              have hk : K { tmps := #[x 0, x 1, x 2, x 3, x 4, x 5, x 6, x 7, x 8, x 9, x 10, x 11, x 12, x 13, x 14, x 15, x 16, x 17, x 18, x 19, x 20, x 21, x 22, x 23, x 24, x 25, x 26, x 27, x 28, x 29, x 30, x 31, x 32, x 33, x 34, x 35, x 36, x 37, x 38, x 39, .slice (some ⟨b, o, none⟩) fs.N.length c1, x 41, x 42, x 43, x 44, x 45, x 46, x 47, x 48, x 49, x 50, x 51, x 52, x 53, x 54, x 55, x 56, x 57, x 58, x 59, x 60, x 61, x 62, x 63, x 64, x 65, x 66, x 67, x 68, x 69, x 70, x 71, x 72, x 73, x 74, x 75, x 76, x 77, x 78, x 79, x 80, x 81, x 82, x 83, x 84, x 85, x 86, x 87, x 88, x 89, x 90, x 91, x 92, x 93, x 94, x 95, x 96, x 97, x 98, x 99, x 100, x 101, x 102, x 103, x 104, x 105, x 106, x 107, x 108, x 109, x 110, x 111, x 112, x 113, x 114, x 115, x 116, x 117, x 118, x 119, x 120, x 121, x 122, x 123, x 124, x 125, x 126, x 127, x 128, x 129, x 130, x 131, x 132, x 133, x 134, x 135, x 136, x 137, x 138, x 139, x 140, x 141, x 142, x 143, x 144, x 145, x 146, x 147, x 148, x 149, x 150], defers := [] } wa := hK _ _ hW trivial (fun _ => fun _ => rfl)
              rw [p15] at hk
              exact hk
            · -- operation 17
              simp only [List.getElem?_toArray, List.getElem?_cons_succ, List.getElem?_cons_zero, Option.some.injEq] at ho
              subst ho
              have hg : x 38 = .bool true := hgd 14 true rfl
              have p14 : ((!vb || !ab) = false → (x 38) = .bool z) ∧ ((!vb || !ab) = true → (x 38) = undef) := hdep 14 (List.mem_of_elem_eq_true (by kernel_rfl))
              clear hdep hgd
              have hq1 : (!vb || !ab) = false := by
                cases hE : ((!vb || !ab)) with
                | false => rfl
                | true => rw [p14.2 hE] at hg; cases hg
              have hq2 : z = true := by
                have h := p14.1 hq1
                rw [h] at hg
                injection hg
              clear hg p14
              unfold fr151
              rw [E3.out]
              go_simp
              have hk : K { tmps := #[x 0, x 1, x 2, x 3, x 4, x 5, x 6, x 7, x 8, x 9, x 10, x 11, x 12, x 13, x 14, x 15, x 16, x 17, x 18, x 19, x 20, x 21, x 22, x 23, x 24, x 25, x 26, x 27, x 28, x 29, x 30, x 31, x 32, x 33, x 34, x 35, x 36, x 37, x 38, x 39, x 40, .int .i64 (k : Int), x 42, x 43, x 44, x 45, x 46, x 47, x 48, x 49, x 50, x 51, x 52, x 53, x 54, x 55, x 56, x 57, x 58, x 59, x 60, x 61, x 62, x 63, x 64, x 65, x 66, x 67, x 68, x 69, x 70, x 71, x 72, x 73, x 74, x 75, x 76, x 77, x 78, x 79, x 80, x 81, x 82, x 83, x 84, x 85, x 86, x 87, x 88, x 89, x 90, x 91, x 92, x 93, x 94, x 95, x 96, x 97, x 98, x 99, x 100, x 101, x 102, x 103, x 104, x 105, x 106, x 107, x 108, x 109, x 110, x 111, x 112, x 113, x 114, x 115, x 116, x 117, x 118, x 119, x 120, x 121, x 122, x 123, x 124, x 125, x 126, x 127, x 128, x 129, x 130, x 131, x 132, x 133, x 134, x 135, x 136, x 137, x 138, x 139, x 140, x 141, x 142, x 143, x 144, x 145, x 146, x 147, x 148, x 149, x 150], defers := [] } wa := hK _ _ hW trivial (fun _ => fun _ => rfl)
              rw [E3.out] at hk
              exact hk
            · -- operation 18
              simp only [List.getElem?_toArray, List.getElem?_cons_succ, List.getElem?_cons_zero, Option.some.injEq] at ho
              subst ho
              have hg : x 38 = .bool true := hgd 14 true rfl
              have p14 : ((!vb || !ab) = false → (x 38) = .bool z) ∧ ((!vb || !ab) = true → (x 38) = undef) := hdep 14 (List.mem_of_elem_eq_true (by kernel_rfl))
              have p17 : (!vb || !ab) = false → z = true → (x 41) = .int .i64 (k : Int) := hdep 17 (List.mem_of_elem_eq_true (by kernel_rfl))
              clear hdep hgd
              have hq1 : (!vb || !ab) = false := by
                cases hE : ((!vb || !ab)) with
                | false => rfl
                | true => rw [p14.2 hE] at hg; cases hg
              have hq2 : z = true := by
                have h := p14.1 hq1
                rw [h] at hg
                injection hg
              clear hg p14
              replace p17 := p17 hq1 hq2
              have hw := HWR.out hq2
              unfold fr151
              rw [p17]
              go_simp
              have hk : K { tmps := #[x 0, x 1, x 2, x 3, x 4, x 5, x 6, x 7, x 8, x 9, x 10, x 11, x 12, x 13, x 14, x 15, x 16, x 17, x 18, x 19, x 20, x 21, x 22, x 23, x 24, x 25, x 26, x 27, x 28, x 29, x 30, x 31, x 32, x 33, x 34, x 35, x 36, x 37, x 38, x 39, x 40, x 41, .int .i64 (p : Int), x 43, x 44, x 45, x 46, x 47, x 48, x 49, x 50, x 51, x 52, x 53, x 54, x 55, x 56, x 57, x 58, x 59, x 60, x 61, x 62, x 63, x 64, x 65, x 66, x 67, x 68, x 69, x 70, x 71, x 72, x 73, x 74, x 75, x 76, x 77, x 78, x 79, x 80, x 81, x 82, x 83, x 84, x 85, x 86, x 87, x 88, x 89, x 90, x 91, x 92, x 93, x 94, x 95, x 96, x 97, x 98, x 99, x 100, x 101, x 102, x 103, x 104, x 105, x 106, x 107, x 108, x 109, x 110, x 111, x 112, x 113, x 114, x 115, x 116, x 117, x 118, x 119, x 120, x 121, x 122, x 123, x 124, x 125, x 126, x 127, x 128, x 129, x 130, x 131, x 132, x 133, x 134, x 135, x 136, x 137, x 138, x 139, x 140, x 141, x 142, x 143, x 144, x 145, x 146, x 147, x 148, x 149, x 150], defers := [] } wa := hK _ _ hW trivial (fun _ => fun _ => rfl)
              rw [p17] at hk
              exact hk
            · -- operation 19
              simp only [List.getElem?_toArray, List.getElem?_cons_succ, List.getElem?_cons_zero, Option.some.injEq] at ho
              subst ho
              have hg : x 38 = .bool true := hgd 14 true rfl
              have p14 : ((!vb || !ab) = false → (x 38) = .bool z) ∧ ((!vb || !ab) = true → (x 38) = undef) := hdep 14 (List.mem_of_elem_eq_true (by kernel_rfl))
              have p16 : (!vb || !ab) = false → z = true → (x 40) = .slice (some ⟨b, o, none⟩) fs.N.length c1 := hdep 16 (List.mem_of_elem_eq_true (by kernel_rfl))
              have p18 : (!vb || !ab) = false → z = true → (x 42) = .int .i64 (p : Int) := hdep 18 (List.mem_of_elem_eq_true (by kernel_rfl))
              clear hdep hgd
              have hq1 : (!vb || !ab) = false := by
                cases hE : ((!vb || !ab)) with
                | false => rfl
                | true => rw [p14.2 hE] at hg; cases hg
              have hq2 : z = true := by
                have h := p14.1 hq1
                rw [h] at hg
                injection hg
              clear hg p14
              replace p16 := p16 hq1 hq2
              replace p18 := p18 hq1 hq2
              obtain ⟨p3, p4⟩ := HPB.out hq2
              unfold fr151
              rw [p16, p18]
              go_simp
              have hk : K { tmps := #[x 0, x 1, x 2, x 3, x 4, x 5, x 6, x 7, x 8, x 9, x 10, x 11, x 12, x 13, x 14, x 15, x 16, x 17, x 18, x 19, x 20, x 21, x 22, x 23, x 24, x 25, x 26, x 27, x 28, x 29, x 30, x 31, x 32, x 33, x 34, x 35, x 36, x 37, x 38, x 39, x 40, x 41, x 42, .pointer (some ⟨b, o + p * 2, none⟩), x 44, x 45, x 46, x 47, x 48, x 49, x 50, x 51, x 52, x 53, x 54, x 55, x 56, x 57, x 58, x 59, x 60, x 61, x 62, x 63, x 64, x 65, x 66, x 67, x 68, x 69, x 70, x 71, x 72, x 73, x 74, x 75, x 76, x 77, x 78, x 79, x 80, x 81, x 82, x 83, x 84, x 85, x 86, x 87, x 88, x 89, x 90, x 91, x 92, x 93, x 94, x 95, x 96, x 97, x 98, x 99, x 100, x 101, x 102, x 103, x 104, x 105, x 106, x 107, x 108, x 109, x 110, x 111, x 112, x 113, x 114, x 115, x 116, x 117, x 118, x 119, x 120, x 121, x 122, x 123, x 124, x 125, x 126, x 127, x 128, x 129, x 130, x 131, x 132, x 133, x 134, x 135, x 136, x 137, x 138, x 139, x 140, x 141, x 142, x 143, x 144, x 145, x 146, x 147, x 148, x 149, x 150], defers := [] } wa := hK _ _ hW trivial (fun _ => fun _ => rfl)
              rw [p16, p18] at hk
              exact hk
            · -- operation 20
              simp only [List.getElem?_toArray, List.getElem?_cons_succ, List.getElem?_cons_zero, Option.some.injEq] at ho
              subst ho
              have hg : x 38 = .bool true := hgd 14 true rfl
              have p14 : ((!vb || !ab) = false → (x 38) = .bool z) ∧ ((!vb || !ab) = true → (x 38) = undef) := hdep 14 (List.mem_of_elem_eq_true (by kernel_rfl))
              have p19 : (!vb || !ab) = false → z = true → (x 43) = .pointer (some ⟨b, o + p * 2, none⟩) := hdep 19 (List.mem_of_elem_eq_true (by kernel_rfl))
              clear hdep hgd
              have hq1 : (!vb || !ab) = false := by
                cases hE : ((!vb || !ab)) with
                | false => rfl
                | true => rw [p14.2 hE] at hg; cases hg
              have hq2 : z = true := by
                have h := p14.1 hq1
                rw [h] at hg
                injection hg
              clear hg p14
              replace p19 := p19 hq1 hq2
              unfold fr151
              rw [p19]
              go_simp
              have hk : K { tmps := #[x 0, x 1, x 2, x 3, x 4, x 5, x 6, x 7, x 8, x 9, x 10, x 11, x 12, x 13, x 14, x 15, x 16, x 17, x 18, x 19, x 20, x 21, x 22, x 23, x 24, x 25, x 26, x 27, x 28, x 29, x 30, x 31, x 32, x 33, x 34, x 35, x 36, x 37, x 38, x 39, x 40, x 41, x 42, x 43, .pointer (some ⟨b, o + p * 2, none⟩), x 45, x 46, x 47, x 48, x 49, x 50, x 51, x 52, x 53, x 54, x 55, x 56, x 57, x 58, x 59, x 60, x 61, x 62, x 63, x 64, x 65, x 66, x 67, x 68, x 69, x 70, x 71, x 72, x 73, x 74, x 75, x 76, x 77, x 78, x 79, x 80, x 81, x 82, x 83, x 84, x 85, x 86, x 87, x 88, x 89, x 90, x 91, x 92, x 93, x 94, x 95, x 96, x 97, x 98, x 99, x 100, x 101, x 102, x 103, x 104, x 105, x 106, x 107, x 108, x 109, x 110, x 111, x 112, x 113, x 114, x 115, x 116, x 117, x 118, x 119, x 120, x 121, x 122, x 123, x 124, x 125, x 126, x 127, x 128, x 129, x 130, x 131, x 132, x 133, x 134, x 135, x 136, x 137, x 138, x 139, x 140, x 141, x 142, x 143, x 144, x 145, x 146, x 147, x 148, x 149, x 150], defers := [] } wa := hK _ _ hW trivial (fun _ => fun _ => rfl)
              rw [p19] at hk
              exact hk
            · -- operation 21
              simp only [List.getElem?_toArray, List.getElem?_cons_succ, List.getElem?_cons_zero, Option.some.injEq] at ho
              subst ho
              have hg : x 38 = .bool true := hgd 14 true rfl
              have p14 : ((!vb || !ab) = false → (x 38) = .bool z) ∧ ((!vb || !ab) = true → (x 38) = undef) := hdep 14 (List.mem_of_elem_eq_true (by kernel_rfl))
              have p20 : (!vb || !ab) = false → z = true → (x 44) = .pointer (some ⟨b, o + p * 2, none⟩) := hdep 20 (List.mem_of_elem_eq_true (by kernel_rfl))
              clear hdep hgd
              have hq1 : (!vb || !ab) = false := by
                cases hE : ((!vb || !ab)) with
                | false => rfl
                | true => rw [p14.2 hE] at hg; cases hg
              have hq2 : z = true := by
                have h := p14.1 hq1
                rw [h] at hg
                injection hg
              clear hg p14
              replace p20 := p20 hq1 hq2
              have pc := (hW.cell (p := ⟨b, o + p * 2, none⟩) hbl9).trans (HP0.out hq2)
              unfold fr151
              rw [p20]
              go_simp
              have hk : K { tmps := #[x 0, x 1, x 2, x 3, x 4, x 5, x 6, x 7, x 8, x 9, x 10, x 11, x 12, x 13, x 14, x 15, x 16, x 17, x 18, x 19, x 20, x 21, x 22, x 23, x 24, x 25, x 26, x 27, x 28, x 29, x 30, x 31, x 32, x 33, x 34, x 35, x 36, x 37, x 38, x 39, x 40, x 41, x 42, x 43, x 44, .string pnm, x 46, x 47, x 48, x 49, x 50, x 51, x 52, x 53, x 54, x 55, x 56, x 57, x 58, x 59, x 60, x 61, x 62, x 63, x 64, x 65, x 66, x 67, x 68, x 69, x 70, x 71, x 72, x 73, x 74, x 75, x 76, x 77, x 78, x 79, x 80, x 81, x 82, x 83, x 84, x 85, x 86, x 87, x 88, x 89, x 90, x 91, x 92, x 93, x 94, x 95, x 96, x 97, x 98, x 99, x 100, x 101, x 102, x 103, x 104, x 105, x 106, x 107, x 108, x 109, x 110, x 111, x 112, x 113, x 114, x 115, x 116, x 117, x 118, x 119, x 120, x 121, x 122, x 123, x 124, x 125, x 126, x 127, x 128, x 129, x 130, x 131, x 132, x 133, x 134, x 135, x 136, x 137, x 138, x 139, x 140, x 141, x 142, x 143, x 144, x 145, x 146, x 147, x 148, x 149, x 150], defers := [] } wa := hK _ _ hW trivial (fun _ => fun _ => rfl)
              rw [p20] at hk
              exact hk
            · -- operation 22
              simp only [List.getElem?_toArray, List.getElem?_cons_succ, List.getElem?_cons_zero, Option.some.injEq] at ho
              subst ho
              have hg : x 38 = .bool true := hgd 14 true rfl
              have p14 : ((!vb || !ab) = false → (x 38) = .bool z) ∧ ((!vb || !ab) = true → (x 38) = undef) := hdep 14 (List.mem_of_elem_eq_true (by kernel_rfl))
              clear hdep hgd
              have hq1 : (!vb || !ab) = false := by
                cases hE : ((!vb || !ab)) with
                | false => rfl
                | true => rw [p14.2 hE] at hg; cases hg
              have hq2 : z = true := by
                have h := p14.1 hq1
                rw [h] at hg
                injection hg
              clear hg p14
              unfold fr151
              rw [E4.out]
              go_simp
              have hk : K { tmps := #[x 0, x 1, x 2, x 3, x 4, x 5, x 6, x 7, x 8, x 9, x 10, x 11, x 12, x 13, x 14, x 15, x 16, x 17, x 18, x 19, x 20, x 21, x 22, x 23, x 24, x 25, x 26, x 27, x 28, x 29, x 30, x 31, x 32, x 33, x 34, x 35, x 36, x 37, x 38, x 39, x 40, x 41, x 42, x 43, x 44, x 45, .pointer (some ⟨gn, 0, none⟩), x 47, x 48, x 49, x 50, x 51, x 52, x 53, x 54, x 55, x 56, x 57, x 58, x 59, x 60, x 61, x 62, x 63, x 64, x 65, x 66, x 67, x 68, x 69, x 70, x 71, x 72, x 73, x 74, x 75, x 76, x 77, x 78, x 79, x 80, x 81, x 82, x 83, x 84, x 85, x 86, x 87, x 88, x 89, x 90, x 91, x 92, x 93, x 94, x 95, x 96, x 97, x 98, x 99, x 100, x 101, x 102, x 103, x 104, x 105, x 106, x 107, x 108, x 109, x 110, x 111, x 112, x 113, x 114, x 115, x 116, x 117, x 118, x 119, x 120, x 121, x 122, x 123, x 124, x 125, x 126, x 127, x 128, x 129, x 130, x 131, x 132, x 133, x 134, x 135, x 136, x 137, x 138, x 139, x 140, x 141, x 142, x 143, x 144, x 145, x 146, x 147, x 148, x 149, x 150], defers := [] } wa := hK _ _ hW trivial (fun _ => fun _ => rfl)
              rw [E4.out] at hk
              exact hk
            · -- operation 23
              simp only [List.getElem?_toArray, List.getElem?_cons_succ, List.getElem?_cons_zero, Option.some.injEq] at ho
              subst ho
              have hg : x 38 = .bool true := hgd 14 true rfl
              have p14 : ((!vb || !ab) = false → (x 38) = .bool z) ∧ ((!vb || !ab) = true → (x 38) = undef) := hdep 14 (List.mem_of_elem_eq_true (by kernel_rfl))
              have p22 : (!vb || !ab) = false → z = true → (x 46) = .pointer (some ⟨gn, 0, none⟩) := hdep 22 (List.mem_of_elem_eq_true (by kernel_rfl))
              clear hdep hgd
              have hq1 : (!vb || !ab) = false := by
                cases hE : ((!vb || !ab)) with
                | false => rfl
                | true => rw [p14.2 hE] at hg; cases hg
              have hq2 : z = true := by
                have h := p14.1 hq1
                rw [h] at hg
                injection hg
              clear hg p14
              replace p22 := p22 hq1 hq2
              obtain ⟨y0, y1⟩ := (HNB.out.below hW HNB.out.lt).cell2
              unfold fr151
              rw [p22]
              go_simp
              have hk : K { tmps := #[x 0, x 1, x 2, x 3, x 4, x 5, x 6, x 7, x 8, x 9, x 10, x 11, x 12, x 13, x 14, x 15, x 16, x 17, x 18, x 19, x 20, x 21, x 22, x 23, x 24, x 25, x 26, x 27, x 28, x 29, x 30, x 31, x 32, x 33, x 34, x 35, x 36, x 37, x 38, x 39, x 40, x 41, x 42, x 43, x 44, x 45, x 46, .string nm, x 48, x 49, x 50, x 51, x 52, x 53, x 54, x 55, x 56, x 57, x 58, x 59, x 60, x 61, x 62, x 63, x 64, x 65, x 66, x 67, x 68, x 69, x 70, x 71, x 72, x 73, x 74, x 75, x 76, x 77, x 78, x 79, x 80, x 81, x 82, x 83, x 84, x 85, x 86, x 87, x 88, x 89, x 90, x 91, x 92, x 93, x 94, x 95, x 96, x 97, x 98, x 99, x 100, x 101, x 102, x 103, x 104, x 105, x 106, x 107, x 108, x 109, x 110, x 111, x 112, x 113, x 114, x 115, x 116, x 117, x 118, x 119, x 120, x 121, x 122, x 123, x 124, x 125, x 126, x 127, x 128, x 129, x 130, x 131, x 132, x 133, x 134, x 135, x 136, x 137, x 138, x 139, x 140, x 141, x 142, x 143, x 144, x 145, x 146, x 147, x 148, x 149, x 150], defers := [] } wa := hK _ _ hW trivial (fun _ => fun _ => rfl)
              rw [p22] at hk
              exact hk
            · -- operation 24
              simp only [List.getElem?_toArray, List.getElem?_cons_succ, List.getElem?_cons_zero, Option.some.injEq] at ho
              subst ho
              have hg : x 38 = .bool true := hgd 14 true rfl
              have p14 : ((!vb || !ab) = false → (x 38) = .bool z) ∧ ((!vb || !ab) = true → (x 38) = undef) := hdep 14 (List.mem_of_elem_eq_true (by kernel_rfl))
              have p21 : (!vb || !ab) = false → z = true → (x 45) = .string pnm := hdep 21 (List.mem_of_elem_eq_true (by kernel_rfl))
              have p23 : (!vb || !ab) = false → z = true → (x 47) = .string nm := hdep 23 (List.mem_of_elem_eq_true (by kernel_rfl))
              clear hdep hgd
              have hq1 : (!vb || !ab) = false := by
                cases hE : ((!vb || !ab)) with
                | false => rfl
                | true => rw [p14.2 hE] at hg; cases hg
              have hq2 : z = true := by
                have h := p14.1 hq1
                rw [h] at hg
                injection hg
              clear hg p14
              replace p21 := p21 hq1 hq2
              replace p23 := p23 hq1 hq2
              have hbl := HBL2.out
              unfold fr151
              rw [p21, p23]
              go_simp
              have hk : K { tmps := #[x 0, x 1, x 2, x 3, x 4, x 5, x 6, x 7, x 8, x 9, x 10, x 11, x 12, x 13, x 14, x 15, x 16, x 17, x 18, x 19, x 20, x 21, x 22, x 23, x 24, x 25, x 26, x 27, x 28, x 29, x 30, x 31, x 32, x 33, x 34, x 35, x 36, x 37, x 38, x 39, x 40, x 41, x 42, x 43, x 44, x 45, x 46, x 47, .bool (!bl), x 49, x 50, x 51, x 52, x 53, x 54, x 55, x 56, x 57, x 58, x 59, x 60, x 61, x 62, x 63, x 64, x 65, x 66, x 67, x 68, x 69, x 70, x 71, x 72, x 73, x 74, x 75, x 76, x 77, x 78, x 79, x 80, x 81, x 82, x 83, x 84, x 85, x 86, x 87, x 88, x 89, x 90, x 91, x 92, x 93, x 94, x 95, x 96, x 97, x 98, x 99, x 100, x 101, x 102, x 103, x 104, x 105, x 106, x 107, x 108, x 109, x 110, x 111, x 112, x 113, x 114, x 115, x 116, x 117, x 118, x 119, x 120, x 121, x 122, x 123, x 124, x 125, x 126, x 127, x 128, x 129, x 130, x 131, x 132, x 133, x 134, x 135, x 136, x 137, x 138, x 139, x 140, x 141, x 142, x 143, x 144, x 145, x 146, x 147, x 148, x 149, x 150], defers := [] } wa := hK _ _ hW trivial (fun _ => fun _ => rfl)
              rw [p21, p23] at hk
              exact hk
            · -- operation 25
              simp only [List.getElem?_toArray, List.getElem?_cons_succ, List.getElem?_cons_zero, Option.some.injEq] at ho
              subst ho
              have hg : x 35 = .bool false := hgd 11 false rfl
              have p11 : (x 35) = .bool (!vb || !ab) := hdep 11 (List.mem_of_elem_eq_true (by kernel_rfl))
              have p14 : ((!vb || !ab) = false → (x 38) = .bool z) ∧ ((!vb || !ab) = true → (x 38) = undef) := hdep 14 (List.mem_of_elem_eq_true (by kernel_rfl))
              have p24 : (!vb || !ab) = false → z = true → (x 48) = .bool (!bl) := hdep 24 (List.mem_of_elem_eq_true (by kernel_rfl))
              clear hdep hgd
              have hg1 := p11
              rw [hg1] at hg
              injection hg with hq1
              clear hg1
              clear p11
              replace p14 := p14.1 hq1
              rcases Bool.eq_false_or_eq_true z with hz | hz
              · replace p24 := p24 hq1 hz
                rw [hz] at p14
                unfold fr151
                rw [p14, p24]
                have hk : K { tmps := #[x 0, x 1, x 2, x 3, x 4, x 5, x 6, x 7, x 8, x 9, x 10, x 11, x 12, x 13, x 14, x 15, x 16, x 17, x 18, x 19, x 20, x 21, x 22, x 23, x 24, x 25, x 26, x 27, x 28, x 29, x 30, x 31, x 32, x 33, x 34, x 35, x 36, x 37, x 38, x 39, x 40, x 41, x 42, x 43, x 44, x 45, x 46, x 47, x 48, .bool (!bl), x 50, x 51, x 52, x 53, x 54, x 55, x 56, x 57, x 58, x 59, x 60, x 61, x 62, x 63, x 64, x 65, x 66, x 67, x 68, x 69, x 70, x 71, x 72, x 73, x 74, x 75, x 76, x 77, x 78, x 79, x 80, x 81, x 82, x 83, x 84, x 85, x 86, x 87, x 88, x 89, x 90, x 91, x 92, x 93, x 94, x 95, x 96, x 97, x 98, x 99, x 100, x 101, x 102, x 103, x 104, x 105, x 106, x 107, x 108, x 109, x 110, x 111, x 112, x 113, x 114, x 115, x 116, x 117, x 118, x 119, x 120, x 121, x 122, x 123, x 124, x 125, x 126, x 127, x 128, x 129, x 130, x 131, x 132, x 133, x 134, x 135, x 136, x 137, x 138, x 139, x 140, x 141, x 142, x 143, x 144, x 145, x 146, x 147, x 148, x 149, x 150], defers := [] } wa := hK _ _ hW trivial (fun _ => by rw [hz]; rfl)
                rw [p14, p24] at hk
                clear p14 p24 hz
                go_simp
                exact hk
              · rw [hz] at p14
                clear p24
                unfold fr151
                rw [p14]
                have hk : K { tmps := #[x 0, x 1, x 2, x 3, x 4, x 5, x 6, x 7, x 8, x 9, x 10, x 11, x 12, x 13, x 14, x 15, x 16, x 17, x 18, x 19, x 20, x 21, x 22, x 23, x 24, x 25, x 26, x 27, x 28, x 29, x 30, x 31, x 32, x 33, x 34, x 35, x 36, x 37, x 38, x 39, x 40, x 41, x 42, x 43, x 44, x 45, x 46, x 47, x 48, .bool false, x 50, x 51, x 52, x 53, x 54, x 55, x 56, x 57, x 58, x 59, x 60, x 61, x 62, x 63, x 64, x 65, x 66, x 67, x 68, x 69, x 70, x 71, x 72, x 73, x 74, x 75, x 76, x 77, x 78, x 79, x 80, x 81, x 82, x 83, x 84, x 85, x 86, x 87, x 88, x 89, x 90, x 91, x 92, x 93, x 94, x 95, x 96, x 97, x 98, x 99, x 100, x 101, x 102, x 103, x 104, x 105, x 106, x 107, x 108, x 109, x 110, x 111, x 112, x 113, x 114, x 115, x 116, x 117, x 118, x 119, x 120, x 121, x 122, x 123, x 124, x 125, x 126, x 127, x 128, x 129, x 130, x 131, x 132, x 133, x 134, x 135, x 136, x 137, x 138, x 139, x 140, x 141, x 142, x 143, x 144, x 145, x 146, x 147, x 148, x 149, x 150], defers := [] } wa := hK _ _ hW trivial (fun _ => by rw [hz]; rfl)
                rw [p14] at hk
                clear p14 hz
                go_simp
                exact hk
            · -- operation 26
              simp only [List.getElem?_toArray, List.getElem?_cons_succ, List.getElem?_cons_zero, Option.some.injEq] at ho
              subst ho
              have p11 : (x 35) = .bool (!vb || !ab) := hdep 11 (List.mem_of_elem_eq_true (by kernel_rfl))
              have p25 : (!vb || !ab) = false → (x 49) = .bool (z && !bl) := hdep 25 (List.mem_of_elem_eq_true (by kernel_rfl))
              clear hdep hgd
              cases hE : (!vb || !ab) with
              | false =>
                replace p25 := p25 hE
                rw [hE] at p11
                unfold fr151
                rw [p11, p25]
                have hk : K { tmps := #[x 0, x 1, x 2, x 3, x 4, x 5, x 6, x 7, x 8, x 9, x 10, x 11, x 12, x 13, x 14, x 15, x 16, x 17, x 18, x 19, x 20, x 21, x 22, x 23, x 24, x 25, x 26, x 27, x 28, x 29, x 30, x 31, x 32, x 33, x 34, x 35, x 36, x 37, x 38, x 39, x 40, x 41, x 42, x 43, x 44, x 45, x 46, x 47, x 48, x 49, .bool ((z && !bl)), x 51, x 52, x 53, x 54, x 55, x 56, x 57, x 58, x 59, x 60, x 61, x 62, x 63, x 64, x 65, x 66, x 67, x 68, x 69, x 70, x 71, x 72, x 73, x 74, x 75, x 76, x 77, x 78, x 79, x 80, x 81, x 82, x 83, x 84, x 85, x 86, x 87, x 88, x 89, x 90, x 91, x 92, x 93, x 94, x 95, x 96, x 97, x 98, x 99, x 100, x 101, x 102, x 103, x 104, x 105, x 106, x 107, x 108, x 109, x 110, x 111, x 112, x 113, x 114, x 115, x 116, x 117, x 118, x 119, x 120, x 121, x 122, x 123, x 124, x 125, x 126, x 127, x 128, x 129, x 130, x 131, x 132, x 133, x 134, x 135, x 136, x 137, x 138, x 139, x 140, x 141, x 142, x 143, x 144, x 145, x 146, x 147, x 148, x 149, x 150], defers := [] } wa := hK _ _ hW trivial (by rw [hE]; rfl)
                rw [p11, p25] at hk
                clear p11 p25 hE
                go_simp
                exact hk
              | true =>
                rw [hE] at p11
                clear p25
                unfold fr151
                rw [p11]
                have hk : K { tmps := #[x 0, x 1, x 2, x 3, x 4, x 5, x 6, x 7, x 8, x 9, x 10, x 11, x 12, x 13, x 14, x 15, x 16, x 17, x 18, x 19, x 20, x 21, x 22, x 23, x 24, x 25, x 26, x 27, x 28, x 29, x 30, x 31, x 32, x 33, x 34, x 35, x 36, x 37, x 38, x 39, x 40, x 41, x 42, x 43, x 44, x 45, x 46, x 47, x 48, x 49, .bool true, x 51, x 52, x 53, x 54, x 55, x 56, x 57, x 58, x 59, x 60, x 61, x 62, x 63, x 64, x 65, x 66, x 67, x 68, x 69, x 70, x 71, x 72, x 73, x 74, x 75, x 76, x 77, x 78, x 79, x 80, x 81, x 82, x 83, x 84, x 85, x 86, x 87, x 88, x 89, x 90, x 91, x 92, x 93, x 94, x 95, x 96, x 97, x 98, x 99, x 100, x 101, x 102, x 103, x 104, x 105, x 106, x 107, x 108, x 109, x 110, x 111, x 112, x 113, x 114, x 115, x 116, x 117, x 118, x 119, x 120, x 121, x 122, x 123, x 124, x 125, x 126, x 127, x 128, x 129, x 130, x 131, x 132, x 133, x 134, x 135, x 136, x 137, x 138, x 139, x 140, x 141, x 142, x 143, x 144, x 145, x 146, x 147, x 148, x 149, x 150], defers := [] } wa := hK _ _ hW trivial (by rw [hE]; rfl)
                rw [p11] at hk
                clear p11 hE
                go_simp
                exact hk
          case skip =>
            intro i o j b ho hgd x wa hW hdep hne
            have hi : i < 27 := (Array.getElem?_eq_some_iff.1 ho).1
            have hcase : i = 0 ∨ i = 1 ∨ i = 2 ∨ i = 3 ∨ i = 4 ∨ i = 5 ∨ i = 6 ∨ i = 7 ∨ i = 8 ∨ i = 9 ∨ i = 10 ∨ i = 11 ∨ i = 12 ∨ i = 13 ∨ i = 14 ∨ i = 15 ∨ i = 16 ∨ i = 17 ∨ i = 18 ∨ i = 19 ∨ i = 20 ∨ i = 21 ∨ i = 22 ∨ i = 23 ∨ i = 24 ∨ i = 25 ∨ i = 26 := by omega
            rcases hcase with rfl | rfl | rfl | rfl | rfl | rfl | rfl | rfl | rfl | rfl | rfl | rfl | rfl | rfl | rfl | rfl | rfl | rfl | rfl | rfl | rfl | rfl | rfl | rfl | rfl | rfl | rfl
            · simp only [List.getElem?_toArray, List.getElem?_cons_zero, Option.some.injEq] at ho
              subst ho
              cases hgd
            · simp only [List.getElem?_toArray, List.getElem?_cons_succ, List.getElem?_cons_zero, Option.some.injEq] at ho
              subst ho
              cases hgd
            · simp only [List.getElem?_toArray, List.getElem?_cons_succ, List.getElem?_cons_zero, Option.some.injEq] at ho
              subst ho
              cases hgd
            · simp only [List.getElem?_toArray, List.getElem?_cons_succ, List.getElem?_cons_zero, Option.some.injEq] at ho
              subst ho
              cases hgd
            · simp only [List.getElem?_toArray, List.getElem?_cons_succ, List.getElem?_cons_zero, Option.some.injEq] at ho
              subst ho
              cases hgd
            · simp only [List.getElem?_toArray, List.getElem?_cons_succ, List.getElem?_cons_zero, Option.some.injEq] at ho
              subst ho
              obtain ⟨rfl, rfl⟩ : 4 = j ∧ false = b := by simpa using hgd
              have p4 : (x 28) = .bool (!vb) := hdep 4 (List.mem_of_elem_eq_true (by kernel_rfl))
              exact fun hq => absurd (show x 28 = .bool false by rw [p4, hq]) hne
            · simp only [List.getElem?_toArray, List.getElem?_cons_succ, List.getElem?_cons_zero, Option.some.injEq] at ho
              subst ho
              obtain ⟨rfl, rfl⟩ : 4 = j ∧ false = b := by simpa using hgd
              have p4 : (x 28) = .bool (!vb) := hdep 4 (List.mem_of_elem_eq_true (by kernel_rfl))
              exact fun hq => absurd (show x 28 = .bool false by rw [p4, hq]) hne
            · simp only [List.getElem?_toArray, List.getElem?_cons_succ, List.getElem?_cons_zero, Option.some.injEq] at ho
              subst ho
              obtain ⟨rfl, rfl⟩ : 4 = j ∧ false = b := by simpa using hgd
              have p4 : (x 28) = .bool (!vb) := hdep 4 (List.mem_of_elem_eq_true (by kernel_rfl))
              exact fun hq => absurd (show x 28 = .bool false by rw [p4, hq]) hne
            · simp only [List.getElem?_toArray, List.getElem?_cons_succ, List.getElem?_cons_zero, Option.some.injEq] at ho
              subst ho
              obtain ⟨rfl, rfl⟩ : 4 = j ∧ false = b := by simpa using hgd
              have p4 : (x 28) = .bool (!vb) := hdep 4 (List.mem_of_elem_eq_true (by kernel_rfl))
              exact fun hq => absurd (show x 28 = .bool false by rw [p4, hq]) hne
            · simp only [List.getElem?_toArray, List.getElem?_cons_succ, List.getElem?_cons_zero, Option.some.injEq] at ho
              subst ho
              obtain ⟨rfl, rfl⟩ : 4 = j ∧ false = b := by simpa using hgd
              have p4 : (x 28) = .bool (!vb) := hdep 4 (List.mem_of_elem_eq_true (by kernel_rfl))
              exact fun hq => absurd (show x 28 = .bool false by rw [p4, hq]) hne
            · simp only [List.getElem?_toArray, List.getElem?_cons_succ, List.getElem?_cons_zero, Option.some.injEq] at ho
              subst ho
              cases hgd
            · simp only [List.getElem?_toArray, List.getElem?_cons_succ, List.getElem?_cons_zero, Option.some.injEq] at ho
              subst ho
              cases hgd
            · simp only [List.getElem?_toArray, List.getElem?_cons_succ, List.getElem?_cons_zero, Option.some.injEq] at ho
              subst ho
              obtain ⟨rfl, rfl⟩ : 11 = j ∧ false = b := by simpa using hgd
              have p11 : (x 35) = .bool (!vb || !ab) := hdep 11 (List.mem_of_elem_eq_true (by kernel_rfl))
              exact fun hq => absurd (show x 35 = .bool false by rw [p11, hq]) hne
            · simp only [List.getElem?_toArray, List.getElem?_cons_succ, List.getElem?_cons_zero, Option.some.injEq] at ho
              subst ho
              obtain ⟨rfl, rfl⟩ : 11 = j ∧ false = b := by simpa using hgd
              have p11 : (x 35) = .bool (!vb || !ab) := hdep 11 (List.mem_of_elem_eq_true (by kernel_rfl))
              exact fun hq => absurd (show x 35 = .bool false by rw [p11, hq]) hne
            · simp only [List.getElem?_toArray, List.getElem?_cons_succ, List.getElem?_cons_zero, Option.some.injEq] at ho
              subst ho
              obtain ⟨rfl, rfl⟩ : 11 = j ∧ false = b := by simpa using hgd
              have p11 : (x 35) = .bool (!vb || !ab) := hdep 11 (List.mem_of_elem_eq_true (by kernel_rfl))
              exact ⟨fun hq => absurd (show x 35 = .bool false by rw [p11, hq]) hne, fun _ => rfl⟩
            · simp only [List.getElem?_toArray, List.getElem?_cons_succ, List.getElem?_cons_zero, Option.some.injEq] at ho
              subst ho
              obtain ⟨rfl, rfl⟩ : 14 = j ∧ true = b := by simpa using hgd
              have p14 : ((!vb || !ab) = false → (x 38) = .bool z) ∧ ((!vb || !ab) = true → (x 38) = undef) := hdep 14 (List.mem_of_elem_eq_true (by kernel_rfl))
              exact fun hq hq' => absurd (show x 38 = .bool true by rw [p14.1 hq, hq']) hne
            · simp only [List.getElem?_toArray, List.getElem?_cons_succ, List.getElem?_cons_zero, Option.some.injEq] at ho
              subst ho
              obtain ⟨rfl, rfl⟩ : 14 = j ∧ true = b := by simpa using hgd
              have p14 : ((!vb || !ab) = false → (x 38) = .bool z) ∧ ((!vb || !ab) = true → (x 38) = undef) := hdep 14 (List.mem_of_elem_eq_true (by kernel_rfl))
              exact fun hq hq' => absurd (show x 38 = .bool true by rw [p14.1 hq, hq']) hne
            · simp only [List.getElem?_toArray, List.getElem?_cons_succ, List.getElem?_cons_zero, Option.some.injEq] at ho
              subst ho
              obtain ⟨rfl, rfl⟩ : 14 = j ∧ true = b := by simpa using hgd
              have p14 : ((!vb || !ab) = false → (x 38) = .bool z) ∧ ((!vb || !ab) = true → (x 38) = undef) := hdep 14 (List.mem_of_elem_eq_true (by kernel_rfl))
              exact fun hq hq' => absurd (show x 38 = .bool true by rw [p14.1 hq, hq']) hne
            · simp only [List.getElem?_toArray, List.getElem?_cons_succ, List.getElem?_cons_zero, Option.some.injEq] at ho
              subst ho
              obtain ⟨rfl, rfl⟩ : 14 = j ∧ true = b := by simpa using hgd
              have p14 : ((!vb || !ab) = false → (x 38) = .bool z) ∧ ((!vb || !ab) = true → (x 38) = undef) := hdep 14 (List.mem_of_elem_eq_true (by kernel_rfl))
              exact fun hq hq' => absurd (show x 38 = .bool true by rw [p14.1 hq, hq']) hne
            · simp only [List.getElem?_toArray, List.getElem?_cons_succ, List.getElem?_cons_zero, Option.some.injEq] at ho
              subst ho
              obtain ⟨rfl, rfl⟩ : 14 = j ∧ true = b := by simpa using hgd
              have p14 : ((!vb || !ab) = false → (x 38) = .bool z) ∧ ((!vb || !ab) = true → (x 38) = undef) := hdep 14 (List.mem_of_elem_eq_true (by kernel_rfl))
              exact fun hq hq' => absurd (show x 38 = .bool true by rw [p14.1 hq, hq']) hne
            · simp only [List.getElem?_toArray, List.getElem?_cons_succ, List.getElem?_cons_zero, Option.some.injEq] at ho
              subst ho
              obtain ⟨rfl, rfl⟩ : 14 = j ∧ true = b := by simpa using hgd
              have p14 : ((!vb || !ab) = false → (x 38) = .bool z) ∧ ((!vb || !ab) = true → (x 38) = undef) := hdep 14 (List.mem_of_elem_eq_true (by kernel_rfl))
              exact fun hq hq' => absurd (show x 38 = .bool true by rw [p14.1 hq, hq']) hne
            · simp only [List.getElem?_toArray, List.getElem?_cons_succ, List.getElem?_cons_zero, Option.some.injEq] at ho
              subst ho
              obtain ⟨rfl, rfl⟩ : 14 = j ∧ true = b := by simpa using hgd
              have p14 : ((!vb || !ab) = false → (x 38) = .bool z) ∧ ((!vb || !ab) = true → (x 38) = undef) := hdep 14 (List.mem_of_elem_eq_true (by kernel_rfl))
              exact fun hq hq' => absurd (show x 38 = .bool true by rw [p14.1 hq, hq']) hne
            · simp only [List.getElem?_toArray, List.getElem?_cons_succ, List.getElem?_cons_zero, Option.some.injEq] at ho
              subst ho
              obtain ⟨rfl, rfl⟩ : 14 = j ∧ true = b := by simpa using hgd
              have p14 : ((!vb || !ab) = false → (x 38) = .bool z) ∧ ((!vb || !ab) = true → (x 38) = undef) := hdep 14 (List.mem_of_elem_eq_true (by kernel_rfl))
              exact fun hq hq' => absurd (show x 38 = .bool true by rw [p14.1 hq, hq']) hne
            · simp only [List.getElem?_toArray, List.getElem?_cons_succ, List.getElem?_cons_zero, Option.some.injEq] at ho
              subst ho
              obtain ⟨rfl, rfl⟩ : 14 = j ∧ true = b := by simpa using hgd
              have p14 : ((!vb || !ab) = false → (x 38) = .bool z) ∧ ((!vb || !ab) = true → (x 38) = undef) := hdep 14 (List.mem_of_elem_eq_true (by kernel_rfl))
              exact fun hq hq' => absurd (show x 38 = .bool true by rw [p14.1 hq, hq']) hne
            · simp only [List.getElem?_toArray, List.getElem?_cons_succ, List.getElem?_cons_zero, Option.some.injEq] at ho
              subst ho
              obtain ⟨rfl, rfl⟩ : 14 = j ∧ true = b := by simpa using hgd
              have p14 : ((!vb || !ab) = false → (x 38) = .bool z) ∧ ((!vb || !ab) = true → (x 38) = undef) := hdep 14 (List.mem_of_elem_eq_true (by kernel_rfl))
              exact fun hq hq' => absurd (show x 38 = .bool true by rw [p14.1 hq, hq']) hne
            · simp only [List.getElem?_toArray, List.getElem?_cons_succ, List.getElem?_cons_zero, Option.some.injEq] at ho
              subst ho
              obtain ⟨rfl, rfl⟩ : 11 = j ∧ false = b := by simpa using hgd
              have p11 : (x 35) = .bool (!vb || !ab) := hdep 11 (List.mem_of_elem_eq_true (by kernel_rfl))
              exact fun hq => absurd (show x 35 = .bool false by rw [p11, hq]) hne
            · simp only [List.getElem?_toArray, List.getElem?_cons_succ, List.getElem?_cons_zero, Option.some.injEq] at ho
              subst ho
              cases hgd
          case done =>
            intro x wd hout hW hall
            have p26 : x 50 = .bool ((!vb || !ab) || (z && !bl)) := hall 26 (by decide)
            clear hall
            unfold fr151
            rw [(hout 0 (by decide)).trans (hx0 0), (hout 1 (by decide)).trans (hx0 1), (hout 2 (by decide)).trans (hx0 2), (hout 3 (by decide)).trans (hx0 3), (hout 4 (by decide)).trans (hx0 4), (hout 5 (by decide)).trans (hx0 5), (hout 6 (by decide)).trans (hx0 6), (hout 7 (by decide)).trans (hx0 7), (hout 8 (by decide)).trans (hx0 8), (hout 9 (by decide)).trans (hx0 9), (hout 10 (by decide)).trans (hx0 10), (hout 11 (by decide)).trans (hx0 11), (hout 12 (by decide)).trans (hx0 12), (hout 13 (by decide)).trans (hx0 13), (hout 14 (by decide)).trans (hx0 14), (hout 15 (by decide)).trans (hx0 15), (hout 16 (by decide)).trans (hx0 16), (hout 17 (by decide)).trans (hx0 17), (hout 18 (by decide)).trans (hx0 18), (hout 19 (by decide)).trans (hx0 19), (hout 20 (by decide)).trans (hx0 20), (hout 21 (by decide)).trans (hx0 21), (hout 22 (by decide)).trans (hx0 22), (hout 23 (by decide)).trans (hx0 23), (hout 51 (by decide)).trans (hx0 51), (hout 52 (by decide)).trans (hx0 52), (hout 53 (by decide)).trans (hx0 53), (hout 54 (by decide)).trans (hx0 54), (hout 55 (by decide)).trans (hx0 55), (hout 56 (by decide)).trans (hx0 56), (hout 57 (by decide)).trans (hx0 57), (hout 58 (by decide)).trans (hx0 58), (hout 59 (by decide)).trans (hx0 59), (hout 60 (by decide)).trans (hx0 60), (hout 61 (by decide)).trans (hx0 61), (hout 62 (by decide)).trans (hx0 62), (hout 63 (by decide)).trans (hx0 63), (hout 64 (by decide)).trans (hx0 64), (hout 65 (by decide)).trans (hx0 65), (hout 66 (by decide)).trans (hx0 66), (hout 67 (by decide)).trans (hx0 67), (hout 68 (by decide)).trans (hx0 68), (hout 69 (by decide)).trans (hx0 69), (hout 70 (by decide)).trans (hx0 70), (hout 71 (by decide)).trans (hx0 71), (hout 72 (by decide)).trans (hx0 72), (hout 73 (by decide)).trans (hx0 73), (hout 74 (by decide)).trans (hx0 74), (hout 75 (by decide)).trans (hx0 75), (hout 76 (by decide)).trans (hx0 76), (hout 77 (by decide)).trans (hx0 77), (hout 78 (by decide)).trans (hx0 78), (hout 79 (by decide)).trans (hx0 79), (hout 80 (by decide)).trans (hx0 80), (hout 81 (by decide)).trans (hx0 81), (hout 82 (by decide)).trans (hx0 82), (hout 83 (by decide)).trans (hx0 83), (hout 84 (by decide)).trans (hx0 84), (hout 85 (by decide)).trans (hx0 85), (hout 86 (by decide)).trans (hx0 86), (hout 87 (by decide)).trans (hx0 87), (hout 88 (by decide)).trans (hx0 88), (hout 89 (by decide)).trans (hx0 89), (hout 90 (by decide)).trans (hx0 90), (hout 91 (by decide)).trans (hx0 91), (hout 92 (by decide)).trans (hx0 92), (hout 93 (by decide)).trans (hx0 93), (hout 94 (by decide)).trans (hx0 94), (hout 95 (by decide)).trans (hx0 95), (hout 96 (by decide)).trans (hx0 96), (hout 97 (by decide)).trans (hx0 97), (hout 98 (by decide)).trans (hx0 98), (hout 99 (by decide)).trans (hx0 99), (hout 100 (by decide)).trans (hx0 100), (hout 101 (by decide)).trans (hx0 101), (hout 102 (by decide)).trans (hx0 102), (hout 103 (by decide)).trans (hx0 103), (hout 104 (by decide)).trans (hx0 104), (hout 105 (by decide)).trans (hx0 105), (hout 106 (by decide)).trans (hx0 106), (hout 107 (by decide)).trans (hx0 107), (hout 108 (by decide)).trans (hx0 108), (hout 109 (by decide)).trans (hx0 109), (hout 110 (by decide)).trans (hx0 110), (hout 111 (by decide)).trans (hx0 111), (hout 112 (by decide)).trans (hx0 112), (hout 113 (by decide)).trans (hx0 113), (hout 114 (by decide)).trans (hx0 114), (hout 115 (by decide)).trans (hx0 115), (hout 116 (by decide)).trans (hx0 116), (hout 117 (by decide)).trans (hx0 117), (hout 118 (by decide)).trans (hx0 118), (hout 119 (by decide)).trans (hx0 119), (hout 120 (by decide)).trans (hx0 120), (hout 121 (by decide)).trans (hx0 121), (hout 122 (by decide)).trans (hx0 122), (hout 123 (by decide)).trans (hx0 123), (hout 124 (by decide)).trans (hx0 124), (hout 125 (by decide)).trans (hx0 125), (hout 126 (by decide)).trans (hx0 126), (hout 127 (by decide)).trans (hx0 127), (hout 128 (by decide)).trans (hx0 128), (hout 129 (by decide)).trans (hx0 129), (hout 130 (by decide)).trans (hx0 130), (hout 131 (by decide)).trans (hx0 131), (hout 132 (by decide)).trans (hx0 132), (hout 133 (by decide)).trans (hx0 133), (hout 134 (by decide)).trans (hx0 134), (hout 135 (by decide)).trans (hx0 135), (hout 136 (by decide)).trans (hx0 136), (hout 137 (by decide)).trans (hx0 137), (hout 138 (by decide)).trans (hx0 138), (hout 139 (by decide)).trans (hx0 139), (hout 140 (by decide)).trans (hx0 140), (hout 141 (by decide)).trans (hx0 141), (hout 142 (by decide)).trans (hx0 142), (hout 143 (by decide)).trans (hx0 143), (hout 144 (by decide)).trans (hx0 144), (hout 145 (by decide)).trans (hx0 145), (hout 146 (by decide)).trans (hx0 146), (hout 147 (by decide)).trans (hx0 147), (hout 148 (by decide)).trans (hx0 148), (hout 149 (by decide)).trans (hx0 149), (hout 150 (by decide)).trans (hx0 150)]
            simp only [Array.getD_eq_getD_getElem?, List.getElem?_toArray, List.getElem?_cons_succ, List.getElem?_cons_zero, Option.getD_some]
            rw [p26]
            clear hout hx0 y1 y3 y4
            go_wp2_with fail
            go_meet
            case rel => exact ⟨rfl, keep hW⟩
        case rest =>
          obtain ⟨rfl, hcb⟩ := hcut
          have HBn := keep (HBb.out.trans (hcb.out.mono HBb.out.size))
          obtain ⟨g, hg⟩ : ∃ g, (!vb || !ab || (z && !bl)) = g := ⟨_, rfl⟩
          rw [hg]
          have HGG := keep hg
          clear hg
          cases g with
          | true =>
            go_wp2_with fail
            go_ret
            exact ⟨false, rfl, ⟨fun h => Bool.noConfusion h, fun h => by
              have h1 := h.nm _ (List.getElem_mem hlt)
              rw [HTT.out] at h1
              have hv : vb = true := HV.out.symm.trans h1.2
              have ha : ab = true := by rw [← HAA.out]; exact decide_eq_true h1.1
              have h2 := HGG.out
              rw [hv, ha] at h2
              rcases Bool.eq_false_or_eq_true z with hz | hz
              · obtain ⟨hp, hpn⟩ := HPN.out hz
                have h3 := h.n p (by have := HKP.out hz; omega)
                have h4 : fs.N[p + 1]'(by have := HKP.out hz; omega) = ⟨nm, ino⟩ := by
                  have := HTT.out
                  have e := HKP.out hz
                  subst e
                  exact this
                rw [h4, cfn_neg, hpn] at h3
                have hb : bl = true := by rw [← HBL.out]; exact decide_eq_true h3
                rw [hb, hz] at h2
                cases h2
              · rw [hz] at h2
                cases h2⟩, bchain HB.out HBn.out⟩
          | false =>
            have hva : vb = true ∧ ab = true ∧ (z = true → bl = true) := by
              have := HGG.out
              revert this
              cases vb <;> cases ab <;> cases z <;> cases bl <;> simp
            have HVA := keep hva
            clear hva
            go_wp2_with fail
            go_roundw
            case rel => exact ⟨k + 1, by go_num, by omega, keep (fun j hj hjk => by
              by_cases e : j = k
              · subst e
                rw [HTT.out]
                exact ⟨of_decide_eq_true (HAA.out.trans HVA.out.2.1), HV.out.trans HVA.out.1⟩
              · exact hP.out j hj (by omega)), keep (by
                rcases Bool.eq_false_or_eq_true z with hz | hz
                · obtain ⟨hp, hpn⟩ := HPN.out hz
                  have e := HKP.out hz
                  subst e
                  exact hQ.out.step (fun h => by rw [HTT.out, cfn_neg, hpn]; exact of_decide_eq_true (HBL.out.trans (HVA.out.2.2 hz)))
                · exact fun i h _ => absurd h (by have := HK0.out hz; omega)), HBn⟩
            case measure => simp [intOf]; omega
      · obtain rfl : k = fs.N.length := by omega
        have HNM : Hid (∀ n ∈ fs.N, (∃ t ∈ fs.F, t.ino = n.ino) ∧ vld n.nm = true) := keep (fun n hn => by
          obtain ⟨j, hj, rfl⟩ := List.getElem_of_mem hn
          exact hP.out j hj hj)
        have HAN := keep (hQ.out.all (Nat.le_refl _))
        have HBo := keep hBr.out
        have HFW := keep HFo
        have m2 : (fs.F.length : Int) ≤ 1000000 := by have := HM.out.2.1; omega
        clear hP hQ hBr HFo
        go_wp2_with fail
        go_loopw [5] (fun i wr => ∃ k : Nat, i = .int .i64 k ∧ k ≤ fs.F.length ∧ Hid (∀ j, (hj : j < fs.F.length) → j < k → okFile fs fs.F[j]) ∧ Hid (AdjTo (fun a b => cfi b.ino a) fs.F k) ∧ Hid (Below W.heap.size W wr)) (fun i _ => fs.F.length - (intOf i).toNat)
        case atStart => exact ⟨0, rfl, Nat.zero_le _, keep (fun j hj h => absurd h (Nat.not_lt_zero _)), keep (fun i h => absurd h (by omega)), HBo⟩
        case round =>
          clear f0 f1 f2 HFW HBo HTo
          obtain ⟨k, rfl, hk, hP, hQ, hBr⟩ := hrel
          obtain ⟨wo, rfl⟩ : ∃ wo : World, wo = wr := ⟨_, rfl⟩
          have HTo := keep (HT.out.up hBr.out)
          have HFo := HF.out.below hBr.out HF.out.lt
          obtain ⟨f0, f1, f2⟩ := HFo.cell3
          by_cases hlt : k < fs.F.length
          · obtain ⟨b, o, rfl, _, m0, m1', m2', m3, m4⟩ := fi_cells HTo.out.f hlt
            obtain ⟨FA, FC, hfd⟩ := (HTo.out.d _ (List.getElem_mem hlt)).form
            have hdl := (HTo.out.d _ (List.getElem_mem hlt)).2
            have i0 : (0 : Int) ≤ (k : Int) := by omega
            have i1 : (k : Int) < (fs.F.length : Int) := by omega
            obtain ⟨t, ht⟩ : ∃ t, fs.F[k] = t := ⟨_, rfl⟩
            have HTT := keep ht
            rw [ht] at m0 m1' m2' m3 m4 hfd hdl
            clear ht
            obtain ⟨ino, dv, data, cp, wh, left⟩ := t
            simp only at hfd m0 m1' m2' m3 m4 hdl
            subst hfd
            have hbad := badF_ok (fs := fs) (t := ⟨ino, .slice FA data.length FC, data, cp, wh, left⟩)
            simp only at hbad
            have hal : Below wo.heap.size wo (wo.alloc (.cells #[.int .i64 ino, .slice FA data.length FC, .bool cp, .bool wh, .int .i64 left] 45)) := (Below.refl _ wo).alloc (Nat.le_refl _) _
            have hNb : Blk (wo.alloc (.cells #[.int .i64 ino, .slice FA data.length FC, .bool cp, .bool wh, .int .i64 left] 45)) wo.heap.size 45 #[.int .i64 ino, .slice FA data.length FC, .bool cp, .bool wh, .int .i64 left] := Blk.new _ _ _
            have HFb := keep (HFo.below hal HFo.lt)
            have HTb := keep (HTo.out.up hal)
            have HNB := keep hNb
            have HBb := keep (hBr.out.trans (hal.mono hBr.out.size))
            have HAL := keep hal
            have hlN : wo.heap.size < (wo.alloc (.cells #[.int .i64 ino, .slice FA data.length FC, .bool cp, .bool wh, .int .i64 left] 45)).heap.size := hNb.lt
            have HDLL : Hid ((data.length : Int) ≤ 1000000) := keep (by omega)
            obtain ⟨q, hq⟩ : ∃ q, (fs.N.any fun n => n.ino == ino) = q := ⟨_, rfl⟩
            obtain ⟨hh, hhq⟩ : ∃ q, fs.O.contains ino = q := ⟨_, rfl⟩
            obtain ⟨e1, d1⟩ : ∃ e, decide (ino < 1) = e := ⟨_, rfl⟩
            obtain ⟨e2, d2⟩ : ∃ e, decide (60000 < (data.length : Int)) = e := ⟨_, rfl⟩
            obtain ⟨e5, d5⟩ : ∃ e, decide (left < 0) = e := ⟨_, rfl⟩
            obtain ⟨e6, d6⟩ : ∃ e, decide ((data.length : Int) < left) = e := ⟨_, rfl⟩
            obtain ⟨e7, d7⟩ : ∃ e, (left != 0) = e := ⟨_, rfl⟩
            have d8 : (left == 0) = !e7 := by rw [← d7]; simp [bne]
            rw [hq, hhq, d1, d2, d5, d6, d7] at hbad
            have HQ := keep hq
            have HH : Hid (decide (ino ∈ fs.O) = hh) := keep (by rw [← hhq]; simp)
            have HBAD := keep (hbad.symm.trans (badF_split ..))
            have HD5 := keep d5
            have HD6 := keep d6
            have HD7 := keep d7
            have HD8 := keep d8
            have HD1 := keep d1
            have HD2 := keep d2
            clear hq hhq hbad hNb HFo hal d1 d2 d5 d6 d7 d8
            go_upto_region 13 with fail
            have hbl8 : b < wo.heap.size := World.block_lt_of_cell? wo _ m0
            have hbl9 := Nat.lt_trans hbl8 hlN
            have hex : ∃ (z : Bool) (p : Nat) (s : Int), decide (0 < k) = z ∧ (z = true → k = p + 1 ∧ (∃ h : p < fs.F.length, fs.F[p].ino = s) ∧ wo.cell? ⟨b, o + p * 5, none⟩ = some (.int .i64 s)) ∧ (z = false → k = 0) := by
              cases hk : k with
              | zero => exact ⟨false, 0, 0, rfl, (fun h => by cases h), fun _ => rfl⟩
              | succ p =>
                have hp1 : p < fs.F.length := by omega
                obtain ⟨b', o', hA', _, p0, _⟩ := fi_cells HTo.out.f hp1
                injection hA' with hA'
                injection hA' with q1 q2 _
                subst q1 q2
                exact ⟨true, p, fs.F[p].ino, by simp, fun _ => ⟨rfl, ⟨hp1, rfl⟩, p0⟩, fun h => by cases h⟩
            obtain ⟨z, p, s, hz, hzt, hzf⟩ := hex
            have HP0 : Hid (z = true → (wo.alloc (.cells #[.int .i64 ino, .slice FA data.length FC, .bool cp, .bool wh, .int .i64 left] 45)).cell? ⟨b, o + p * 5, none⟩ = some (.int .i64 s)) := keep (fun h => (HAL.out.cell (p := ⟨b, o + p * 5, none⟩) hbl8).trans (hzt h).2.2)
            obtain ⟨bl, hbl⟩ : ∃ x, decide (s < ino) = x := ⟨_, rfl⟩
            have HBL := keep hbl
            have HGE : Hid (decide (ino ≤ s) = !bl) := keep (by rw [← hbl]; by_cases h : s < ino <;> simp [h] <;> omega)
            have HZ := keep hz
            have HWR : Hid (z = true → IntKind.i64.wrap ((k : Int) - 1) = (p : Int)) := keep (fun h => by have := (hzt h).1; rw [IntWalk.i64_in _ (by omega)]; omega)
            have HPB : Hid (z = true → (0 : Int) ≤ (p : Int) ∧ (p : Int) < (fs.F.length : Int)) := keep (fun h => by have := (hzt h).1; omega)
            have HKP : Hid (z = true → k = p + 1) := keep (fun h => (hzt h).1)
            have HPN : Hid (z = true → ∃ h : p < fs.F.length, fs.F[p].ino = s) := keep (fun h => (hzt h).2.1)
            have HK0 := keep hzf
            clear hz hzt hzf hbl hbl8
            generalize wo.alloc (.cells #[.int .i64 ino, .slice FA data.length FC, .bool cp, .bool wh, .int .i64 left] 45) = wb at *
            generalize wo.heap.size = gn at *
            clear f0 f1 f2 m0 m1' m2' m3 m4 hBr HTo HAL
            go_cut [101] (fun qv wd => qv = .bool (e1 || (z && !bl) || e2 || (!q && !hh)) ∧ Hid (Below wb.heap.size wb wd))
            case first =>
              refine reg_start 151 fr151 (fun _ => rfl) _ rfl fun x0 hx0 => ?_
              have y1 : x0 1 = .pointer (some ⟨w.heap.size, 0, none⟩) := hx0 1
              have y5 : x0 5 = .int .i64 (k : Int) := hx0 5
              have y6 : x0 6 = .pointer (some ⟨gn, 0, none⟩) := hx0 6
              refine wp_regT (by kernel_rfl) 151 (by kernel_rfl) fr151 (fun _ => rfl) x0 (Below wb.heap.size wb) (fun _ _ _ => True) (fun i v wa => match i with
                  | 0 => v = .pointer (some ⟨gn, 0, none⟩)
                  | 1 => v = .int .i64 ino
                  | 2 => v = .bool e1
                  | 3 => v = .bool e1
                  | 4 => e1 = false → v = .int .i64 (k : Int)
                  | 5 => e1 = false → v = .bool z
                  | 6 => (e1 = false → v = .bool z) ∧ (e1 = true → v = undef)
                  | 7 => e1 = false → z = true → v = .pointer (some ⟨w.heap.size, 1, none⟩)
                  | 8 => e1 = false → z = true → v = .slice (some ⟨b, o, none⟩) fs.F.length c2
                  | 9 => e1 = false → z = true → v = .int .i64 (k : Int)
                  | 10 => e1 = false → z = true → v = .int .i64 (p : Int)
                  | 11 => e1 = false → z = true → v = .pointer (some ⟨b, o + p * 5, none⟩)
                  | 12 => e1 = false → z = true → v = .pointer (some ⟨b, o + p * 5, none⟩)
                  | 13 => e1 = false → z = true → v = .int .i64 s
                  | 14 => e1 = false → z = true → v = .pointer (some ⟨gn, 0, none⟩)
                  | 15 => e1 = false → z = true → v = .int .i64 ino
                  | 16 => e1 = false → z = true → v = .bool (!bl)
                  | 17 => e1 = false → v = .bool (z && !bl)
                  | 18 => v = .bool (e1 || (z && !bl))
                  | 19 => v = .bool (e1 || (z && !bl))
                  | 20 => (e1 || (z && !bl)) = false → v = .pointer (some ⟨gn, 1, none⟩)
                  | 21 => (e1 || (z && !bl)) = false → v = .slice FA data.length FC
                  | 22 => (e1 || (z && !bl)) = false → v = .int .i64 (data.length : Int)
                  | 23 => (e1 || (z && !bl)) = false → v = .bool e2
                  | 24 => v = .bool (e1 || (z && !bl) || e2)
                  | 25 => v = .bool (e1 || (z && !bl) || e2)
                  | 26 => (e1 || (z && !bl) || e2) = false → v = .agg #[.slice A1 fs.N.length c1, .slice (some ⟨b, o, none⟩) fs.F.length c2, .slice A3 fs.O.length c3]
                  | 27 => (e1 || (z && !bl) || e2) = false → v = .pointer (some ⟨gn, 0, none⟩)
                  | 28 => (e1 || (z && !bl) || e2) = false → v = .int .i64 ino
                  | 29 => (e1 || (z && !bl) || e2) = false → v = .bool q
                  | 30 => (e1 || (z && !bl) || e2) = false → v = .bool (!q)
                  | 31 => ((e1 || (z && !bl) || e2) = false → v = .bool (!q)) ∧ ((e1 || (z && !bl) || e2) = true → v = undef)
                  | 32 => (e1 || (z && !bl) || e2) = false → (!q) = true → v = .agg #[.slice A1 fs.N.length c1, .slice (some ⟨b, o, none⟩) fs.F.length c2, .slice A3 fs.O.length c3]
                  | 33 => (e1 || (z && !bl) || e2) = false → (!q) = true → v = .pointer (some ⟨gn, 0, none⟩)
                  | 34 => (e1 || (z && !bl) || e2) = false → (!q) = true → v = .int .i64 ino
                  | 35 => (e1 || (z && !bl) || e2) = false → (!q) = true → v = .bool hh
                  | 36 => (e1 || (z && !bl) || e2) = false → (!q) = true → v = .bool (!hh)
                  | 37 => (e1 || (z && !bl) || e2) = false → v = .bool (!q && !hh)
                  | 38 => v = .bool ((e1 || (z && !bl) || e2) || (!q && !hh))
                  | _ => True) (fun _ _ _ _ _ _ _ h => h) (below_drewN (Below.refl _ _) 1) ?step ?skip ?done
              case step =>
                intro i o ho x wa K hW hout hdep hgd hK
                have E1 : Hid (x 1 = .pointer (some ⟨w.heap.size, 0, none⟩)) := keep ((hout 1 (by decide)).trans y1)
                have E5 : Hid (x 5 = .int .i64 (k : Int)) := keep ((hout 5 (by decide)).trans y5)
                have E6 : Hid (x 6 = .pointer (some ⟨gn, 0, none⟩)) := keep ((hout 6 (by decide)).trans y6)
                have i0 : (0 : Int) ≤ (k : Int) := by omega
                have i1 : (k : Int) < (fs.F.length : Int) := by omega
                have i2 : (data.length : Int) ≤ 1000000 := HDLL.out
                clear hout hx0 y1 y5 y6
                have hi : i < 39 := (Array.getElem?_eq_some_iff.1 ho).1
                have hcase : i = 0 ∨ i = 1 ∨ i = 2 ∨ i = 3 ∨ i = 4 ∨ i = 5 ∨ i = 6 ∨ i = 7 ∨ i = 8 ∨ i = 9 ∨ i = 10 ∨ i = 11 ∨ i = 12 ∨ i = 13 ∨ i = 14 ∨ i = 15 ∨ i = 16 ∨ i = 17 ∨ i = 18 ∨ i = 19 ∨ i = 20 ∨ i = 21 ∨ i = 22 ∨ i = 23 ∨ i = 24 ∨ i = 25 ∨ i = 26 ∨ i = 27 ∨ i = 28 ∨ i = 29 ∨ i = 30 ∨ i = 31 ∨ i = 32 ∨ i = 33 ∨ i = 34 ∨ i = 35 ∨ i = 36 ∨ i = 37 ∨ i = 38 := by omega
                clear hi
                rcases hcase with rfl | rfl | rfl | rfl | rfl | rfl | rfl | rfl | rfl | rfl | rfl | rfl | rfl | rfl | rfl | rfl | rfl | rfl | rfl | rfl | rfl | rfl | rfl | rfl | rfl | rfl | rfl | rfl | rfl | rfl | rfl | rfl | rfl | rfl | rfl | rfl | rfl | rfl | rfl
                · -- operation 0
                  simp only [List.getElem?_toArray, List.getElem?_cons_zero, Option.some.injEq] at ho
                  subst ho
                  clear hdep hgd
                  unfold fr151
                  rw [E6.out]
                  go_simp
                  have hk : K { tmps := #[x 0, x 1, x 2, x 3, x 4, x 5, x 6, x 7, x 8, x 9, x 10, x 11, x 12, x 13, x 14, x 15, x 16, x 17, x 18, x 19, x 20, x 21, x 22, x 23, x 24, x 25, x 26, x 27, x 28, x 29, x 30, x 31, x 32, x 33, x 34, x 35, x 36, x 37, x 38, x 39, x 40, x 41, x 42, x 43, x 44, x 45, x 46, x 47, x 48, x 49, x 50, x 51, x 52, x 53, x 54, x 55, x 56, x 57, x 58, x 59, x 60, x 61, x 62, .pointer (some ⟨gn, 0, none⟩), x 64, x 65, x 66, x 67, x 68, x 69, x 70, x 71, x 72, x 73, x 74, x 75, x 76, x 77, x 78, x 79, x 80, x 81, x 82, x 83, x 84, x 85, x 86, x 87, x 88, x 89, x 90, x 91, x 92, x 93, x 94, x 95, x 96, x 97, x 98, x 99, x 100, x 101, x 102, x 103, x 104, x 105, x 106, x 107, x 108, x 109, x 110, x 111, x 112, x 113, x 114, x 115, x 116, x 117, x 118, x 119, x 120, x 121, x 122, x 123, x 124, x 125, x 126, x 127, x 128, x 129, x 130, x 131, x 132, x 133, x 134, x 135, x 136, x 137, x 138, x 139, x 140, x 141, x 142, x 143, x 144, x 145, x 146, x 147, x 148, x 149, x 150], defers := [] } wa := hK _ _ hW trivial rfl
                  rw [E6.out] at hk
                  exact hk
                · -- operation 1
                  simp only [List.getElem?_toArray, List.getElem?_cons_succ, List.getElem?_cons_zero, Option.some.injEq] at ho
                  subst ho
                  have p0 : (x 63) = .pointer (some ⟨gn, 0, none⟩) := hdep 0 (List.mem_of_elem_eq_true (by kernel_rfl))
                  clear hdep hgd
                  obtain ⟨y0, y1, y2, y3, y4⟩ := (HNB.out.below hW HNB.out.lt).cell5
                  unfold fr151
                  rw [p0]
                  go_simp
                  have hk : K { tmps := #[x 0, x 1, x 2, x 3, x 4, x 5, x 6, x 7, x 8, x 9, x 10, x 11, x 12, x 13, x 14, x 15, x 16, x 17, x 18, x 19, x 20, x 21, x 22, x 23, x 24, x 25, x 26, x 27, x 28, x 29, x 30, x 31, x 32, x 33, x 34, x 35, x 36, x 37, x 38, x 39, x 40, x 41, x 42, x 43, x 44, x 45, x 46, x 47, x 48, x 49, x 50, x 51, x 52, x 53, x 54, x 55, x 56, x 57, x 58, x 59, x 60, x 61, x 62, x 63, .int .i64 ino, x 65, x 66, x 67, x 68, x 69, x 70, x 71, x 72, x 73, x 74, x 75, x 76, x 77, x 78, x 79, x 80, x 81, x 82, x 83, x 84, x 85, x 86, x 87, x 88, x 89, x 90, x 91, x 92, x 93, x 94, x 95, x 96, x 97, x 98, x 99, x 100, x 101, x 102, x 103, x 104, x 105, x 106, x 107, x 108, x 109, x 110, x 111, x 112, x 113, x 114, x 115, x 116, x 117, x 118, x 119, x 120, x 121, x 122, x 123, x 124, x 125, x 126, x 127, x 128, x 129, x 130, x 131, x 132, x 133, x 134, x 135, x 136, x 137, x 138, x 139, x 140, x 141, x 142, x 143, x 144, x 145, x 146, x 147, x 148, x 149, x 150], defers := [] } wa := hK _ _ hW trivial rfl
                  rw [p0] at hk
                  exact hk
                · -- operation 2
                  simp only [List.getElem?_toArray, List.getElem?_cons_succ, List.getElem?_cons_zero, Option.some.injEq] at ho
                  subst ho
                  have p1 : (x 64) = .int .i64 ino := hdep 1 (List.mem_of_elem_eq_true (by kernel_rfl))
                  clear hdep hgd
                  have d1 := HD1.out
                  unfold fr151
                  rw [p1]
                  go_simp
                  have hk : K { tmps := #[x 0, x 1, x 2, x 3, x 4, x 5, x 6, x 7, x 8, x 9, x 10, x 11, x 12, x 13, x 14, x 15, x 16, x 17, x 18, x 19, x 20, x 21, x 22, x 23, x 24, x 25, x 26, x 27, x 28, x 29, x 30, x 31, x 32, x 33, x 34, x 35, x 36, x 37, x 38, x 39, x 40, x 41, x 42, x 43, x 44, x 45, x 46, x 47, x 48, x 49, x 50, x 51, x 52, x 53, x 54, x 55, x 56, x 57, x 58, x 59, x 60, x 61, x 62, x 63, x 64, .bool e1, x 66, x 67, x 68, x 69, x 70, x 71, x 72, x 73, x 74, x 75, x 76, x 77, x 78, x 79, x 80, x 81, x 82, x 83, x 84, x 85, x 86, x 87, x 88, x 89, x 90, x 91, x 92, x 93, x 94, x 95, x 96, x 97, x 98, x 99, x 100, x 101, x 102, x 103, x 104, x 105, x 106, x 107, x 108, x 109, x 110, x 111, x 112, x 113, x 114, x 115, x 116, x 117, x 118, x 119, x 120, x 121, x 122, x 123, x 124, x 125, x 126, x 127, x 128, x 129, x 130, x 131, x 132, x 133, x 134, x 135, x 136, x 137, x 138, x 139, x 140, x 141, x 142, x 143, x 144, x 145, x 146, x 147, x 148, x 149, x 150], defers := [] } wa := hK _ _ hW trivial rfl
                  rw [p1] at hk
                  exact hk
                · -- operation 3
                  simp only [List.getElem?_toArray, List.getElem?_cons_succ, List.getElem?_cons_zero, Option.some.injEq] at ho
                  subst ho
                  have p2 : (x 65) = .bool e1 := hdep 2 (List.mem_of_elem_eq_true (by kernel_rfl))
                  clear hdep hgd
                  unfold fr151
                  rw [p2]
                  go_simp
                  have hk : K { tmps := #[x 0, x 1, x 2, x 3, x 4, x 5, x 6, x 7, x 8, x 9, x 10, x 11, x 12, x 13, x 14, x 15, x 16, x 17, x 18, x 19, x 20, x 21, x 22, x 23, x 24, x 25, x 26, x 27, x 28, x 29, x 30, x 31, x 32, x 33, x 34, x 35, x 36, x 37, x 38, x 39, x 40, x 41, x 42, x 43, x 44, x 45, x 46, x 47, x 48, x 49, x 50, x 51, x 52, x 53, x 54, x 55, x 56, x 57, x 58, x 59, x 60, x 61, x 62, x 63, x 64, x 65, .bool e1, x 67, x 68, x 69, x 70, x 71, x 72, x 73, x 74, x 75, x 76, x 77, x 78, x 79, x 80, x 81, x 82, x 83, x 84, x 85, x 86, x 87, x 88, x 89, x 90, x 91, x 92, x 93, x 94, x 95, x 96, x 97, x 98, x 99, x 100, x 101, x 102, x 103, x 104, x 105, x 106, x 107, x 108, x 109, x 110, x 111, x 112, x 113, x 114, x 115, x 116, x 117, x 118, x 119, x 120, x 121, x 122, x 123, x 124, x 125, x 126, x 127, x 128, x 129, x 130, x 131, x 132, x 133, x 134, x 135, x 136, x 137, x 138, x 139, x 140, x 141, x 142, x 143, x 144, x 145, x 146, x 147, x 148, x 149, x 150], defers := [] } wa := hK _ _ hW trivial rfl
                  rw [p2] at hk
                  exact hk
                · -- operation 4
                  simp only [List.getElem?_toArray, List.getElem?_cons_succ, List.getElem?_cons_zero, Option.some.injEq] at ho
                  subst ho
                  have hg : x 66 = .bool false := hgd 3 false rfl
                  have p3 : (x 66) = .bool e1 := hdep 3 (List.mem_of_elem_eq_true (by kernel_rfl))
                  clear hdep hgd
                  have hg1 := p3
                  rw [hg1] at hg
                  injection hg with hq1
                  clear hg1
                  clear p3
                  unfold fr151
                  rw [E5.out]
                  go_simp
                  have hk : K { tmps := #[x 0, x 1, x 2, x 3, x 4, x 5, x 6, x 7, x 8, x 9, x 10, x 11, x 12, x 13, x 14, x 15, x 16, x 17, x 18, x 19, x 20, x 21, x 22, x 23, x 24, x 25, x 26, x 27, x 28, x 29, x 30, x 31, x 32, x 33, x 34, x 35, x 36, x 37, x 38, x 39, x 40, x 41, x 42, x 43, x 44, x 45, x 46, x 47, x 48, x 49, x 50, x 51, x 52, x 53, x 54, x 55, x 56, x 57, x 58, x 59, x 60, x 61, x 62, x 63, x 64, x 65, x 66, .int .i64 (k : Int), x 68, x 69, x 70, x 71, x 72, x 73, x 74, x 75, x 76, x 77, x 78, x 79, x 80, x 81, x 82, x 83, x 84, x 85, x 86, x 87, x 88, x 89, x 90, x 91, x 92, x 93, x 94, x 95, x 96, x 97, x 98, x 99, x 100, x 101, x 102, x 103, x 104, x 105, x 106, x 107, x 108, x 109, x 110, x 111, x 112, x 113, x 114, x 115, x 116, x 117, x 118, x 119, x 120, x 121, x 122, x 123, x 124, x 125, x 126, x 127, x 128, x 129, x 130, x 131, x 132, x 133, x 134, x 135, x 136, x 137, x 138, x 139, x 140, x 141, x 142, x 143, x 144, x 145, x 146, x 147, x 148, x 149, x 150], defers := [] } wa := hK _ _ hW trivial (fun _ => rfl)
                  rw [E5.out] at hk
                  exact hk
                · -- operation 5
                  simp only [List.getElem?_toArray, List.getElem?_cons_succ, List.getElem?_cons_zero, Option.some.injEq] at ho
                  subst ho
                  have hg : x 66 = .bool false := hgd 3 false rfl
                  have p3 : (x 66) = .bool e1 := hdep 3 (List.mem_of_elem_eq_true (by kernel_rfl))
                  have p4 : e1 = false → (x 67) = .int .i64 (k : Int) := hdep 4 (List.mem_of_elem_eq_true (by kernel_rfl))
                  clear hdep hgd
                  have hg1 := p3
                  rw [hg1] at hg
                  injection hg with hq1
                  clear hg1
                  clear p3
                  replace p4 := p4 hq1
                  have hz1 := HZ.out
                  unfold fr151
                  rw [p4]
                  go_simp
                  have hk : K { tmps := #[x 0, x 1, x 2, x 3, x 4, x 5, x 6, x 7, x 8, x 9, x 10, x 11, x 12, x 13, x 14, x 15, x 16, x 17, x 18, x 19, x 20, x 21, x 22, x 23, x 24, x 25, x 26, x 27, x 28, x 29, x 30, x 31, x 32, x 33, x 34, x 35, x 36, x 37, x 38, x 39, x 40, x 41, x 42, x 43, x 44, x 45, x 46, x 47, x 48, x 49, x 50, x 51, x 52, x 53, x 54, x 55, x 56, x 57, x 58, x 59, x 60, x 61, x 62, x 63, x 64, x 65, x 66, x 67, .bool z, x 69, x 70, x 71, x 72, x 73, x 74, x 75, x 76, x 77, x 78, x 79, x 80, x 81, x 82, x 83, x 84, x 85, x 86, x 87, x 88, x 89, x 90, x 91, x 92, x 93, x 94, x 95, x 96, x 97, x 98, x 99, x 100, x 101, x 102, x 103, x 104, x 105, x 106, x 107, x 108, x 109, x 110, x 111, x 112, x 113, x 114, x 115, x 116, x 117, x 118, x 119, x 120, x 121, x 122, x 123, x 124, x 125, x 126, x 127, x 128, x 129, x 130, x 131, x 132, x 133, x 134, x 135, x 136, x 137, x 138, x 139, x 140, x 141, x 142, x 143, x 144, x 145, x 146, x 147, x 148, x 149, x 150], defers := [] } wa := hK _ _ hW trivial (fun _ => rfl)
                  rw [p4] at hk
                  exact hk
                · -- operation 6
                  simp only [List.getElem?_toArray, List.getElem?_cons_succ, List.getElem?_cons_zero, Option.some.injEq] at ho
                  subst ho
                  have hg : x 66 = .bool false := hgd 3 false rfl
                  have p3 : (x 66) = .bool e1 := hdep 3 (List.mem_of_elem_eq_true (by kernel_rfl))
                  have p5 : e1 = false → (x 68) = .bool z := hdep 5 (List.mem_of_elem_eq_true (by kernel_rfl))
                  clear hdep hgd
                  have hg1 := p3
                  rw [hg1] at hg
                  injection hg with hq1
                  clear hg1
                  clear p3
                  replace p5 := p5 hq1
                  unfold fr151
                  rw [p5]
                  go_simp
                  have hk : K { tmps := #[x 0, x 1, x 2, x 3, x 4, x 5, x 6, x 7, x 8, x 9, x 10, x 11, x 12, x 13, x 14, x 15, x 16, x 17, x 18, x 19, x 20, x 21, x 22, x 23, x 24, x 25, x 26, x 27, x 28, x 29, x 30, x 31, x 32, x 33, x 34, x 35, x 36, x 37, x 38, x 39, x 40, x 41, x 42, x 43, x 44, x 45, x 46, x 47, x 48, x 49, x 50, x 51, x 52, x 53, x 54, x 55, x 56, x 57, x 58, x 59, x 60, x 61, x 62, x 63, x 64, x 65, x 66, x 67, x 68, .bool z, x 70, x 71, x 72, x 73, x 74, x 75, x 76, x 77, x 78, x 79, x 80, x 81, x 82, x 83, x 84, x 85, x 86, x 87, x 88, x 89, x 90, x 91, x 92, x 93, x 94, x 95, x 96, x 97, x 98, x 99, x 100, x 101, x 102, x 103, x 104, x 105, x 106, x 107, x 108, x 109, x 110, x 111, x 112, x 113, x 114, x 115, x 116, x 117, x 118, x 119, x 120, x 121, x 122, x 123, x 124, x 125, x 126, x 127, x 128, x 129, x 130, x 131, x 132, x 133, x 134, x 135, x 136, x 137, x 138, x 139, x 140, x 141, x 142, x 143, x 144, x 145, x 146, x 147, x 148, x 149, x 150], defers := [] } wa := hK _ _ hW trivial ⟨fun _ => rfl, fun h => by rw [hq1] at h; cases h⟩
                  rw [p5] at hk
                  exact hk
                · -- operation 7
                  simp only [List.getElem?_toArray, List.getElem?_cons_succ, List.getElem?_cons_zero, Option.some.injEq] at ho
                  subst ho
                  have hg : x 69 = .bool true := hgd 6 true rfl
                  have p6 : (e1 = false → (x 69) = .bool z) ∧ (e1 = true → (x 69) = undef) := hdep 6 (List.mem_of_elem_eq_true (by kernel_rfl))
                  clear hdep hgd
                  have hq1 : e1 = false := by
                    cases hE : (e1) with
                    | false => rfl
                    | true => rw [p6.2 hE] at hg; cases hg
                  have hq2 : z = true := by
                    have h := p6.1 hq1
                    rw [h] at hg
                    injection hg
                  clear hg p6
                  unfold fr151
                  rw [E1.out]
                  go_simp
                  have hk : K { tmps := #[x 0, x 1, x 2, x 3, x 4, x 5, x 6, x 7, x 8, x 9, x 10, x 11, x 12, x 13, x 14, x 15, x 16, x 17, x 18, x 19, x 20, x 21, x 22, x 23, x 24, x 25, x 26, x 27, x 28, x 29, x 30, x 31, x 32, x 33, x 34, x 35, x 36, x 37, x 38, x 39, x 40, x 41, x 42, x 43, x 44, x 45, x 46, x 47, x 48, x 49, x 50, x 51, x 52, x 53, x 54, x 55, x 56, x 57, x 58, x 59, x 60, x 61, x 62, x 63, x 64, x 65, x 66, x 67, x 68, x 69, .pointer (some ⟨w.heap.size, 1, none⟩), x 71, x 72, x 73, x 74, x 75, x 76, x 77, x 78, x 79, x 80, x 81, x 82, x 83, x 84, x 85, x 86, x 87, x 88, x 89, x 90, x 91, x 92, x 93, x 94, x 95, x 96, x 97, x 98, x 99, x 100, x 101, x 102, x 103, x 104, x 105, x 106, x 107, x 108, x 109, x 110, x 111, x 112, x 113, x 114, x 115, x 116, x 117, x 118, x 119, x 120, x 121, x 122, x 123, x 124, x 125, x 126, x 127, x 128, x 129, x 130, x 131, x 132, x 133, x 134, x 135, x 136, x 137, x 138, x 139, x 140, x 141, x 142, x 143, x 144, x 145, x 146, x 147, x 148, x 149, x 150], defers := [] } wa := hK _ _ hW trivial (fun _ => fun _ => rfl)
                  rw [E1.out] at hk
                  exact hk
                · -- operation 8
                  simp only [List.getElem?_toArray, List.getElem?_cons_succ, List.getElem?_cons_zero, Option.some.injEq] at ho
                  subst ho
                  have hg : x 69 = .bool true := hgd 6 true rfl
                  have p6 : (e1 = false → (x 69) = .bool z) ∧ (e1 = true → (x 69) = undef) := hdep 6 (List.mem_of_elem_eq_true (by kernel_rfl))
                  have p7 : e1 = false → z = true → (x 70) = .pointer (some ⟨w.heap.size, 1, none⟩) := hdep 7 (List.mem_of_elem_eq_true (by kernel_rfl))
                  clear hdep hgd
                  have hq1 : e1 = false := by
                    cases hE : (e1) with
                    | false => rfl
                    | true => rw [p6.2 hE] at hg; cases hg
                  have hq2 : z = true := by
                    have h := p6.1 hq1
                    rw [h] at hg
                    injection hg
                  clear hg p6
                  replace p7 := p7 hq1 hq2
                  obtain ⟨f0, f1, f2⟩ := (HFb.out.below hW HFb.out.lt).cell3
                  unfold fr151
                  rw [p7]
                  go_simp
                  have hk : K { tmps := #[x 0, x 1, x 2, x 3, x 4, x 5, x 6, x 7, x 8, x 9, x 10, x 11, x 12, x 13, x 14, x 15, x 16, x 17, x 18, x 19, x 20, x 21, x 22, x 23, x 24, x 25, x 26, x 27, x 28, x 29, x 30, x 31, x 32, x 33, x 34, x 35, x 36, x 37, x 38, x 39, x 40, x 41, x 42, x 43, x 44, x 45, x 46, x 47, x 48, x 49, x 50, x 51, x 52, x 53, x 54, x 55, x 56, x 57, x 58, x 59, x 60, x 61, x 62, x 63, x 64, x 65, x 66, x 67, x 68, x 69, x 70, .slice (some ⟨b, o, none⟩) fs.F.length c2, x 72, x 73, x 74, x 75, x 76, x 77, x 78, x 79, x 80, x 81, x 82, x 83, x 84, x 85, x 86, x 87, x 88, x 89, x 90, x 91, x 92, x 93, x 94, x 95, x 96, x 97, x 98, x 99, x 100, x 101, x 102, x 103, x 104, x 105, x 106, x 107, x 108, x 109, x 110, x 111, x 112, x 113, x 114, x 115, x 116, x 117, x 118, x 119, x 120, x 121, x 122, x 123, x 124, x 125, x 126, x 127, x 128, x 129, x 130, x 131, x 132, x 133, x 134, x 135, x 136, x 137, x 138, x 139, x 140, x 141, x 142, x 143, x 144, x 145, x 146, x 147, x 148, x 149, x 150], defers := [] } wa := hK _ _ hW trivial (fun _ => fun _ => rfl)
                  rw [p7] at hk
                  exact hk
                · -- operation 9
                  simp only [List.getElem?_toArray, List.getElem?_cons_succ, List.getElem?_cons_zero, Option.some.injEq] at ho
                  subst ho
                  have hg : x 69 = .bool true := hgd 6 true rfl
                  have p6 : (e1 = false → (x 69) = .bool z) ∧ (e1 = true → (x 69) = undef) := hdep 6 (List.mem_of_elem_eq_true (by kernel_rfl))
                  clear hdep hgd
                  have hq1 : e1 = false := by
                    cases hE : (e1) with
                    | false => rfl
                    | true => rw [p6.2 hE] at hg; cases hg
                  have hq2 : z = true := by
                    have h := p6.1 hq1
                    rw [h] at hg
                    injection hg
                  clear hg p6
                  unfold fr151
                  rw [E5.out]
                  go_simp
                  have hk : K { tmps := #[x 0, x 1, x 2, x 3, x 4, x 5, x 6, x 7, x 8, x 9, x 10, x 11, x 12, x 13, x 14, x 15, x 16, x 17, x 18, x 19, x 20, x 21, x 22, x 23, x 24, x 25, x 26, x 27, x 28, x 29, x 30, x 31, x 32, x 33, x 34, x 35, x 36, x 37, x 38, x 39, x 40, x 41, x 42, x 43, x 44, x 45, x 46, x 47, x 48, x 49, x 50, x 51, x 52, x 53, x 54, x 55, x 56, x 57, x 58, x 59, x 60, x 61, x 62, x 63, x 64, x 65, x 66, x 67, x 68, x 69, x 70, x 71, .int .i64 (k : Int), x 73, x 74, x 75, x 76, x 77, x 78, x 79, x 80, x 81, x 82, x 83, x 84, x 85, x 86, x 87, x 88, x 89, x 90, x 91, x 92, x 93, x 94, x 95, x 96, x 97, x 98, x 99, x 100, x 101, x 102, x 103, x 104, x 105, x 106, x 107, x 108, x 109, x 110, x 111, x 112, x 113, x 114, x 115, x 116, x 117, x 118, x 119, x 120, x 121, x 122, x 123, x 124, x 125, x 126, x 127, x 128, x 129, x 130, x 131, x 132, x 133, x 134, x 135, x 136, x 137, x 138, x 139, x 140, x 141, x 142, x 143, x 144, x 145, x 146, x 147, x 148, x 149, x 150], defers := [] } wa := hK _ _ hW trivial (fun _ => fun _ => rfl)
                  rw [E5.out] at hk
                  exact hk
                · -- operation 10
                  simp only [List.getElem?_toArray, List.getElem?_cons_succ, List.getElem?_cons_zero, Option.some.injEq] at ho
                  subst ho
                  have hg : x 69 = .bool true := hgd 6 true rfl
                  have p6 : (e1 = false → (x 69) = .bool z) ∧ (e1 = true → (x 69) = undef) := hdep 6 (List.mem_of_elem_eq_true (by kernel_rfl))
                  have p9 : e1 = false → z = true → (x 72) = .int .i64 (k : Int) := hdep 9 (List.mem_of_elem_eq_true (by kernel_rfl))
                  clear hdep hgd
                  have hq1 : e1 = false := by
                    cases hE : (e1) with
                    | false => rfl
                    | true => rw [p6.2 hE] at hg; cases hg
                  have hq2 : z = true := by
                    have h := p6.1 hq1
                    rw [h] at hg
                    injection hg
                  clear hg p6
                  replace p9 := p9 hq1 hq2
                  have hw := HWR.out hq2
                  unfold fr151
                  rw [p9]
                  go_simp
                  have hk : K { tmps := #[x 0, x 1, x 2, x 3, x 4, x 5, x 6, x 7, x 8, x 9, x 10, x 11, x 12, x 13, x 14, x 15, x 16, x 17, x 18, x 19, x 20, x 21, x 22, x 23, x 24, x 25, x 26, x 27, x 28, x 29, x 30, x 31, x 32, x 33, x 34, x 35, x 36, x 37, x 38, x 39, x 40, x 41, x 42, x 43, x 44, x 45, x 46, x 47, x 48, x 49, x 50, x 51, x 52, x 53, x 54, x 55, x 56, x 57, x 58, x 59, x 60, x 61, x 62, x 63, x 64, x 65, x 66, x 67, x 68, x 69, x 70, x 71, x 72, .int .i64 (p : Int), x 74, x 75, x 76, x 77, x 78, x 79, x 80, x 81, x 82, x 83, x 84, x 85, x 86, x 87, x 88, x 89, x 90, x 91, x 92, x 93, x 94, x 95, x 96, x 97, x 98, x 99, x 100, x 101, x 102, x 103, x 104, x 105, x 106, x 107, x 108, x 109, x 110, x 111, x 112, x 113, x 114, x 115, x 116, x 117, x 118, x 119, x 120, x 121, x 122, x 123, x 124, x 125, x 126, x 127, x 128, x 129, x 130, x 131, x 132, x 133, x 134, x 135, x 136, x 137, x 138, x 139, x 140, x 141, x 142, x 143, x 144, x 145, x 146, x 147, x 148, x 149, x 150], defers := [] } wa := hK _ _ hW trivial (fun _ => fun _ => rfl)
                  rw [p9] at hk
                  exact hk
                · -- operation 11
                  simp only [List.getElem?_toArray, List.getElem?_cons_succ, List.getElem?_cons_zero, Option.some.injEq] at ho
                  subst ho
                  have hg : x 69 = .bool true := hgd 6 true rfl
                  have p6 : (e1 = false → (x 69) = .bool z) ∧ (e1 = true → (x 69) = undef) := hdep 6 (List.mem_of_elem_eq_true (by kernel_rfl))
                  have p8 : e1 = false → z = true → (x 71) = .slice (some ⟨b, o, none⟩) fs.F.length c2 := hdep 8 (List.mem_of_elem_eq_true (by kernel_rfl))
                  have p10 : e1 = false → z = true → (x 73) = .int .i64 (p : Int) := hdep 10 (List.mem_of_elem_eq_true (by kernel_rfl))
                  clear hdep hgd
                  have hq1 : e1 = false := by
                    cases hE : (e1) with
                    | false => rfl
                    | true => rw [p6.2 hE] at hg; cases hg
                  have hq2 : z = true := by
                    have h := p6.1 hq1
                    rw [h] at hg
                    injection hg
                  clear hg p6
                  replace p8 := p8 hq1 hq2
                  replace p10 := p10 hq1 hq2
                  obtain ⟨p3, p4⟩ := HPB.out hq2
                  unfold fr151
                  rw [p8, p10]
                  go_simp
                  have hk : K { tmps := #[x 0, x 1, x 2, x 3, x 4, x 5, x 6, x 7, x 8, x 9, x 10, x 11, x 12, x 13, x 14, x 15, x 16, x 17, x 18, x 19, x 20, x 21, x 22, x 23, x 24, x 25, x 26, x 27, x 28, x 29, x 30, x 31, x 32, x 33, x 34, x 35, x 36, x 37, x 38, x 39, x 40, x 41, x 42, x 43, x 44, x 45, x 46, x 47, x 48, x 49, x 50, x 51, x 52, x 53, x 54, x 55, x 56, x 57, x 58, x 59, x 60, x 61, x 62, x 63, x 64, x 65, x 66, x 67, x 68, x 69, x 70, x 71, x 72, x 73, .pointer (some ⟨b, o + p * 5, none⟩), x 75, x 76, x 77, x 78, x 79, x 80, x 81, x 82, x 83, x 84, x 85, x 86, x 87, x 88, x 89, x 90, x 91, x 92, x 93, x 94, x 95, x 96, x 97, x 98, x 99, x 100, x 101, x 102, x 103, x 104, x 105, x 106, x 107, x 108, x 109, x 110, x 111, x 112, x 113, x 114, x 115, x 116, x 117, x 118, x 119, x 120, x 121, x 122, x 123, x 124, x 125, x 126, x 127, x 128, x 129, x 130, x 131, x 132, x 133, x 134, x 135, x 136, x 137, x 138, x 139, x 140, x 141, x 142, x 143, x 144, x 145, x 146, x 147, x 148, x 149, x 150], defers := [] } wa := hK _ _ hW trivial (fun _ => fun _ => rfl)
                  rw [p8, p10] at hk
                  exact hk
                · -- operation 12
                  simp only [List.getElem?_toArray, List.getElem?_cons_succ, List.getElem?_cons_zero, Option.some.injEq] at ho
                  subst ho
                  have hg : x 69 = .bool true := hgd 6 true rfl
                  have p6 : (e1 = false → (x 69) = .bool z) ∧ (e1 = true → (x 69) = undef) := hdep 6 (List.mem_of_elem_eq_true (by kernel_rfl))
                  have p11 : e1 = false → z = true → (x 74) = .pointer (some ⟨b, o + p * 5, none⟩) := hdep 11 (List.mem_of_elem_eq_true (by kernel_rfl))
                  clear hdep hgd
                  have hq1 : e1 = false := by
                    cases hE : (e1) with
                    | false => rfl
                    | true => rw [p6.2 hE] at hg; cases hg
                  have hq2 : z = true := by
                    have h := p6.1 hq1
                    rw [h] at hg
                    injection hg
                  clear hg p6
                  replace p11 := p11 hq1 hq2
                  unfold fr151
                  rw [p11]
                  go_simp
                  have hk : K { tmps := #[x 0, x 1, x 2, x 3, x 4, x 5, x 6, x 7, x 8, x 9, x 10, x 11, x 12, x 13, x 14, x 15, x 16, x 17, x 18, x 19, x 20, x 21, x 22, x 23, x 24, x 25, x 26, x 27, x 28, x 29, x 30, x 31, x 32, x 33, x 34, x 35, x 36, x 37, x 38, x 39, x 40, x 41, x 42, x 43, x 44, x 45, x 46, x 47, x 48, x 49, x 50, x 51, x 52, x 53, x 54, x 55, x 56, x 57, x 58, x 59, x 60, x 61, x 62, x 63, x 64, x 65, x 66, x 67, x 68, x 69, x 70, x 71, x 72, x 73, x 74, .pointer (some ⟨b, o + p * 5, none⟩), x 76, x 77, x 78, x 79, x 80, x 81, x 82, x 83, x 84, x 85, x 86, x 87, x 88, x 89, x 90, x 91, x 92, x 93, x 94, x 95, x 96, x 97, x 98, x 99, x 100, x 101, x 102, x 103, x 104, x 105, x 106, x 107, x 108, x 109, x 110, x 111, x 112, x 113, x 114, x 115, x 116, x 117, x 118, x 119, x 120, x 121, x 122, x 123, x 124, x 125, x 126, x 127, x 128, x 129, x 130, x 131, x 132, x 133, x 134, x 135, x 136, x 137, x 138, x 139, x 140, x 141, x 142, x 143, x 144, x 145, x 146, x 147, x 148, x 149, x 150], defers := [] } wa := hK _ _ hW trivial (fun _ => fun _ => rfl)
                  rw [p11] at hk
                  exact hk
                · -- operation 13
                  simp only [List.getElem?_toArray, List.getElem?_cons_succ, List.getElem?_cons_zero, Option.some.injEq] at ho
                  subst ho
                  have hg : x 69 = .bool true := hgd 6 true rfl
                  have p6 : (e1 = false → (x 69) = .bool z) ∧ (e1 = true → (x 69) = undef) := hdep 6 (List.mem_of_elem_eq_true (by kernel_rfl))
                  have p12 : e1 = false → z = true → (x 75) = .pointer (some ⟨b, o + p * 5, none⟩) := hdep 12 (List.mem_of_elem_eq_true (by kernel_rfl))
                  clear hdep hgd
                  have hq1 : e1 = false := by
                    cases hE : (e1) with
                    | false => rfl
                    | true => rw [p6.2 hE] at hg; cases hg
                  have hq2 : z = true := by
                    have h := p6.1 hq1
                    rw [h] at hg
                    injection hg
                  clear hg p6
                  replace p12 := p12 hq1 hq2
                  have pc := (hW.cell (p := ⟨b, o + p * 5, none⟩) hbl9).trans (HP0.out hq2)
                  unfold fr151
                  rw [p12]
                  go_simp
                  have hk : K { tmps := #[x 0, x 1, x 2, x 3, x 4, x 5, x 6, x 7, x 8, x 9, x 10, x 11, x 12, x 13, x 14, x 15, x 16, x 17, x 18, x 19, x 20, x 21, x 22, x 23, x 24, x 25, x 26, x 27, x 28, x 29, x 30, x 31, x 32, x 33, x 34, x 35, x 36, x 37, x 38, x 39, x 40, x 41, x 42, x 43, x 44, x 45, x 46, x 47, x 48, x 49, x 50, x 51, x 52, x 53, x 54, x 55, x 56, x 57, x 58, x 59, x 60, x 61, x 62, x 63, x 64, x 65, x 66, x 67, x 68, x 69, x 70, x 71, x 72, x 73, x 74, x 75, .int .i64 s, x 77, x 78, x 79, x 80, x 81, x 82, x 83, x 84, x 85, x 86, x 87, x 88, x 89, x 90, x 91, x 92, x 93, x 94, x 95, x 96, x 97, x 98, x 99, x 100, x 101, x 102, x 103, x 104, x 105, x 106, x 107, x 108, x 109, x 110, x 111, x 112, x 113, x 114, x 115, x 116, x 117, x 118, x 119, x 120, x 121, x 122, x 123, x 124, x 125, x 126, x 127, x 128, x 129, x 130, x 131, x 132, x 133, x 134, x 135, x 136, x 137, x 138, x 139, x 140, x 141, x 142, x 143, x 144, x 145, x 146, x 147, x 148, x 149, x 150], defers := [] } wa := hK _ _ hW trivial (fun _ => fun _ => rfl)
                  rw [p12] at hk
                  exact hk
                · -- operation 14
                  simp only [List.getElem?_toArray, List.getElem?_cons_succ, List.getElem?_cons_zero, Option.some.injEq] at ho
                  subst ho
                  have hg : x 69 = .bool true := hgd 6 true rfl
                  have p6 : (e1 = false → (x 69) = .bool z) ∧ (e1 = true → (x 69) = undef) := hdep 6 (List.mem_of_elem_eq_true (by kernel_rfl))
                  clear hdep hgd
                  have hq1 : e1 = false := by
                    cases hE : (e1) with
                    | false => rfl
                    | true => rw [p6.2 hE] at hg; cases hg
                  have hq2 : z = true := by
                    have h := p6.1 hq1
                    rw [h] at hg
                    injection hg
                  clear hg p6
                  unfold fr151
                  rw [E6.out]
                  go_simp
                  have hk : K { tmps := #[x 0, x 1, x 2, x 3, x 4, x 5, x 6, x 7, x 8, x 9, x 10, x 11, x 12, x 13, x 14, x 15, x 16, x 17, x 18, x 19, x 20, x 21, x 22, x 23, x 24, x 25, x 26, x 27, x 28, x 29, x 30, x 31, x 32, x 33, x 34, x 35, x 36, x 37, x 38, x 39, x 40, x 41, x 42, x 43, x 44, x 45, x 46, x 47, x 48, x 49, x 50, x 51, x 52, x 53, x 54, x 55, x 56, x 57, x 58, x 59, x 60, x 61, x 62, x 63, x 64, x 65, x 66, x 67, x 68, x 69, x 70, x 71, x 72, x 73, x 74, x 75, x 76, .pointer (some ⟨gn, 0, none⟩), x 78, x 79, x 80, x 81, x 82, x 83, x 84, x 85, x 86, x 87, x 88, x 89, x 90, x 91, x 92, x 93, x 94, x 95, x 96, x 97, x 98, x 99, x 100, x 101, x 102, x 103, x 104, x 105, x 106, x 107, x 108, x 109, x 110, x 111, x 112, x 113, x 114, x 115, x 116, x 117, x 118, x 119, x 120, x 121, x 122, x 123, x 124, x 125, x 126, x 127, x 128, x 129, x 130, x 131, x 132, x 133, x 134, x 135, x 136, x 137, x 138, x 139, x 140, x 141, x 142, x 143, x 144, x 145, x 146, x 147, x 148, x 149, x 150], defers := [] } wa := hK _ _ hW trivial (fun _ => fun _ => rfl)
                  rw [E6.out] at hk
                  exact hk
                · -- operation 15
                  simp only [List.getElem?_toArray, List.getElem?_cons_succ, List.getElem?_cons_zero, Option.some.injEq] at ho
                  subst ho
                  have hg : x 69 = .bool true := hgd 6 true rfl
                  have p6 : (e1 = false → (x 69) = .bool z) ∧ (e1 = true → (x 69) = undef) := hdep 6 (List.mem_of_elem_eq_true (by kernel_rfl))
                  have p14 : e1 = false → z = true → (x 77) = .pointer (some ⟨gn, 0, none⟩) := hdep 14 (List.mem_of_elem_eq_true (by kernel_rfl))
                  clear hdep hgd
                  have hq1 : e1 = false := by
                    cases hE : (e1) with
                    | false => rfl
                    | true => rw [p6.2 hE] at hg; cases hg
                  have hq2 : z = true := by
                    have h := p6.1 hq1
                    rw [h] at hg
                    injection hg
                  clear hg p6
                  replace p14 := p14 hq1 hq2
                  obtain ⟨y0, y1, y2, y3, y4⟩ := (HNB.out.below hW HNB.out.lt).cell5
                  unfold fr151
                  rw [p14]
                  go_simp
                  have hk : K { tmps := #[x 0, x 1, x 2, x 3, x 4, x 5, x 6, x 7, x 8, x 9, x 10, x 11, x 12, x 13, x 14, x 15, x 16, x 17, x 18, x 19, x 20, x 21, x 22, x 23, x 24, x 25, x 26, x 27, x 28, x 29, x 30, x 31, x 32, x 33, x 34, x 35, x 36, x 37, x 38, x 39, x 40, x 41, x 42, x 43, x 44, x 45, x 46, x 47, x 48, x 49, x 50, x 51, x 52, x 53, x 54, x 55, x 56, x 57, x 58, x 59, x 60, x 61, x 62, x 63, x 64, x 65, x 66, x 67, x 68, x 69, x 70, x 71, x 72, x 73, x 74, x 75, x 76, x 77, .int .i64 ino, x 79, x 80, x 81, x 82, x 83, x 84, x 85, x 86, x 87, x 88, x 89, x 90, x 91, x 92, x 93, x 94, x 95, x 96, x 97, x 98, x 99, x 100, x 101, x 102, x 103, x 104, x 105, x 106, x 107, x 108, x 109, x 110, x 111, x 112, x 113, x 114, x 115, x 116, x 117, x 118, x 119, x 120, x 121, x 122, x 123, x 124, x 125, x 126, x 127, x 128, x 129, x 130, x 131, x 132, x 133, x 134, x 135, x 136, x 137, x 138, x 139, x 140, x 141, x 142, x 143, x 144, x 145, x 146, x 147, x 148, x 149, x 150], defers := [] } wa := hK _ _ hW trivial (fun _ => fun _ => rfl)
                  rw [p14] at hk
                  exact hk
                · -- operation 16
                  simp only [List.getElem?_toArray, List.getElem?_cons_succ, List.getElem?_cons_zero, Option.some.injEq] at ho
                  subst ho
                  have hg : x 69 = .bool true := hgd 6 true rfl
                  have p6 : (e1 = false → (x 69) = .bool z) ∧ (e1 = true → (x 69) = undef) := hdep 6 (List.mem_of_elem_eq_true (by kernel_rfl))
                  have p13 : e1 = false → z = true → (x 76) = .int .i64 s := hdep 13 (List.mem_of_elem_eq_true (by kernel_rfl))
                  have p15 : e1 = false → z = true → (x 78) = .int .i64 ino := hdep 15 (List.mem_of_elem_eq_true (by kernel_rfl))
                  clear hdep hgd
                  have hq1 : e1 = false := by
                    cases hE : (e1) with
                    | false => rfl
                    | true => rw [p6.2 hE] at hg; cases hg
                  have hq2 : z = true := by
                    have h := p6.1 hq1
                    rw [h] at hg
                    injection hg
                  clear hg p6
                  replace p13 := p13 hq1 hq2
                  replace p15 := p15 hq1 hq2
                  have hge := HGE.out
                  unfold fr151
                  rw [p13, p15]
                  go_simp
                  have hk : K { tmps := #[x 0, x 1, x 2, x 3, x 4, x 5, x 6, x 7, x 8, x 9, x 10, x 11, x 12, x 13, x 14, x 15, x 16, x 17, x 18, x 19, x 20, x 21, x 22, x 23, x 24, x 25, x 26, x 27, x 28, x 29, x 30, x 31, x 32, x 33, x 34, x 35, x 36, x 37, x 38, x 39, x 40, x 41, x 42, x 43, x 44, x 45, x 46, x 47, x 48, x 49, x 50, x 51, x 52, x 53, x 54, x 55, x 56, x 57, x 58, x 59, x 60, x 61, x 62, x 63, x 64, x 65, x 66, x 67, x 68, x 69, x 70, x 71, x 72, x 73, x 74, x 75, x 76, x 77, x 78, .bool (!bl), x 80, x 81, x 82, x 83, x 84, x 85, x 86, x 87, x 88, x 89, x 90, x 91, x 92, x 93, x 94, x 95, x 96, x 97, x 98, x 99, x 100, x 101, x 102, x 103, x 104, x 105, x 106, x 107, x 108, x 109, x 110, x 111, x 112, x 113, x 114, x 115, x 116, x 117, x 118, x 119, x 120, x 121, x 122, x 123, x 124, x 125, x 126, x 127, x 128, x 129, x 130, x 131, x 132, x 133, x 134, x 135, x 136, x 137, x 138, x 139, x 140, x 141, x 142, x 143, x 144, x 145, x 146, x 147, x 148, x 149, x 150], defers := [] } wa := hK _ _ hW trivial (fun _ => fun _ => rfl)
                  rw [p13, p15] at hk
                  exact hk
                · -- operation 17
                  simp only [List.getElem?_toArray, List.getElem?_cons_succ, List.getElem?_cons_zero, Option.some.injEq] at ho
                  subst ho
                  have hg : x 66 = .bool false := hgd 3 false rfl
                  have p3 : (x 66) = .bool e1 := hdep 3 (List.mem_of_elem_eq_true (by kernel_rfl))
                  have p6 : (e1 = false → (x 69) = .bool z) ∧ (e1 = true → (x 69) = undef) := hdep 6 (List.mem_of_elem_eq_true (by kernel_rfl))
                  have p16 : e1 = false → z = true → (x 79) = .bool (!bl) := hdep 16 (List.mem_of_elem_eq_true (by kernel_rfl))
                  clear hdep hgd
                  have hg1 := p3
                  rw [hg1] at hg
                  injection hg with hq1
                  clear hg1
                  clear p3
                  replace p6 := p6.1 hq1
                  rcases Bool.eq_false_or_eq_true z with hz | hz
                  · replace p16 := p16 hq1 hz
                    rw [hz] at p6
                    unfold fr151
                    rw [p6, p16]
                    have hk : K { tmps := #[x 0, x 1, x 2, x 3, x 4, x 5, x 6, x 7, x 8, x 9, x 10, x 11, x 12, x 13, x 14, x 15, x 16, x 17, x 18, x 19, x 20, x 21, x 22, x 23, x 24, x 25, x 26, x 27, x 28, x 29, x 30, x 31, x 32, x 33, x 34, x 35, x 36, x 37, x 38, x 39, x 40, x 41, x 42, x 43, x 44, x 45, x 46, x 47, x 48, x 49, x 50, x 51, x 52, x 53, x 54, x 55, x 56, x 57, x 58, x 59, x 60, x 61, x 62, x 63, x 64, x 65, x 66, x 67, x 68, x 69, x 70, x 71, x 72, x 73, x 74, x 75, x 76, x 77, x 78, x 79, .bool (!bl), x 81, x 82, x 83, x 84, x 85, x 86, x 87, x 88, x 89, x 90, x 91, x 92, x 93, x 94, x 95, x 96, x 97, x 98, x 99, x 100, x 101, x 102, x 103, x 104, x 105, x 106, x 107, x 108, x 109, x 110, x 111, x 112, x 113, x 114, x 115, x 116, x 117, x 118, x 119, x 120, x 121, x 122, x 123, x 124, x 125, x 126, x 127, x 128, x 129, x 130, x 131, x 132, x 133, x 134, x 135, x 136, x 137, x 138, x 139, x 140, x 141, x 142, x 143, x 144, x 145, x 146, x 147, x 148, x 149, x 150], defers := [] } wa := hK _ _ hW trivial (fun _ => by rw [hz]; rfl)
                    rw [p6, p16] at hk
                    clear p6 p16 hz
                    go_simp
                    exact hk
                  · rw [hz] at p6
                    clear p16
                    unfold fr151
                    rw [p6]
                    have hk : K { tmps := #[x 0, x 1, x 2, x 3, x 4, x 5, x 6, x 7, x 8, x 9, x 10, x 11, x 12, x 13, x 14, x 15, x 16, x 17, x 18, x 19, x 20, x 21, x 22, x 23, x 24, x 25, x 26, x 27, x 28, x 29, x 30, x 31, x 32, x 33, x 34, x 35, x 36, x 37, x 38, x 39, x 40, x 41, x 42, x 43, x 44, x 45, x 46, x 47, x 48, x 49, x 50, x 51, x 52, x 53, x 54, x 55, x 56, x 57, x 58, x 59, x 60, x 61, x 62, x 63, x 64, x 65, x 66, x 67, x 68, x 69, x 70, x 71, x 72, x 73, x 74, x 75, x 76, x 77, x 78, x 79, .bool false, x 81, x 82, x 83, x 84, x 85, x 86, x 87, x 88, x 89, x 90, x 91, x 92, x 93, x 94, x 95, x 96, x 97, x 98, x 99, x 100, x 101, x 102, x 103, x 104, x 105, x 106, x 107, x 108, x 109, x 110, x 111, x 112, x 113, x 114, x 115, x 116, x 117, x 118, x 119, x 120, x 121, x 122, x 123, x 124, x 125, x 126, x 127, x 128, x 129, x 130, x 131, x 132, x 133, x 134, x 135, x 136, x 137, x 138, x 139, x 140, x 141, x 142, x 143, x 144, x 145, x 146, x 147, x 148, x 149, x 150], defers := [] } wa := hK _ _ hW trivial (fun _ => by rw [hz]; rfl)
                    rw [p6] at hk
                    clear p6 hz
                    go_simp
                    exact hk
                · -- operation 18
                  simp only [List.getElem?_toArray, List.getElem?_cons_succ, List.getElem?_cons_zero, Option.some.injEq] at ho
                  subst ho
                  have p3 : (x 66) = .bool e1 := hdep 3 (List.mem_of_elem_eq_true (by kernel_rfl))
                  have p17 : e1 = false → (x 80) = .bool (z && !bl) := hdep 17 (List.mem_of_elem_eq_true (by kernel_rfl))
                  clear hdep hgd
                  cases hE : e1 with
                  | false =>
                    replace p17 := p17 hE
                    rw [hE] at p3
                    unfold fr151
                    rw [p3, p17]
                    have hk : K { tmps := #[x 0, x 1, x 2, x 3, x 4, x 5, x 6, x 7, x 8, x 9, x 10, x 11, x 12, x 13, x 14, x 15, x 16, x 17, x 18, x 19, x 20, x 21, x 22, x 23, x 24, x 25, x 26, x 27, x 28, x 29, x 30, x 31, x 32, x 33, x 34, x 35, x 36, x 37, x 38, x 39, x 40, x 41, x 42, x 43, x 44, x 45, x 46, x 47, x 48, x 49, x 50, x 51, x 52, x 53, x 54, x 55, x 56, x 57, x 58, x 59, x 60, x 61, x 62, x 63, x 64, x 65, x 66, x 67, x 68, x 69, x 70, x 71, x 72, x 73, x 74, x 75, x 76, x 77, x 78, x 79, x 80, .bool ((z && !bl)), x 82, x 83, x 84, x 85, x 86, x 87, x 88, x 89, x 90, x 91, x 92, x 93, x 94, x 95, x 96, x 97, x 98, x 99, x 100, x 101, x 102, x 103, x 104, x 105, x 106, x 107, x 108, x 109, x 110, x 111, x 112, x 113, x 114, x 115, x 116, x 117, x 118, x 119, x 120, x 121, x 122, x 123, x 124, x 125, x 126, x 127, x 128, x 129, x 130, x 131, x 132, x 133, x 134, x 135, x 136, x 137, x 138, x 139, x 140, x 141, x 142, x 143, x 144, x 145, x 146, x 147, x 148, x 149, x 150], defers := [] } wa := hK _ _ hW trivial (by rw [hE]; rfl)
                    rw [p3, p17] at hk
                    clear p3 p17 hE
                    go_simp
                    exact hk
                  | true =>
                    rw [hE] at p3
                    clear p17
                    unfold fr151
                    rw [p3]
                    have hk : K { tmps := #[x 0, x 1, x 2, x 3, x 4, x 5, x 6, x 7, x 8, x 9, x 10, x 11, x 12, x 13, x 14, x 15, x 16, x 17, x 18, x 19, x 20, x 21, x 22, x 23, x 24, x 25, x 26, x 27, x 28, x 29, x 30, x 31, x 32, x 33, x 34, x 35, x 36, x 37, x 38, x 39, x 40, x 41, x 42, x 43, x 44, x 45, x 46, x 47, x 48, x 49, x 50, x 51, x 52, x 53, x 54, x 55, x 56, x 57, x 58, x 59, x 60, x 61, x 62, x 63, x 64, x 65, x 66, x 67, x 68, x 69, x 70, x 71, x 72, x 73, x 74, x 75, x 76, x 77, x 78, x 79, x 80, .bool true, x 82, x 83, x 84, x 85, x 86, x 87, x 88, x 89, x 90, x 91, x 92, x 93, x 94, x 95, x 96, x 97, x 98, x 99, x 100, x 101, x 102, x 103, x 104, x 105, x 106, x 107, x 108, x 109, x 110, x 111, x 112, x 113, x 114, x 115, x 116, x 117, x 118, x 119, x 120, x 121, x 122, x 123, x 124, x 125, x 126, x 127, x 128, x 129, x 130, x 131, x 132, x 133, x 134, x 135, x 136, x 137, x 138, x 139, x 140, x 141, x 142, x 143, x 144, x 145, x 146, x 147, x 148, x 149, x 150], defers := [] } wa := hK _ _ hW trivial (by rw [hE]; rfl)
                    rw [p3] at hk
                    clear p3 hE
                    go_simp
                    exact hk
                · -- operation 19
                  simp only [List.getElem?_toArray, List.getElem?_cons_succ, List.getElem?_cons_zero, Option.some.injEq] at ho
                  subst ho
                  have p18 : (x 81) = .bool (e1 || (z && !bl)) := hdep 18 (List.mem_of_elem_eq_true (by kernel_rfl))
                  clear hdep hgd
                  unfold fr151
                  rw [p18]
                  go_simp
                  have hk : K { tmps := #[x 0, x 1, x 2, x 3, x 4, x 5, x 6, x 7, x 8, x 9, x 10, x 11, x 12, x 13, x 14, x 15, x 16, x 17, x 18, x 19, x 20, x 21, x 22, x 23, x 24, x 25, x 26, x 27, x 28, x 29, x 30, x 31, x 32, x 33, x 34, x 35, x 36, x 37, x 38, x 39, x 40, x 41, x 42, x 43, x 44, x 45, x 46, x 47, x 48, x 49, x 50, x 51, x 52, x 53, x 54, x 55, x 56, x 57, x 58, x 59, x 60, x 61, x 62, x 63, x 64, x 65, x 66, x 67, x 68, x 69, x 70, x 71, x 72, x 73, x 74, x 75, x 76, x 77, x 78, x 79, x 80, x 81, .bool (e1 || (z && !bl)), x 83, x 84, x 85, x 86, x 87, x 88, x 89, x 90, x 91, x 92, x 93, x 94, x 95, x 96, x 97, x 98, x 99, x 100, x 101, x 102, x 103, x 104, x 105, x 106, x 107, x 108, x 109, x 110, x 111, x 112, x 113, x 114, x 115, x 116, x 117, x 118, x 119, x 120, x 121, x 122, x 123, x 124, x 125, x 126, x 127, x 128, x 129, x 130, x 131, x 132, x 133, x 134, x 135, x 136, x 137, x 138, x 139, x 140, x 141, x 142, x 143, x 144, x 145, x 146, x 147, x 148, x 149, x 150], defers := [] } wa := hK _ _ hW trivial rfl
                  rw [p18] at hk
                  exact hk
                · -- operation 20
                  simp only [List.getElem?_toArray, List.getElem?_cons_succ, List.getElem?_cons_zero, Option.some.injEq] at ho
                  subst ho
                  have hg : x 82 = .bool false := hgd 19 false rfl
                  have p19 : (x 82) = .bool (e1 || (z && !bl)) := hdep 19 (List.mem_of_elem_eq_true (by kernel_rfl))
                  clear hdep hgd
                  have hg1 := p19
                  rw [hg1] at hg
                  injection hg with hq1
                  clear hg1
                  clear p19
                  unfold fr151
                  rw [E6.out]
                  go_simp
                  have hk : K { tmps := #[x 0, x 1, x 2, x 3, x 4, x 5, x 6, x 7, x 8, x 9, x 10, x 11, x 12, x 13, x 14, x 15, x 16, x 17, x 18, x 19, x 20, x 21, x 22, x 23, x 24, x 25, x 26, x 27, x 28, x 29, x 30, x 31, x 32, x 33, x 34, x 35, x 36, x 37, x 38, x 39, x 40, x 41, x 42, x 43, x 44, x 45, x 46, x 47, x 48, x 49, x 50, x 51, x 52, x 53, x 54, x 55, x 56, x 57, x 58, x 59, x 60, x 61, x 62, x 63, x 64, x 65, x 66, x 67, x 68, x 69, x 70, x 71, x 72, x 73, x 74, x 75, x 76, x 77, x 78, x 79, x 80, x 81, x 82, .pointer (some ⟨gn, 1, none⟩), x 84, x 85, x 86, x 87, x 88, x 89, x 90, x 91, x 92, x 93, x 94, x 95, x 96, x 97, x 98, x 99, x 100, x 101, x 102, x 103, x 104, x 105, x 106, x 107, x 108, x 109, x 110, x 111, x 112, x 113, x 114, x 115, x 116, x 117, x 118, x 119, x 120, x 121, x 122, x 123, x 124, x 125, x 126, x 127, x 128, x 129, x 130, x 131, x 132, x 133, x 134, x 135, x 136, x 137, x 138, x 139, x 140, x 141, x 142, x 143, x 144, x 145, x 146, x 147, x 148, x 149, x 150], defers := [] } wa := hK _ _ hW trivial (fun _ => rfl)
                  rw [E6.out] at hk
                  exact hk
                · -- operation 21
                  simp only [List.getElem?_toArray, List.getElem?_cons_succ, List.getElem?_cons_zero, Option.some.injEq] at ho
                  subst ho
                  have hg : x 82 = .bool false := hgd 19 false rfl
                  have p19 : (x 82) = .bool (e1 || (z && !bl)) := hdep 19 (List.mem_of_elem_eq_true (by kernel_rfl))
                  have p20 : (e1 || (z && !bl)) = false → (x 83) = .pointer (some ⟨gn, 1, none⟩) := hdep 20 (List.mem_of_elem_eq_true (by kernel_rfl))
                  clear hdep hgd
                  have hg1 := p19
                  rw [hg1] at hg
                  injection hg with hq1
                  clear hg1
                  clear p19
                  replace p20 := p20 hq1
                  obtain ⟨y0, y1, y2, y3, y4⟩ := (HNB.out.below hW HNB.out.lt).cell5
                  unfold fr151
                  rw [p20]
                  go_simp
                  have hk : K { tmps := #[x 0, x 1, x 2, x 3, x 4, x 5, x 6, x 7, x 8, x 9, x 10, x 11, x 12, x 13, x 14, x 15, x 16, x 17, x 18, x 19, x 20, x 21, x 22, x 23, x 24, x 25, x 26, x 27, x 28, x 29, x 30, x 31, x 32, x 33, x 34, x 35, x 36, x 37, x 38, x 39, x 40, x 41, x 42, x 43, x 44, x 45, x 46, x 47, x 48, x 49, x 50, x 51, x 52, x 53, x 54, x 55, x 56, x 57, x 58, x 59, x 60, x 61, x 62, x 63, x 64, x 65, x 66, x 67, x 68, x 69, x 70, x 71, x 72, x 73, x 74, x 75, x 76, x 77, x 78, x 79, x 80, x 81, x 82, x 83, .slice FA data.length FC, x 85, x 86, x 87, x 88, x 89, x 90, x 91, x 92, x 93, x 94, x 95, x 96, x 97, x 98, x 99, x 100, x 101, x 102, x 103, x 104, x 105, x 106, x 107, x 108, x 109, x 110, x 111, x 112, x 113, x 114, x 115, x 116, x 117, x 118, x 119, x 120, x 121, x 122, x 123, x 124, x 125, x 126, x 127, x 128, x 129, x 130, x 131, x 132, x 133, x 134, x 135, x 136, x 137, x 138, x 139, x 140, x 141, x 142, x 143, x 144, x 145, x 146, x 147, x 148, x 149, x 150], defers := [] } wa := hK _ _ hW trivial (fun _ => rfl)
                  rw [p20] at hk
                  exact hk
                · -- operation 22
                  simp only [List.getElem?_toArray, List.getElem?_cons_succ, List.getElem?_cons_zero, Option.some.injEq] at ho
                  subst ho
                  have hg : x 82 = .bool false := hgd 19 false rfl
                  have p19 : (x 82) = .bool (e1 || (z && !bl)) := hdep 19 (List.mem_of_elem_eq_true (by kernel_rfl))
                  have p21 : (e1 || (z && !bl)) = false → (x 84) = .slice FA data.length FC := hdep 21 (List.mem_of_elem_eq_true (by kernel_rfl))
                  clear hdep hgd
                  have hg1 := p19
                  rw [hg1] at hg
                  injection hg with hq1
                  clear hg1
                  clear p19
                  replace p21 := p21 hq1
                  unfold fr151
                  rw [p21]
                  go_simp
                  have hk : K { tmps := #[x 0, x 1, x 2, x 3, x 4, x 5, x 6, x 7, x 8, x 9, x 10, x 11, x 12, x 13, x 14, x 15, x 16, x 17, x 18, x 19, x 20, x 21, x 22, x 23, x 24, x 25, x 26, x 27, x 28, x 29, x 30, x 31, x 32, x 33, x 34, x 35, x 36, x 37, x 38, x 39, x 40, x 41, x 42, x 43, x 44, x 45, x 46, x 47, x 48, x 49, x 50, x 51, x 52, x 53, x 54, x 55, x 56, x 57, x 58, x 59, x 60, x 61, x 62, x 63, x 64, x 65, x 66, x 67, x 68, x 69, x 70, x 71, x 72, x 73, x 74, x 75, x 76, x 77, x 78, x 79, x 80, x 81, x 82, x 83, x 84, .int .i64 (data.length : Int), x 86, x 87, x 88, x 89, x 90, x 91, x 92, x 93, x 94, x 95, x 96, x 97, x 98, x 99, x 100, x 101, x 102, x 103, x 104, x 105, x 106, x 107, x 108, x 109, x 110, x 111, x 112, x 113, x 114, x 115, x 116, x 117, x 118, x 119, x 120, x 121, x 122, x 123, x 124, x 125, x 126, x 127, x 128, x 129, x 130, x 131, x 132, x 133, x 134, x 135, x 136, x 137, x 138, x 139, x 140, x 141, x 142, x 143, x 144, x 145, x 146, x 147, x 148, x 149, x 150], defers := [] } wa := hK _ _ hW trivial (fun _ => rfl)
                  rw [p21] at hk
                  exact hk
                · -- operation 23
                  simp only [List.getElem?_toArray, List.getElem?_cons_succ, List.getElem?_cons_zero, Option.some.injEq] at ho
                  subst ho
                  have hg : x 82 = .bool false := hgd 19 false rfl
                  have p19 : (x 82) = .bool (e1 || (z && !bl)) := hdep 19 (List.mem_of_elem_eq_true (by kernel_rfl))
                  have p22 : (e1 || (z && !bl)) = false → (x 85) = .int .i64 (data.length : Int) := hdep 22 (List.mem_of_elem_eq_true (by kernel_rfl))
                  clear hdep hgd
                  have hg1 := p19
                  rw [hg1] at hg
                  injection hg with hq1
                  clear hg1
                  clear p19
                  replace p22 := p22 hq1
                  have d2 := HD2.out
                  unfold fr151
                  rw [p22]
                  go_simp
                  have hk : K { tmps := #[x 0, x 1, x 2, x 3, x 4, x 5, x 6, x 7, x 8, x 9, x 10, x 11, x 12, x 13, x 14, x 15, x 16, x 17, x 18, x 19, x 20, x 21, x 22, x 23, x 24, x 25, x 26, x 27, x 28, x 29, x 30, x 31, x 32, x 33, x 34, x 35, x 36, x 37, x 38, x 39, x 40, x 41, x 42, x 43, x 44, x 45, x 46, x 47, x 48, x 49, x 50, x 51, x 52, x 53, x 54, x 55, x 56, x 57, x 58, x 59, x 60, x 61, x 62, x 63, x 64, x 65, x 66, x 67, x 68, x 69, x 70, x 71, x 72, x 73, x 74, x 75, x 76, x 77, x 78, x 79, x 80, x 81, x 82, x 83, x 84, x 85, .bool e2, x 87, x 88, x 89, x 90, x 91, x 92, x 93, x 94, x 95, x 96, x 97, x 98, x 99, x 100, x 101, x 102, x 103, x 104, x 105, x 106, x 107, x 108, x 109, x 110, x 111, x 112, x 113, x 114, x 115, x 116, x 117, x 118, x 119, x 120, x 121, x 122, x 123, x 124, x 125, x 126, x 127, x 128, x 129, x 130, x 131, x 132, x 133, x 134, x 135, x 136, x 137, x 138, x 139, x 140, x 141, x 142, x 143, x 144, x 145, x 146, x 147, x 148, x 149, x 150], defers := [] } wa := hK _ _ hW trivial (fun _ => rfl)
                  rw [p22] at hk
                  exact hk
                · -- operation 24
                  simp only [List.getElem?_toArray, List.getElem?_cons_succ, List.getElem?_cons_zero, Option.some.injEq] at ho
                  subst ho
                  have p19 : (x 82) = .bool (e1 || (z && !bl)) := hdep 19 (List.mem_of_elem_eq_true (by kernel_rfl))
                  have p23 : (e1 || (z && !bl)) = false → (x 86) = .bool e2 := hdep 23 (List.mem_of_elem_eq_true (by kernel_rfl))
                  clear hdep hgd
                  cases hE : (e1 || (z && !bl)) with
                  | false =>
                    replace p23 := p23 hE
                    rw [hE] at p19
                    unfold fr151
                    rw [p19, p23]
                    have hk : K { tmps := #[x 0, x 1, x 2, x 3, x 4, x 5, x 6, x 7, x 8, x 9, x 10, x 11, x 12, x 13, x 14, x 15, x 16, x 17, x 18, x 19, x 20, x 21, x 22, x 23, x 24, x 25, x 26, x 27, x 28, x 29, x 30, x 31, x 32, x 33, x 34, x 35, x 36, x 37, x 38, x 39, x 40, x 41, x 42, x 43, x 44, x 45, x 46, x 47, x 48, x 49, x 50, x 51, x 52, x 53, x 54, x 55, x 56, x 57, x 58, x 59, x 60, x 61, x 62, x 63, x 64, x 65, x 66, x 67, x 68, x 69, x 70, x 71, x 72, x 73, x 74, x 75, x 76, x 77, x 78, x 79, x 80, x 81, x 82, x 83, x 84, x 85, x 86, .bool (e2), x 88, x 89, x 90, x 91, x 92, x 93, x 94, x 95, x 96, x 97, x 98, x 99, x 100, x 101, x 102, x 103, x 104, x 105, x 106, x 107, x 108, x 109, x 110, x 111, x 112, x 113, x 114, x 115, x 116, x 117, x 118, x 119, x 120, x 121, x 122, x 123, x 124, x 125, x 126, x 127, x 128, x 129, x 130, x 131, x 132, x 133, x 134, x 135, x 136, x 137, x 138, x 139, x 140, x 141, x 142, x 143, x 144, x 145, x 146, x 147, x 148, x 149, x 150], defers := [] } wa := hK _ _ hW trivial (by rw [hE]; rfl)
                    rw [p19, p23] at hk
                    clear p19 p23 hE
                    go_simp
                    exact hk
                  | true =>
                    rw [hE] at p19
                    clear p23
                    unfold fr151
                    rw [p19]
                    have hk : K { tmps := #[x 0, x 1, x 2, x 3, x 4, x 5, x 6, x 7, x 8, x 9, x 10, x 11, x 12, x 13, x 14, x 15, x 16, x 17, x 18, x 19, x 20, x 21, x 22, x 23, x 24, x 25, x 26, x 27, x 28, x 29, x 30, x 31, x 32, x 33, x 34, x 35, x 36, x 37, x 38, x 39, x 40, x 41, x 42, x 43, x 44, x 45, x 46, x 47, x 48, x 49, x 50, x 51, x 52, x 53, x 54, x 55, x 56, x 57, x 58, x 59, x 60, x 61, x 62, x 63, x 64, x 65, x 66, x 67, x 68, x 69, x 70, x 71, x 72, x 73, x 74, x 75, x 76, x 77, x 78, x 79, x 80, x 81, x 82, x 83, x 84, x 85, x 86, .bool true, x 88, x 89, x 90, x 91, x 92, x 93, x 94, x 95, x 96, x 97, x 98, x 99, x 100, x 101, x 102, x 103, x 104, x 105, x 106, x 107, x 108, x 109, x 110, x 111, x 112, x 113, x 114, x 115, x 116, x 117, x 118, x 119, x 120, x 121, x 122, x 123, x 124, x 125, x 126, x 127, x 128, x 129, x 130, x 131, x 132, x 133, x 134, x 135, x 136, x 137, x 138, x 139, x 140, x 141, x 142, x 143, x 144, x 145, x 146, x 147, x 148, x 149, x 150], defers := [] } wa := hK _ _ hW trivial (by rw [hE]; rfl)
                    rw [p19] at hk
                    clear p19 hE
                    go_simp
                    exact hk
                · -- operation 25
                  simp only [List.getElem?_toArray, List.getElem?_cons_succ, List.getElem?_cons_zero, Option.some.injEq] at ho
                  subst ho
                  have p24 : (x 87) = .bool (e1 || (z && !bl) || e2) := hdep 24 (List.mem_of_elem_eq_true (by kernel_rfl))
                  clear hdep hgd
                  unfold fr151
                  rw [p24]
                  go_simp
                  have hk : K { tmps := #[x 0, x 1, x 2, x 3, x 4, x 5, x 6, x 7, x 8, x 9, x 10, x 11, x 12, x 13, x 14, x 15, x 16, x 17, x 18, x 19, x 20, x 21, x 22, x 23, x 24, x 25, x 26, x 27, x 28, x 29, x 30, x 31, x 32, x 33, x 34, x 35, x 36, x 37, x 38, x 39, x 40, x 41, x 42, x 43, x 44, x 45, x 46, x 47, x 48, x 49, x 50, x 51, x 52, x 53, x 54, x 55, x 56, x 57, x 58, x 59, x 60, x 61, x 62, x 63, x 64, x 65, x 66, x 67, x 68, x 69, x 70, x 71, x 72, x 73, x 74, x 75, x 76, x 77, x 78, x 79, x 80, x 81, x 82, x 83, x 84, x 85, x 86, x 87, .bool (e1 || (z && !bl) || e2), x 89, x 90, x 91, x 92, x 93, x 94, x 95, x 96, x 97, x 98, x 99, x 100, x 101, x 102, x 103, x 104, x 105, x 106, x 107, x 108, x 109, x 110, x 111, x 112, x 113, x 114, x 115, x 116, x 117, x 118, x 119, x 120, x 121, x 122, x 123, x 124, x 125, x 126, x 127, x 128, x 129, x 130, x 131, x 132, x 133, x 134, x 135, x 136, x 137, x 138, x 139, x 140, x 141, x 142, x 143, x 144, x 145, x 146, x 147, x 148, x 149, x 150], defers := [] } wa := hK _ _ hW trivial rfl
                  rw [p24] at hk
                  exact hk
                · -- operation 26
                  simp only [List.getElem?_toArray, List.getElem?_cons_succ, List.getElem?_cons_zero, Option.some.injEq] at ho
                  subst ho
                  have hg : x 88 = .bool false := hgd 25 false rfl
                  have p25 : (x 88) = .bool (e1 || (z && !bl) || e2) := hdep 25 (List.mem_of_elem_eq_true (by kernel_rfl))
                  clear hdep hgd
                  have hg1 := p25
                  rw [hg1] at hg
                  injection hg with hq1
                  clear hg1
                  clear p25
                  obtain ⟨f0, f1, f2⟩ := (HFb.out.below hW HFb.out.lt).cell3
                  unfold fr151
                  rw [E1.out]
                  go_simp
                  have hk : K { tmps := #[x 0, x 1, x 2, x 3, x 4, x 5, x 6, x 7, x 8, x 9, x 10, x 11, x 12, x 13, x 14, x 15, x 16, x 17, x 18, x 19, x 20, x 21, x 22, x 23, x 24, x 25, x 26, x 27, x 28, x 29, x 30, x 31, x 32, x 33, x 34, x 35, x 36, x 37, x 38, x 39, x 40, x 41, x 42, x 43, x 44, x 45, x 46, x 47, x 48, x 49, x 50, x 51, x 52, x 53, x 54, x 55, x 56, x 57, x 58, x 59, x 60, x 61, x 62, x 63, x 64, x 65, x 66, x 67, x 68, x 69, x 70, x 71, x 72, x 73, x 74, x 75, x 76, x 77, x 78, x 79, x 80, x 81, x 82, x 83, x 84, x 85, x 86, x 87, x 88, .agg #[.slice A1 fs.N.length c1, .slice (some ⟨b, o, none⟩) fs.F.length c2, .slice A3 fs.O.length c3], x 90, x 91, x 92, x 93, x 94, x 95, x 96, x 97, x 98, x 99, x 100, x 101, x 102, x 103, x 104, x 105, x 106, x 107, x 108, x 109, x 110, x 111, x 112, x 113, x 114, x 115, x 116, x 117, x 118, x 119, x 120, x 121, x 122, x 123, x 124, x 125, x 126, x 127, x 128, x 129, x 130, x 131, x 132, x 133, x 134, x 135, x 136, x 137, x 138, x 139, x 140, x 141, x 142, x 143, x 144, x 145, x 146, x 147, x 148, x 149, x 150], defers := [] } wa := hK _ _ hW trivial (fun _ => rfl)
                  rw [E1.out] at hk
                  exact hk
                · -- operation 27
                  simp only [List.getElem?_toArray, List.getElem?_cons_succ, List.getElem?_cons_zero, Option.some.injEq] at ho
                  subst ho
                  have hg : x 88 = .bool false := hgd 25 false rfl
                  have p25 : (x 88) = .bool (e1 || (z && !bl) || e2) := hdep 25 (List.mem_of_elem_eq_true (by kernel_rfl))
                  clear hdep hgd
                  have hg1 := p25
                  rw [hg1] at hg
                  injection hg with hq1
                  clear hg1
                  clear p25
                  unfold fr151
                  rw [E6.out]
                  go_simp
                  have hk : K { tmps := #[x 0, x 1, x 2, x 3, x 4, x 5, x 6, x 7, x 8, x 9, x 10, x 11, x 12, x 13, x 14, x 15, x 16, x 17, x 18, x 19, x 20, x 21, x 22, x 23, x 24, x 25, x 26, x 27, x 28, x 29, x 30, x 31, x 32, x 33, x 34, x 35, x 36, x 37, x 38, x 39, x 40, x 41, x 42, x 43, x 44, x 45, x 46, x 47, x 48, x 49, x 50, x 51, x 52, x 53, x 54, x 55, x 56, x 57, x 58, x 59, x 60, x 61, x 62, x 63, x 64, x 65, x 66, x 67, x 68, x 69, x 70, x 71, x 72, x 73, x 74, x 75, x 76, x 77, x 78, x 79, x 80, x 81, x 82, x 83, x 84, x 85, x 86, x 87, x 88, x 89, .pointer (some ⟨gn, 0, none⟩), x 91, x 92, x 93, x 94, x 95, x 96, x 97, x 98, x 99, x 100, x 101, x 102, x 103, x 104, x 105, x 106, x 107, x 108, x 109, x 110, x 111, x 112, x 113, x 114, x 115, x 116, x 117, x 118, x 119, x 120, x 121, x 122, x 123, x 124, x 125, x 126, x 127, x 128, x 129, x 130, x 131, x 132, x 133, x 134, x 135, x 136, x 137, x 138, x 139, x 140, x 141, x 142, x 143, x 144, x 145, x 146, x 147, x 148, x 149, x 150], defers := [] } wa := hK _ _ hW trivial (fun _ => rfl)
                  rw [E6.out] at hk
                  exact hk
                · -- operation 28
                  simp only [List.getElem?_toArray, List.getElem?_cons_succ, List.getElem?_cons_zero, Option.some.injEq] at ho
                  subst ho
                  have hg : x 88 = .bool false := hgd 25 false rfl
                  have p25 : (x 88) = .bool (e1 || (z && !bl) || e2) := hdep 25 (List.mem_of_elem_eq_true (by kernel_rfl))
                  have p27 : (e1 || (z && !bl) || e2) = false → (x 90) = .pointer (some ⟨gn, 0, none⟩) := hdep 27 (List.mem_of_elem_eq_true (by kernel_rfl))
                  clear hdep hgd
                  have hg1 := p25
                  rw [hg1] at hg
                  injection hg with hq1
                  clear hg1
                  clear p25
                  replace p27 := p27 hq1
                  obtain ⟨y0, y1, y2, y3, y4⟩ := (HNB.out.below hW HNB.out.lt).cell5
                  unfold fr151
                  rw [p27]
                  go_simp
                  have hk : K { tmps := #[x 0, x 1, x 2, x 3, x 4, x 5, x 6, x 7, x 8, x 9, x 10, x 11, x 12, x 13, x 14, x 15, x 16, x 17, x 18, x 19, x 20, x 21, x 22, x 23, x 24, x 25, x 26, x 27, x 28, x 29, x 30, x 31, x 32, x 33, x 34, x 35, x 36, x 37, x 38, x 39, x 40, x 41, x 42, x 43, x 44, x 45, x 46, x 47, x 48, x 49, x 50, x 51, x 52, x 53, x 54, x 55, x 56, x 57, x 58, x 59, x 60, x 61, x 62, x 63, x 64, x 65, x 66, x 67, x 68, x 69, x 70, x 71, x 72, x 73, x 74, x 75, x 76, x 77, x 78, x 79, x 80, x 81, x 82, x 83, x 84, x 85, x 86, x 87, x 88, x 89, x 90, .int .i64 ino, x 92, x 93, x 94, x 95, x 96, x 97, x 98, x 99, x 100, x 101, x 102, x 103, x 104, x 105, x 106, x 107, x 108, x 109, x 110, x 111, x 112, x 113, x 114, x 115, x 116, x 117, x 118, x 119, x 120, x 121, x 122, x 123, x 124, x 125, x 126, x 127, x 128, x 129, x 130, x 131, x 132, x 133, x 134, x 135, x 136, x 137, x 138, x 139, x 140, x 141, x 142, x 143, x 144, x 145, x 146, x 147, x 148, x 149, x 150], defers := [] } wa := hK _ _ hW trivial (fun _ => rfl)
                  rw [p27] at hk
                  exact hk
                · -- operation 29
                  simp only [List.getElem?_toArray, List.getElem?_cons_succ, List.getElem?_cons_zero, Option.some.injEq] at ho
                  subst ho
                  have hg : x 88 = .bool false := hgd 25 false rfl
                  have p25 : (x 88) = .bool (e1 || (z && !bl) || e2) := hdep 25 (List.mem_of_elem_eq_true (by kernel_rfl))
                  have p26 : (e1 || (z && !bl) || e2) = false → (x 89) = .agg #[.slice A1 fs.N.length c1, .slice (some ⟨b, o, none⟩) fs.F.length c2, .slice A3 fs.O.length c3] := hdep 26 (List.mem_of_elem_eq_true (by kernel_rfl))
                  have p28 : (e1 || (z && !bl) || e2) = false → (x 91) = .int .i64 ino := hdep 28 (List.mem_of_elem_eq_true (by kernel_rfl))
                  clear hdep hgd
                  have hg1 := p25
                  rw [hg1] at hg
                  injection hg with hq1
                  clear hg1
                  clear p25
                  replace p26 := p26 hq1
                  replace p28 := p28 hq1
                  unfold fr151
                  rw [p26, p28]
                  go_simp
                  refine (refNamed_any _ _ _ fs ino _ (HTb.out.up hW) HM.out.1).mono ?_
                  rintro e w5 ⟨rfl, hb5⟩
                  rw [HQ.out]
                  have hk : K { tmps := #[x 0, x 1, x 2, x 3, x 4, x 5, x 6, x 7, x 8, x 9, x 10, x 11, x 12, x 13, x 14, x 15, x 16, x 17, x 18, x 19, x 20, x 21, x 22, x 23, x 24, x 25, x 26, x 27, x 28, x 29, x 30, x 31, x 32, x 33, x 34, x 35, x 36, x 37, x 38, x 39, x 40, x 41, x 42, x 43, x 44, x 45, x 46, x 47, x 48, x 49, x 50, x 51, x 52, x 53, x 54, x 55, x 56, x 57, x 58, x 59, x 60, x 61, x 62, x 63, x 64, x 65, x 66, x 67, x 68, x 69, x 70, x 71, x 72, x 73, x 74, x 75, x 76, x 77, x 78, x 79, x 80, x 81, x 82, x 83, x 84, x 85, x 86, x 87, x 88, x 89, x 90, x 91, .bool q, x 93, x 94, x 95, x 96, x 97, x 98, x 99, x 100, x 101, x 102, x 103, x 104, x 105, x 106, x 107, x 108, x 109, x 110, x 111, x 112, x 113, x 114, x 115, x 116, x 117, x 118, x 119, x 120, x 121, x 122, x 123, x 124, x 125, x 126, x 127, x 128, x 129, x 130, x 131, x 132, x 133, x 134, x 135, x 136, x 137, x 138, x 139, x 140, x 141, x 142, x 143, x 144, x 145, x 146, x 147, x 148, x 149, x 150], defers := [] } w5 := hK _ _ (bchain hW hb5) trivial (fun _ => rfl)
                  rw [p26, p28] at hk
                  exact hk
                · -- operation 30
                  simp only [List.getElem?_toArray, List.getElem?_cons_succ, List.getElem?_cons_zero, Option.some.injEq] at ho
                  subst ho
                  have hg : x 88 = .bool false := hgd 25 false rfl
                  have p25 : (x 88) = .bool (e1 || (z && !bl) || e2) := hdep 25 (List.mem_of_elem_eq_true (by kernel_rfl))
                  have p29 : (e1 || (z && !bl) || e2) = false → (x 92) = .bool q := hdep 29 (List.mem_of_elem_eq_true (by kernel_rfl))
                  clear hdep hgd
                  have hg1 := p25
                  rw [hg1] at hg
                  injection hg with hq1
                  clear hg1
                  clear p25
                  replace p29 := p29 hq1
                  unfold fr151
                  rw [p29]
                  go_simp
                  have hk : K { tmps := #[x 0, x 1, x 2, x 3, x 4, x 5, x 6, x 7, x 8, x 9, x 10, x 11, x 12, x 13, x 14, x 15, x 16, x 17, x 18, x 19, x 20, x 21, x 22, x 23, x 24, x 25, x 26, x 27, x 28, x 29, x 30, x 31, x 32, x 33, x 34, x 35, x 36, x 37, x 38, x 39, x 40, x 41, x 42, x 43, x 44, x 45, x 46, x 47, x 48, x 49, x 50, x 51, x 52, x 53, x 54, x 55, x 56, x 57, x 58, x 59, x 60, x 61, x 62, x 63, x 64, x 65, x 66, x 67, x 68, x 69, x 70, x 71, x 72, x 73, x 74, x 75, x 76, x 77, x 78, x 79, x 80, x 81, x 82, x 83, x 84, x 85, x 86, x 87, x 88, x 89, x 90, x 91, x 92, .bool (!q), x 94, x 95, x 96, x 97, x 98, x 99, x 100, x 101, x 102, x 103, x 104, x 105, x 106, x 107, x 108, x 109, x 110, x 111, x 112, x 113, x 114, x 115, x 116, x 117, x 118, x 119, x 120, x 121, x 122, x 123, x 124, x 125, x 126, x 127, x 128, x 129, x 130, x 131, x 132, x 133, x 134, x 135, x 136, x 137, x 138, x 139, x 140, x 141, x 142, x 143, x 144, x 145, x 146, x 147, x 148, x 149, x 150], defers := [] } wa := hK _ _ hW trivial (fun _ => rfl)
                  rw [p29] at hk
                  exact hk
                · -- operation 31
                  simp only [List.getElem?_toArray, List.getElem?_cons_succ, List.getElem?_cons_zero, Option.some.injEq] at ho
                  subst ho
                  have hg : x 88 = .bool false := hgd 25 false rfl
                  have p25 : (x 88) = .bool (e1 || (z && !bl) || e2) := hdep 25 (List.mem_of_elem_eq_true (by kernel_rfl))
                  have p30 : (e1 || (z && !bl) || e2) = false → (x 93) = .bool (!q) := hdep 30 (List.mem_of_elem_eq_true (by kernel_rfl))
                  clear hdep hgd
                  have hg1 := p25
                  rw [hg1] at hg
                  injection hg with hq1
                  clear hg1
                  clear p25
                  replace p30 := p30 hq1
                  unfold fr151
                  rw [p30]
                  go_simp
                  have hk : K { tmps := #[x 0, x 1, x 2, x 3, x 4, x 5, x 6, x 7, x 8, x 9, x 10, x 11, x 12, x 13, x 14, x 15, x 16, x 17, x 18, x 19, x 20, x 21, x 22, x 23, x 24, x 25, x 26, x 27, x 28, x 29, x 30, x 31, x 32, x 33, x 34, x 35, x 36, x 37, x 38, x 39, x 40, x 41, x 42, x 43, x 44, x 45, x 46, x 47, x 48, x 49, x 50, x 51, x 52, x 53, x 54, x 55, x 56, x 57, x 58, x 59, x 60, x 61, x 62, x 63, x 64, x 65, x 66, x 67, x 68, x 69, x 70, x 71, x 72, x 73, x 74, x 75, x 76, x 77, x 78, x 79, x 80, x 81, x 82, x 83, x 84, x 85, x 86, x 87, x 88, x 89, x 90, x 91, x 92, x 93, .bool (!q), x 95, x 96, x 97, x 98, x 99, x 100, x 101, x 102, x 103, x 104, x 105, x 106, x 107, x 108, x 109, x 110, x 111, x 112, x 113, x 114, x 115, x 116, x 117, x 118, x 119, x 120, x 121, x 122, x 123, x 124, x 125, x 126, x 127, x 128, x 129, x 130, x 131, x 132, x 133, x 134, x 135, x 136, x 137, x 138, x 139, x 140, x 141, x 142, x 143, x 144, x 145, x 146, x 147, x 148, x 149, x 150], defers := [] } wa := hK _ _ hW trivial ⟨fun _ => rfl, fun h => by rw [hq1] at h; cases h⟩
                  rw [p30] at hk
                  exact hk
                · -- operation 32
                  simp only [List.getElem?_toArray, List.getElem?_cons_succ, List.getElem?_cons_zero, Option.some.injEq] at ho
                  subst ho
                  have hg : x 94 = .bool true := hgd 31 true rfl
                  have p31 : ((e1 || (z && !bl) || e2) = false → (x 94) = .bool (!q)) ∧ ((e1 || (z && !bl) || e2) = true → (x 94) = undef) := hdep 31 (List.mem_of_elem_eq_true (by kernel_rfl))
                  clear hdep hgd
                  have hq1 : (e1 || (z && !bl) || e2) = false := by
                    cases hE : ((e1 || (z && !bl) || e2)) with
                    | false => rfl
                    | true => rw [p31.2 hE] at hg; cases hg
                  have hq2 : (!q) = true := by
                    have h := p31.1 hq1
                    rw [h] at hg
                    injection hg
                  clear hg p31
                  obtain ⟨f0, f1, f2⟩ := (HFb.out.below hW HFb.out.lt).cell3
                  unfold fr151
                  rw [E1.out]
                  go_simp
                  have hk : K { tmps := #[x 0, x 1, x 2, x 3, x 4, x 5, x 6, x 7, x 8, x 9, x 10, x 11, x 12, x 13, x 14, x 15, x 16, x 17, x 18, x 19, x 20, x 21, x 22, x 23, x 24, x 25, x 26, x 27, x 28, x 29, x 30, x 31, x 32, x 33, x 34, x 35, x 36, x 37, x 38, x 39, x 40, x 41, x 42, x 43, x 44, x 45, x 46, x 47, x 48, x 49, x 50, x 51, x 52, x 53, x 54, x 55, x 56, x 57, x 58, x 59, x 60, x 61, x 62, x 63, x 64, x 65, x 66, x 67, x 68, x 69, x 70, x 71, x 72, x 73, x 74, x 75, x 76, x 77, x 78, x 79, x 80, x 81, x 82, x 83, x 84, x 85, x 86, x 87, x 88, x 89, x 90, x 91, x 92, x 93, x 94, .agg #[.slice A1 fs.N.length c1, .slice (some ⟨b, o, none⟩) fs.F.length c2, .slice A3 fs.O.length c3], x 96, x 97, x 98, x 99, x 100, x 101, x 102, x 103, x 104, x 105, x 106, x 107, x 108, x 109, x 110, x 111, x 112, x 113, x 114, x 115, x 116, x 117, x 118, x 119, x 120, x 121, x 122, x 123, x 124, x 125, x 126, x 127, x 128, x 129, x 130, x 131, x 132, x 133, x 134, x 135, x 136, x 137, x 138, x 139, x 140, x 141, x 142, x 143, x 144, x 145, x 146, x 147, x 148, x 149, x 150], defers := [] } wa := hK _ _ hW trivial (fun _ => fun _ => rfl)
                  rw [E1.out] at hk
                  exact hk
                · -- operation 33
                  simp only [List.getElem?_toArray, List.getElem?_cons_succ, List.getElem?_cons_zero, Option.some.injEq] at ho
                  subst ho
                  have hg : x 94 = .bool true := hgd 31 true rfl
                  have p31 : ((e1 || (z && !bl) || e2) = false → (x 94) = .bool (!q)) ∧ ((e1 || (z && !bl) || e2) = true → (x 94) = undef) := hdep 31 (List.mem_of_elem_eq_true (by kernel_rfl))
                  clear hdep hgd
                  have hq1 : (e1 || (z && !bl) || e2) = false := by
                    cases hE : ((e1 || (z && !bl) || e2)) with
                    | false => rfl
                    | true => rw [p31.2 hE] at hg; cases hg
                  have hq2 : (!q) = true := by
                    have h := p31.1 hq1
                    rw [h] at hg
                    injection hg
                  clear hg p31
                  unfold fr151
                  rw [E6.out]
                  go_simp
                  have hk : K { tmps := #[x 0, x 1, x 2, x 3, x 4, x 5, x 6, x 7, x 8, x 9, x 10, x 11, x 12, x 13, x 14, x 15, x 16, x 17, x 18, x 19, x 20, x 21, x 22, x 23, x 24, x 25, x 26, x 27, x 28, x 29, x 30, x 31, x 32, x 33, x 34, x 35, x 36, x 37, x 38, x 39, x 40, x 41, x 42, x 43, x 44, x 45, x 46, x 47, x 48, x 49, x 50, x 51, x 52, x 53, x 54, x 55, x 56, x 57, x 58, x 59, x 60, x 61, x 62, x 63, x 64, x 65, x 66, x 67, x 68, x 69, x 70, x 71, x 72, x 73, x 74, x 75, x 76, x 77, x 78, x 79, x 80, x 81, x 82, x 83, x 84, x 85, x 86, x 87, x 88, x 89, x 90, x 91, x 92, x 93, x 94, x 95, .pointer (some ⟨gn, 0, none⟩), x 97, x 98, x 99, x 100, x 101, x 102, x 103, x 104, x 105, x 106, x 107, x 108, x 109, x 110, x 111, x 112, x 113, x 114, x 115, x 116, x 117, x 118, x 119, x 120, x 121, x 122, x 123, x 124, x 125, x 126, x 127, x 128, x 129, x 130, x 131, x 132, x 133, x 134, x 135, x 136, x 137, x 138, x 139, x 140, x 141, x 142, x 143, x 144, x 145, x 146, x 147, x 148, x 149, x 150], defers := [] } wa := hK _ _ hW trivial (fun _ => fun _ => rfl)
                  rw [E6.out] at hk
                  exact hk
                · -- operation 34
                  simp only [List.getElem?_toArray, List.getElem?_cons_succ, List.getElem?_cons_zero, Option.some.injEq] at ho
                  subst ho
                  have hg : x 94 = .bool true := hgd 31 true rfl
                  have p31 : ((e1 || (z && !bl) || e2) = false → (x 94) = .bool (!q)) ∧ ((e1 || (z && !bl) || e2) = true → (x 94) = undef) := hdep 31 (List.mem_of_elem_eq_true (by kernel_rfl))
                  have p33 : (e1 || (z && !bl) || e2) = false → (!q) = true → (x 96) = .pointer (some ⟨gn, 0, none⟩) := hdep 33 (List.mem_of_elem_eq_true (by kernel_rfl))
                  clear hdep hgd
                  have hq1 : (e1 || (z && !bl) || e2) = false := by
                    cases hE : ((e1 || (z && !bl) || e2)) with
                    | false => rfl
                    | true => rw [p31.2 hE] at hg; cases hg
                  have hq2 : (!q) = true := by
                    have h := p31.1 hq1
                    rw [h] at hg
                    injection hg
                  clear hg p31
                  replace p33 := p33 hq1 hq2
                  obtain ⟨y0, y1, y2, y3, y4⟩ := (HNB.out.below hW HNB.out.lt).cell5
                  unfold fr151
                  rw [p33]
                  go_simp
                  have hk : K { tmps := #[x 0, x 1, x 2, x 3, x 4, x 5, x 6, x 7, x 8, x 9, x 10, x 11, x 12, x 13, x 14, x 15, x 16, x 17, x 18, x 19, x 20, x 21, x 22, x 23, x 24, x 25, x 26, x 27, x 28, x 29, x 30, x 31, x 32, x 33, x 34, x 35, x 36, x 37, x 38, x 39, x 40, x 41, x 42, x 43, x 44, x 45, x 46, x 47, x 48, x 49, x 50, x 51, x 52, x 53, x 54, x 55, x 56, x 57, x 58, x 59, x 60, x 61, x 62, x 63, x 64, x 65, x 66, x 67, x 68, x 69, x 70, x 71, x 72, x 73, x 74, x 75, x 76, x 77, x 78, x 79, x 80, x 81, x 82, x 83, x 84, x 85, x 86, x 87, x 88, x 89, x 90, x 91, x 92, x 93, x 94, x 95, x 96, .int .i64 ino, x 98, x 99, x 100, x 101, x 102, x 103, x 104, x 105, x 106, x 107, x 108, x 109, x 110, x 111, x 112, x 113, x 114, x 115, x 116, x 117, x 118, x 119, x 120, x 121, x 122, x 123, x 124, x 125, x 126, x 127, x 128, x 129, x 130, x 131, x 132, x 133, x 134, x 135, x 136, x 137, x 138, x 139, x 140, x 141, x 142, x 143, x 144, x 145, x 146, x 147, x 148, x 149, x 150], defers := [] } wa := hK _ _ hW trivial (fun _ => fun _ => rfl)
                  rw [p33] at hk
                  exact hk
                · -- operation 35
                  simp only [List.getElem?_toArray, List.getElem?_cons_succ, List.getElem?_cons_zero, Option.some.injEq] at ho
                  subst ho
                  have hg : x 94 = .bool true := hgd 31 true rfl
                  have p31 : ((e1 || (z && !bl) || e2) = false → (x 94) = .bool (!q)) ∧ ((e1 || (z && !bl) || e2) = true → (x 94) = undef) := hdep 31 (List.mem_of_elem_eq_true (by kernel_rfl))
                  have p32 : (e1 || (z && !bl) || e2) = false → (!q) = true → (x 95) = .agg #[.slice A1 fs.N.length c1, .slice (some ⟨b, o, none⟩) fs.F.length c2, .slice A3 fs.O.length c3] := hdep 32 (List.mem_of_elem_eq_true (by kernel_rfl))
                  have p34 : (e1 || (z && !bl) || e2) = false → (!q) = true → (x 97) = .int .i64 ino := hdep 34 (List.mem_of_elem_eq_true (by kernel_rfl))
                  clear hdep hgd
                  have hq1 : (e1 || (z && !bl) || e2) = false := by
                    cases hE : ((e1 || (z && !bl) || e2)) with
                    | false => rfl
                    | true => rw [p31.2 hE] at hg; cases hg
                  have hq2 : (!q) = true := by
                    have h := p31.1 hq1
                    rw [h] at hg
                    injection hg
                  clear hg p31
                  replace p32 := p32 hq1 hq2
                  replace p34 := p34 hq1 hq2
                  unfold fr151
                  rw [p32, p34]
                  go_simp
                  refine (refHeld_any _ _ _ fs ino _ (HTb.out.up hW) HM.out.2.2).mono ?_
                  rintro e w5 ⟨rfl, hb5⟩
                  rw [HH.out]
                  have hk : K { tmps := #[x 0, x 1, x 2, x 3, x 4, x 5, x 6, x 7, x 8, x 9, x 10, x 11, x 12, x 13, x 14, x 15, x 16, x 17, x 18, x 19, x 20, x 21, x 22, x 23, x 24, x 25, x 26, x 27, x 28, x 29, x 30, x 31, x 32, x 33, x 34, x 35, x 36, x 37, x 38, x 39, x 40, x 41, x 42, x 43, x 44, x 45, x 46, x 47, x 48, x 49, x 50, x 51, x 52, x 53, x 54, x 55, x 56, x 57, x 58, x 59, x 60, x 61, x 62, x 63, x 64, x 65, x 66, x 67, x 68, x 69, x 70, x 71, x 72, x 73, x 74, x 75, x 76, x 77, x 78, x 79, x 80, x 81, x 82, x 83, x 84, x 85, x 86, x 87, x 88, x 89, x 90, x 91, x 92, x 93, x 94, x 95, x 96, x 97, .bool hh, x 99, x 100, x 101, x 102, x 103, x 104, x 105, x 106, x 107, x 108, x 109, x 110, x 111, x 112, x 113, x 114, x 115, x 116, x 117, x 118, x 119, x 120, x 121, x 122, x 123, x 124, x 125, x 126, x 127, x 128, x 129, x 130, x 131, x 132, x 133, x 134, x 135, x 136, x 137, x 138, x 139, x 140, x 141, x 142, x 143, x 144, x 145, x 146, x 147, x 148, x 149, x 150], defers := [] } w5 := hK _ _ (bchain hW hb5) trivial (fun _ => fun _ => rfl)
                  rw [p32, p34] at hk
                  exact hk
                · -- operation 36
                  simp only [List.getElem?_toArray, List.getElem?_cons_succ, List.getElem?_cons_zero, Option.some.injEq] at ho
                  subst ho
                  have hg : x 94 = .bool true := hgd 31 true rfl
                  have p31 : ((e1 || (z && !bl) || e2) = false → (x 94) = .bool (!q)) ∧ ((e1 || (z && !bl) || e2) = true → (x 94) = undef) := hdep 31 (List.mem_of_elem_eq_true (by kernel_rfl))
                  have p35 : (e1 || (z && !bl) || e2) = false → (!q) = true → (x 98) = .bool hh := hdep 35 (List.mem_of_elem_eq_true (by kernel_rfl))
                  clear hdep hgd
                  have hq1 : (e1 || (z && !bl) || e2) = false := by
                    cases hE : ((e1 || (z && !bl) || e2)) with
                    | false => rfl
                    | true => rw [p31.2 hE] at hg; cases hg
                  have hq2 : (!q) = true := by
                    have h := p31.1 hq1
                    rw [h] at hg
                    injection hg
                  clear hg p31
                  replace p35 := p35 hq1 hq2
                  unfold fr151
                  rw [p35]
                  go_simp
                  have hk : K { tmps := #[x 0, x 1, x 2, x 3, x 4, x 5, x 6, x 7, x 8, x 9, x 10, x 11, x 12, x 13, x 14, x 15, x 16, x 17, x 18, x 19, x 20, x 21, x 22, x 23, x 24, x 25, x 26, x 27, x 28, x 29, x 30, x 31, x 32, x 33, x 34, x 35, x 36, x 37, x 38, x 39, x 40, x 41, x 42, x 43, x 44, x 45, x 46, x 47, x 48, x 49, x 50, x 51, x 52, x 53, x 54, x 55, x 56, x 57, x 58, x 59, x 60, x 61, x 62, x 63, x 64, x 65, x 66, x 67, x 68, x 69, x 70, x 71, x 72, x 73, x 74, x 75, x 76, x 77, x 78, x 79, x 80, x 81, x 82, x 83, x 84, x 85, x 86, x 87, x 88, x 89, x 90, x 91, x 92, x 93, x 94, x 95, x 96, x 97, x 98, .bool (!hh), x 100, x 101, x 102, x 103, x 104, x 105, x 106, x 107, x 108, x 109, x 110, x 111, x 112, x 113, x 114, x 115, x 116, x 117, x 118, x 119, x 120, x 121, x 122, x 123, x 124, x 125, x 126, x 127, x 128, x 129, x 130, x 131, x 132, x 133, x 134, x 135, x 136, x 137, x 138, x 139, x 140, x 141, x 142, x 143, x 144, x 145, x 146, x 147, x 148, x 149, x 150], defers := [] } wa := hK _ _ hW trivial (fun _ => fun _ => rfl)
                  rw [p35] at hk
                  exact hk
                · -- operation 37
                  simp only [List.getElem?_toArray, List.getElem?_cons_succ, List.getElem?_cons_zero, Option.some.injEq] at ho
                  subst ho
                  have hg : x 88 = .bool false := hgd 25 false rfl
                  have p25 : (x 88) = .bool (e1 || (z && !bl) || e2) := hdep 25 (List.mem_of_elem_eq_true (by kernel_rfl))
                  have p31 : ((e1 || (z && !bl) || e2) = false → (x 94) = .bool (!q)) ∧ ((e1 || (z && !bl) || e2) = true → (x 94) = undef) := hdep 31 (List.mem_of_elem_eq_true (by kernel_rfl))
                  have p36 : (e1 || (z && !bl) || e2) = false → (!q) = true → (x 99) = .bool (!hh) := hdep 36 (List.mem_of_elem_eq_true (by kernel_rfl))
                  clear hdep hgd
                  have hg1 := p25
                  rw [hg1] at hg
                  injection hg with hq1
                  clear hg1
                  clear p25
                  replace p31 := p31.1 hq1
                  rcases Bool.eq_false_or_eq_true q with hv | hv
                  · rw [hv, Bool.not_true] at p31
                    clear p36
                    unfold fr151
                    rw [p31]
                    have hk : K { tmps := #[x 0, x 1, x 2, x 3, x 4, x 5, x 6, x 7, x 8, x 9, x 10, x 11, x 12, x 13, x 14, x 15, x 16, x 17, x 18, x 19, x 20, x 21, x 22, x 23, x 24, x 25, x 26, x 27, x 28, x 29, x 30, x 31, x 32, x 33, x 34, x 35, x 36, x 37, x 38, x 39, x 40, x 41, x 42, x 43, x 44, x 45, x 46, x 47, x 48, x 49, x 50, x 51, x 52, x 53, x 54, x 55, x 56, x 57, x 58, x 59, x 60, x 61, x 62, x 63, x 64, x 65, x 66, x 67, x 68, x 69, x 70, x 71, x 72, x 73, x 74, x 75, x 76, x 77, x 78, x 79, x 80, x 81, x 82, x 83, x 84, x 85, x 86, x 87, x 88, x 89, x 90, x 91, x 92, x 93, x 94, x 95, x 96, x 97, x 98, x 99, .bool false, x 101, x 102, x 103, x 104, x 105, x 106, x 107, x 108, x 109, x 110, x 111, x 112, x 113, x 114, x 115, x 116, x 117, x 118, x 119, x 120, x 121, x 122, x 123, x 124, x 125, x 126, x 127, x 128, x 129, x 130, x 131, x 132, x 133, x 134, x 135, x 136, x 137, x 138, x 139, x 140, x 141, x 142, x 143, x 144, x 145, x 146, x 147, x 148, x 149, x 150], defers := [] } wa := hK _ _ hW trivial (fun _ => by rw [hv]; rfl)
                    rw [p31] at hk
                    clear p31 hv
                    go_simp
                    exact hk
                  · replace p36 := p36 hq1 (by rw [hv]; rfl)
                    rw [hv, Bool.not_false] at p31
                    unfold fr151
                    rw [p31, p36]
                    have hk : K { tmps := #[x 0, x 1, x 2, x 3, x 4, x 5, x 6, x 7, x 8, x 9, x 10, x 11, x 12, x 13, x 14, x 15, x 16, x 17, x 18, x 19, x 20, x 21, x 22, x 23, x 24, x 25, x 26, x 27, x 28, x 29, x 30, x 31, x 32, x 33, x 34, x 35, x 36, x 37, x 38, x 39, x 40, x 41, x 42, x 43, x 44, x 45, x 46, x 47, x 48, x 49, x 50, x 51, x 52, x 53, x 54, x 55, x 56, x 57, x 58, x 59, x 60, x 61, x 62, x 63, x 64, x 65, x 66, x 67, x 68, x 69, x 70, x 71, x 72, x 73, x 74, x 75, x 76, x 77, x 78, x 79, x 80, x 81, x 82, x 83, x 84, x 85, x 86, x 87, x 88, x 89, x 90, x 91, x 92, x 93, x 94, x 95, x 96, x 97, x 98, x 99, .bool (!hh), x 101, x 102, x 103, x 104, x 105, x 106, x 107, x 108, x 109, x 110, x 111, x 112, x 113, x 114, x 115, x 116, x 117, x 118, x 119, x 120, x 121, x 122, x 123, x 124, x 125, x 126, x 127, x 128, x 129, x 130, x 131, x 132, x 133, x 134, x 135, x 136, x 137, x 138, x 139, x 140, x 141, x 142, x 143, x 144, x 145, x 146, x 147, x 148, x 149, x 150], defers := [] } wa := hK _ _ hW trivial (fun _ => by rw [hv]; rfl)
                    rw [p31, p36] at hk
                    clear p31 p36 hv
                    go_simp
                    exact hk
                · -- operation 38
                  simp only [List.getElem?_toArray, List.getElem?_cons_succ, List.getElem?_cons_zero, Option.some.injEq] at ho
                  subst ho
                  have p25 : (x 88) = .bool (e1 || (z && !bl) || e2) := hdep 25 (List.mem_of_elem_eq_true (by kernel_rfl))
                  have p37 : (e1 || (z && !bl) || e2) = false → (x 100) = .bool (!q && !hh) := hdep 37 (List.mem_of_elem_eq_true (by kernel_rfl))
                  clear hdep hgd
                  cases hE : (e1 || (z && !bl) || e2) with
                  | false =>
                    replace p37 := p37 hE
                    rw [hE] at p25
                    unfold fr151
                    rw [p25, p37]
                    have hk : K { tmps := #[x 0, x 1, x 2, x 3, x 4, x 5, x 6, x 7, x 8, x 9, x 10, x 11, x 12, x 13, x 14, x 15, x 16, x 17, x 18, x 19, x 20, x 21, x 22, x 23, x 24, x 25, x 26, x 27, x 28, x 29, x 30, x 31, x 32, x 33, x 34, x 35, x 36, x 37, x 38, x 39, x 40, x 41, x 42, x 43, x 44, x 45, x 46, x 47, x 48, x 49, x 50, x 51, x 52, x 53, x 54, x 55, x 56, x 57, x 58, x 59, x 60, x 61, x 62, x 63, x 64, x 65, x 66, x 67, x 68, x 69, x 70, x 71, x 72, x 73, x 74, x 75, x 76, x 77, x 78, x 79, x 80, x 81, x 82, x 83, x 84, x 85, x 86, x 87, x 88, x 89, x 90, x 91, x 92, x 93, x 94, x 95, x 96, x 97, x 98, x 99, x 100, .bool (!q && !hh), x 102, x 103, x 104, x 105, x 106, x 107, x 108, x 109, x 110, x 111, x 112, x 113, x 114, x 115, x 116, x 117, x 118, x 119, x 120, x 121, x 122, x 123, x 124, x 125, x 126, x 127, x 128, x 129, x 130, x 131, x 132, x 133, x 134, x 135, x 136, x 137, x 138, x 139, x 140, x 141, x 142, x 143, x 144, x 145, x 146, x 147, x 148, x 149, x 150], defers := [] } wa := hK _ _ hW trivial (by rw [hE]; rfl)
                    rw [p25, p37] at hk
                    clear p25 p37 hE
                    go_simp
                    exact hk
                  | true =>
                    rw [hE] at p25
                    clear p37
                    unfold fr151
                    rw [p25]
                    have hk : K { tmps := #[x 0, x 1, x 2, x 3, x 4, x 5, x 6, x 7, x 8, x 9, x 10, x 11, x 12, x 13, x 14, x 15, x 16, x 17, x 18, x 19, x 20, x 21, x 22, x 23, x 24, x 25, x 26, x 27, x 28, x 29, x 30, x 31, x 32, x 33, x 34, x 35, x 36, x 37, x 38, x 39, x 40, x 41, x 42, x 43, x 44, x 45, x 46, x 47, x 48, x 49, x 50, x 51, x 52, x 53, x 54, x 55, x 56, x 57, x 58, x 59, x 60, x 61, x 62, x 63, x 64, x 65, x 66, x 67, x 68, x 69, x 70, x 71, x 72, x 73, x 74, x 75, x 76, x 77, x 78, x 79, x 80, x 81, x 82, x 83, x 84, x 85, x 86, x 87, x 88, x 89, x 90, x 91, x 92, x 93, x 94, x 95, x 96, x 97, x 98, x 99, x 100, .bool true, x 102, x 103, x 104, x 105, x 106, x 107, x 108, x 109, x 110, x 111, x 112, x 113, x 114, x 115, x 116, x 117, x 118, x 119, x 120, x 121, x 122, x 123, x 124, x 125, x 126, x 127, x 128, x 129, x 130, x 131, x 132, x 133, x 134, x 135, x 136, x 137, x 138, x 139, x 140, x 141, x 142, x 143, x 144, x 145, x 146, x 147, x 148, x 149, x 150], defers := [] } wa := hK _ _ hW trivial (by rw [hE]; rfl)
                    rw [p25] at hk
                    clear p25 hE
                    go_simp
                    exact hk
              case skip =>
                intro i o j b ho hgd x wa hW hdep hne
                have hi : i < 39 := (Array.getElem?_eq_some_iff.1 ho).1
                have hcase : i = 0 ∨ i = 1 ∨ i = 2 ∨ i = 3 ∨ i = 4 ∨ i = 5 ∨ i = 6 ∨ i = 7 ∨ i = 8 ∨ i = 9 ∨ i = 10 ∨ i = 11 ∨ i = 12 ∨ i = 13 ∨ i = 14 ∨ i = 15 ∨ i = 16 ∨ i = 17 ∨ i = 18 ∨ i = 19 ∨ i = 20 ∨ i = 21 ∨ i = 22 ∨ i = 23 ∨ i = 24 ∨ i = 25 ∨ i = 26 ∨ i = 27 ∨ i = 28 ∨ i = 29 ∨ i = 30 ∨ i = 31 ∨ i = 32 ∨ i = 33 ∨ i = 34 ∨ i = 35 ∨ i = 36 ∨ i = 37 ∨ i = 38 := by omega
                rcases hcase with rfl | rfl | rfl | rfl | rfl | rfl | rfl | rfl | rfl | rfl | rfl | rfl | rfl | rfl | rfl | rfl | rfl | rfl | rfl | rfl | rfl | rfl | rfl | rfl | rfl | rfl | rfl | rfl | rfl | rfl | rfl | rfl | rfl | rfl | rfl | rfl | rfl | rfl | rfl
                · simp only [List.getElem?_toArray, List.getElem?_cons_zero, Option.some.injEq] at ho
                  subst ho
                  cases hgd
                · simp only [List.getElem?_toArray, List.getElem?_cons_succ, List.getElem?_cons_zero, Option.some.injEq] at ho
                  subst ho
                  cases hgd
                · simp only [List.getElem?_toArray, List.getElem?_cons_succ, List.getElem?_cons_zero, Option.some.injEq] at ho
                  subst ho
                  cases hgd
                · simp only [List.getElem?_toArray, List.getElem?_cons_succ, List.getElem?_cons_zero, Option.some.injEq] at ho
                  subst ho
                  cases hgd
                · simp only [List.getElem?_toArray, List.getElem?_cons_succ, List.getElem?_cons_zero, Option.some.injEq] at ho
                  subst ho
                  obtain ⟨rfl, rfl⟩ : 3 = j ∧ false = b := by simpa using hgd
                  have p3 : (x 66) = .bool e1 := hdep 3 (List.mem_of_elem_eq_true (by kernel_rfl))
                  exact fun hq => absurd (show x 66 = .bool false by rw [p3, hq]) hne
                · simp only [List.getElem?_toArray, List.getElem?_cons_succ, List.getElem?_cons_zero, Option.some.injEq] at ho
                  subst ho
                  obtain ⟨rfl, rfl⟩ : 3 = j ∧ false = b := by simpa using hgd
                  have p3 : (x 66) = .bool e1 := hdep 3 (List.mem_of_elem_eq_true (by kernel_rfl))
                  exact fun hq => absurd (show x 66 = .bool false by rw [p3, hq]) hne
                · simp only [List.getElem?_toArray, List.getElem?_cons_succ, List.getElem?_cons_zero, Option.some.injEq] at ho
                  subst ho
                  obtain ⟨rfl, rfl⟩ : 3 = j ∧ false = b := by simpa using hgd
                  have p3 : (x 66) = .bool e1 := hdep 3 (List.mem_of_elem_eq_true (by kernel_rfl))
                  exact ⟨fun hq => absurd (show x 66 = .bool false by rw [p3, hq]) hne, fun _ => rfl⟩
                · simp only [List.getElem?_toArray, List.getElem?_cons_succ, List.getElem?_cons_zero, Option.some.injEq] at ho
                  subst ho
                  obtain ⟨rfl, rfl⟩ : 6 = j ∧ true = b := by simpa using hgd
                  have p6 : (e1 = false → (x 69) = .bool z) ∧ (e1 = true → (x 69) = undef) := hdep 6 (List.mem_of_elem_eq_true (by kernel_rfl))
                  exact fun hq hq' => absurd (show x 69 = .bool true by rw [p6.1 hq, hq']) hne
                · simp only [List.getElem?_toArray, List.getElem?_cons_succ, List.getElem?_cons_zero, Option.some.injEq] at ho
                  subst ho
                  obtain ⟨rfl, rfl⟩ : 6 = j ∧ true = b := by simpa using hgd
                  have p6 : (e1 = false → (x 69) = .bool z) ∧ (e1 = true → (x 69) = undef) := hdep 6 (List.mem_of_elem_eq_true (by kernel_rfl))
                  exact fun hq hq' => absurd (show x 69 = .bool true by rw [p6.1 hq, hq']) hne
                · simp only [List.getElem?_toArray, List.getElem?_cons_succ, List.getElem?_cons_zero, Option.some.injEq] at ho
                  subst ho
                  obtain ⟨rfl, rfl⟩ : 6 = j ∧ true = b := by simpa using hgd
                  have p6 : (e1 = false → (x 69) = .bool z) ∧ (e1 = true → (x 69) = undef) := hdep 6 (List.mem_of_elem_eq_true (by kernel_rfl))
                  exact fun hq hq' => absurd (show x 69 = .bool true by rw [p6.1 hq, hq']) hne
                · simp only [List.getElem?_toArray, List.getElem?_cons_succ, List.getElem?_cons_zero, Option.some.injEq] at ho
                  subst ho
                  obtain ⟨rfl, rfl⟩ : 6 = j ∧ true = b := by simpa using hgd
                  have p6 : (e1 = false → (x 69) = .bool z) ∧ (e1 = true → (x 69) = undef) := hdep 6 (List.mem_of_elem_eq_true (by kernel_rfl))
                  exact fun hq hq' => absurd (show x 69 = .bool true by rw [p6.1 hq, hq']) hne
                · simp only [List.getElem?_toArray, List.getElem?_cons_succ, List.getElem?_cons_zero, Option.some.injEq] at ho
                  subst ho
                  obtain ⟨rfl, rfl⟩ : 6 = j ∧ true = b := by simpa using hgd
                  have p6 : (e1 = false → (x 69) = .bool z) ∧ (e1 = true → (x 69) = undef) := hdep 6 (List.mem_of_elem_eq_true (by kernel_rfl))
                  exact fun hq hq' => absurd (show x 69 = .bool true by rw [p6.1 hq, hq']) hne
                · simp only [List.getElem?_toArray, List.getElem?_cons_succ, List.getElem?_cons_zero, Option.some.injEq] at ho
                  subst ho
                  obtain ⟨rfl, rfl⟩ : 6 = j ∧ true = b := by simpa using hgd
                  have p6 : (e1 = false → (x 69) = .bool z) ∧ (e1 = true → (x 69) = undef) := hdep 6 (List.mem_of_elem_eq_true (by kernel_rfl))
                  exact fun hq hq' => absurd (show x 69 = .bool true by rw [p6.1 hq, hq']) hne
                · simp only [List.getElem?_toArray, List.getElem?_cons_succ, List.getElem?_cons_zero, Option.some.injEq] at ho
                  subst ho
                  obtain ⟨rfl, rfl⟩ : 6 = j ∧ true = b := by simpa using hgd
                  have p6 : (e1 = false → (x 69) = .bool z) ∧ (e1 = true → (x 69) = undef) := hdep 6 (List.mem_of_elem_eq_true (by kernel_rfl))
                  exact fun hq hq' => absurd (show x 69 = .bool true by rw [p6.1 hq, hq']) hne
                · simp only [List.getElem?_toArray, List.getElem?_cons_succ, List.getElem?_cons_zero, Option.some.injEq] at ho
                  subst ho
                  obtain ⟨rfl, rfl⟩ : 6 = j ∧ true = b := by simpa using hgd
                  have p6 : (e1 = false → (x 69) = .bool z) ∧ (e1 = true → (x 69) = undef) := hdep 6 (List.mem_of_elem_eq_true (by kernel_rfl))
                  exact fun hq hq' => absurd (show x 69 = .bool true by rw [p6.1 hq, hq']) hne
                · simp only [List.getElem?_toArray, List.getElem?_cons_succ, List.getElem?_cons_zero, Option.some.injEq] at ho
                  subst ho
                  obtain ⟨rfl, rfl⟩ : 6 = j ∧ true = b := by simpa using hgd
                  have p6 : (e1 = false → (x 69) = .bool z) ∧ (e1 = true → (x 69) = undef) := hdep 6 (List.mem_of_elem_eq_true (by kernel_rfl))
                  exact fun hq hq' => absurd (show x 69 = .bool true by rw [p6.1 hq, hq']) hne
                · simp only [List.getElem?_toArray, List.getElem?_cons_succ, List.getElem?_cons_zero, Option.some.injEq] at ho
                  subst ho
                  obtain ⟨rfl, rfl⟩ : 6 = j ∧ true = b := by simpa using hgd
                  have p6 : (e1 = false → (x 69) = .bool z) ∧ (e1 = true → (x 69) = undef) := hdep 6 (List.mem_of_elem_eq_true (by kernel_rfl))
                  exact fun hq hq' => absurd (show x 69 = .bool true by rw [p6.1 hq, hq']) hne
                · simp only [List.getElem?_toArray, List.getElem?_cons_succ, List.getElem?_cons_zero, Option.some.injEq] at ho
                  subst ho
                  obtain ⟨rfl, rfl⟩ : 3 = j ∧ false = b := by simpa using hgd
                  have p3 : (x 66) = .bool e1 := hdep 3 (List.mem_of_elem_eq_true (by kernel_rfl))
                  exact fun hq => absurd (show x 66 = .bool false by rw [p3, hq]) hne
                · simp only [List.getElem?_toArray, List.getElem?_cons_succ, List.getElem?_cons_zero, Option.some.injEq] at ho
                  subst ho
                  cases hgd
                · simp only [List.getElem?_toArray, List.getElem?_cons_succ, List.getElem?_cons_zero, Option.some.injEq] at ho
                  subst ho
                  cases hgd
                · simp only [List.getElem?_toArray, List.getElem?_cons_succ, List.getElem?_cons_zero, Option.some.injEq] at ho
                  subst ho
                  obtain ⟨rfl, rfl⟩ : 19 = j ∧ false = b := by simpa using hgd
                  have p19 : (x 82) = .bool (e1 || (z && !bl)) := hdep 19 (List.mem_of_elem_eq_true (by kernel_rfl))
                  exact fun hq => absurd (show x 82 = .bool false by rw [p19, hq]) hne
                · simp only [List.getElem?_toArray, List.getElem?_cons_succ, List.getElem?_cons_zero, Option.some.injEq] at ho
                  subst ho
                  obtain ⟨rfl, rfl⟩ : 19 = j ∧ false = b := by simpa using hgd
                  have p19 : (x 82) = .bool (e1 || (z && !bl)) := hdep 19 (List.mem_of_elem_eq_true (by kernel_rfl))
                  exact fun hq => absurd (show x 82 = .bool false by rw [p19, hq]) hne
                · simp only [List.getElem?_toArray, List.getElem?_cons_succ, List.getElem?_cons_zero, Option.some.injEq] at ho
                  subst ho
                  obtain ⟨rfl, rfl⟩ : 19 = j ∧ false = b := by simpa using hgd
                  have p19 : (x 82) = .bool (e1 || (z && !bl)) := hdep 19 (List.mem_of_elem_eq_true (by kernel_rfl))
                  exact fun hq => absurd (show x 82 = .bool false by rw [p19, hq]) hne
                · simp only [List.getElem?_toArray, List.getElem?_cons_succ, List.getElem?_cons_zero, Option.some.injEq] at ho
                  subst ho
                  obtain ⟨rfl, rfl⟩ : 19 = j ∧ false = b := by simpa using hgd
                  have p19 : (x 82) = .bool (e1 || (z && !bl)) := hdep 19 (List.mem_of_elem_eq_true (by kernel_rfl))
                  exact fun hq => absurd (show x 82 = .bool false by rw [p19, hq]) hne
                · simp only [List.getElem?_toArray, List.getElem?_cons_succ, List.getElem?_cons_zero, Option.some.injEq] at ho
                  subst ho
                  cases hgd
                · simp only [List.getElem?_toArray, List.getElem?_cons_succ, List.getElem?_cons_zero, Option.some.injEq] at ho
                  subst ho
                  cases hgd
                · simp only [List.getElem?_toArray, List.getElem?_cons_succ, List.getElem?_cons_zero, Option.some.injEq] at ho
                  subst ho
                  obtain ⟨rfl, rfl⟩ : 25 = j ∧ false = b := by simpa using hgd
                  have p25 : (x 88) = .bool (e1 || (z && !bl) || e2) := hdep 25 (List.mem_of_elem_eq_true (by kernel_rfl))
                  exact fun hq => absurd (show x 88 = .bool false by rw [p25, hq]) hne
                · simp only [List.getElem?_toArray, List.getElem?_cons_succ, List.getElem?_cons_zero, Option.some.injEq] at ho
                  subst ho
                  obtain ⟨rfl, rfl⟩ : 25 = j ∧ false = b := by simpa using hgd
                  have p25 : (x 88) = .bool (e1 || (z && !bl) || e2) := hdep 25 (List.mem_of_elem_eq_true (by kernel_rfl))
                  exact fun hq => absurd (show x 88 = .bool false by rw [p25, hq]) hne
                · simp only [List.getElem?_toArray, List.getElem?_cons_succ, List.getElem?_cons_zero, Option.some.injEq] at ho
                  subst ho
                  obtain ⟨rfl, rfl⟩ : 25 = j ∧ false = b := by simpa using hgd
                  have p25 : (x 88) = .bool (e1 || (z && !bl) || e2) := hdep 25 (List.mem_of_elem_eq_true (by kernel_rfl))
                  exact fun hq => absurd (show x 88 = .bool false by rw [p25, hq]) hne
                · simp only [List.getElem?_toArray, List.getElem?_cons_succ, List.getElem?_cons_zero, Option.some.injEq] at ho
                  subst ho
                  obtain ⟨rfl, rfl⟩ : 25 = j ∧ false = b := by simpa using hgd
                  have p25 : (x 88) = .bool (e1 || (z && !bl) || e2) := hdep 25 (List.mem_of_elem_eq_true (by kernel_rfl))
                  exact fun hq => absurd (show x 88 = .bool false by rw [p25, hq]) hne
                · simp only [List.getElem?_toArray, List.getElem?_cons_succ, List.getElem?_cons_zero, Option.some.injEq] at ho
                  subst ho
                  obtain ⟨rfl, rfl⟩ : 25 = j ∧ false = b := by simpa using hgd
                  have p25 : (x 88) = .bool (e1 || (z && !bl) || e2) := hdep 25 (List.mem_of_elem_eq_true (by kernel_rfl))
                  exact fun hq => absurd (show x 88 = .bool false by rw [p25, hq]) hne
                · simp only [List.getElem?_toArray, List.getElem?_cons_succ, List.getElem?_cons_zero, Option.some.injEq] at ho
                  subst ho
                  obtain ⟨rfl, rfl⟩ : 25 = j ∧ false = b := by simpa using hgd
                  have p25 : (x 88) = .bool (e1 || (z && !bl) || e2) := hdep 25 (List.mem_of_elem_eq_true (by kernel_rfl))
                  exact ⟨fun hq => absurd (show x 88 = .bool false by rw [p25, hq]) hne, fun _ => rfl⟩
                · simp only [List.getElem?_toArray, List.getElem?_cons_succ, List.getElem?_cons_zero, Option.some.injEq] at ho
                  subst ho
                  obtain ⟨rfl, rfl⟩ : 31 = j ∧ true = b := by simpa using hgd
                  have p31 : ((e1 || (z && !bl) || e2) = false → (x 94) = .bool (!q)) ∧ ((e1 || (z && !bl) || e2) = true → (x 94) = undef) := hdep 31 (List.mem_of_elem_eq_true (by kernel_rfl))
                  exact fun hq hq' => absurd (show x 94 = .bool true by rw [p31.1 hq, hq']) hne
                · simp only [List.getElem?_toArray, List.getElem?_cons_succ, List.getElem?_cons_zero, Option.some.injEq] at ho
                  subst ho
                  obtain ⟨rfl, rfl⟩ : 31 = j ∧ true = b := by simpa using hgd
                  have p31 : ((e1 || (z && !bl) || e2) = false → (x 94) = .bool (!q)) ∧ ((e1 || (z && !bl) || e2) = true → (x 94) = undef) := hdep 31 (List.mem_of_elem_eq_true (by kernel_rfl))
                  exact fun hq hq' => absurd (show x 94 = .bool true by rw [p31.1 hq, hq']) hne
                · simp only [List.getElem?_toArray, List.getElem?_cons_succ, List.getElem?_cons_zero, Option.some.injEq] at ho
                  subst ho
                  obtain ⟨rfl, rfl⟩ : 31 = j ∧ true = b := by simpa using hgd
                  have p31 : ((e1 || (z && !bl) || e2) = false → (x 94) = .bool (!q)) ∧ ((e1 || (z && !bl) || e2) = true → (x 94) = undef) := hdep 31 (List.mem_of_elem_eq_true (by kernel_rfl))
                  exact fun hq hq' => absurd (show x 94 = .bool true by rw [p31.1 hq, hq']) hne
                · simp only [List.getElem?_toArray, List.getElem?_cons_succ, List.getElem?_cons_zero, Option.some.injEq] at ho
                  subst ho
                  obtain ⟨rfl, rfl⟩ : 31 = j ∧ true = b := by simpa using hgd
                  have p31 : ((e1 || (z && !bl) || e2) = false → (x 94) = .bool (!q)) ∧ ((e1 || (z && !bl) || e2) = true → (x 94) = undef) := hdep 31 (List.mem_of_elem_eq_true (by kernel_rfl))
                  exact fun hq hq' => absurd (show x 94 = .bool true by rw [p31.1 hq, hq']) hne
                · simp only [List.getElem?_toArray, List.getElem?_cons_succ, List.getElem?_cons_zero, Option.some.injEq] at ho
                  subst ho
                  obtain ⟨rfl, rfl⟩ : 31 = j ∧ true = b := by simpa using hgd
                  have p31 : ((e1 || (z && !bl) || e2) = false → (x 94) = .bool (!q)) ∧ ((e1 || (z && !bl) || e2) = true → (x 94) = undef) := hdep 31 (List.mem_of_elem_eq_true (by kernel_rfl))
                  exact fun hq hq' => absurd (show x 94 = .bool true by rw [p31.1 hq, hq']) hne
                · simp only [List.getElem?_toArray, List.getElem?_cons_succ, List.getElem?_cons_zero, Option.some.injEq] at ho
                  subst ho
                  obtain ⟨rfl, rfl⟩ : 25 = j ∧ false = b := by simpa using hgd
                  have p25 : (x 88) = .bool (e1 || (z && !bl) || e2) := hdep 25 (List.mem_of_elem_eq_true (by kernel_rfl))
                  exact fun hq => absurd (show x 88 = .bool false by rw [p25, hq]) hne
                · simp only [List.getElem?_toArray, List.getElem?_cons_succ, List.getElem?_cons_zero, Option.some.injEq] at ho
                  subst ho
                  cases hgd
              case done =>
                intro x wd hout hW hall
                have p38 : x 101 = .bool ((e1 || (z && !bl) || e2) || (!q && !hh)) := hall 38 (by decide)
                clear hall
                unfold fr151
                rw [(hout 0 (by decide)).trans (hx0 0), (hout 1 (by decide)).trans (hx0 1), (hout 2 (by decide)).trans (hx0 2), (hout 3 (by decide)).trans (hx0 3), (hout 4 (by decide)).trans (hx0 4), (hout 5 (by decide)).trans (hx0 5), (hout 6 (by decide)).trans (hx0 6), (hout 7 (by decide)).trans (hx0 7), (hout 8 (by decide)).trans (hx0 8), (hout 9 (by decide)).trans (hx0 9), (hout 10 (by decide)).trans (hx0 10), (hout 11 (by decide)).trans (hx0 11), (hout 12 (by decide)).trans (hx0 12), (hout 13 (by decide)).trans (hx0 13), (hout 14 (by decide)).trans (hx0 14), (hout 15 (by decide)).trans (hx0 15), (hout 16 (by decide)).trans (hx0 16), (hout 17 (by decide)).trans (hx0 17), (hout 18 (by decide)).trans (hx0 18), (hout 19 (by decide)).trans (hx0 19), (hout 20 (by decide)).trans (hx0 20), (hout 21 (by decide)).trans (hx0 21), (hout 22 (by decide)).trans (hx0 22), (hout 23 (by decide)).trans (hx0 23), (hout 24 (by decide)).trans (hx0 24), (hout 25 (by decide)).trans (hx0 25), (hout 26 (by decide)).trans (hx0 26), (hout 27 (by decide)).trans (hx0 27), (hout 28 (by decide)).trans (hx0 28), (hout 29 (by decide)).trans (hx0 29), (hout 30 (by decide)).trans (hx0 30), (hout 31 (by decide)).trans (hx0 31), (hout 32 (by decide)).trans (hx0 32), (hout 33 (by decide)).trans (hx0 33), (hout 34 (by decide)).trans (hx0 34), (hout 35 (by decide)).trans (hx0 35), (hout 36 (by decide)).trans (hx0 36), (hout 37 (by decide)).trans (hx0 37), (hout 38 (by decide)).trans (hx0 38), (hout 39 (by decide)).trans (hx0 39), (hout 40 (by decide)).trans (hx0 40), (hout 41 (by decide)).trans (hx0 41), (hout 42 (by decide)).trans (hx0 42), (hout 43 (by decide)).trans (hx0 43), (hout 44 (by decide)).trans (hx0 44), (hout 45 (by decide)).trans (hx0 45), (hout 46 (by decide)).trans (hx0 46), (hout 47 (by decide)).trans (hx0 47), (hout 48 (by decide)).trans (hx0 48), (hout 49 (by decide)).trans (hx0 49), (hout 50 (by decide)).trans (hx0 50), (hout 51 (by decide)).trans (hx0 51), (hout 52 (by decide)).trans (hx0 52), (hout 53 (by decide)).trans (hx0 53), (hout 54 (by decide)).trans (hx0 54), (hout 55 (by decide)).trans (hx0 55), (hout 56 (by decide)).trans (hx0 56), (hout 57 (by decide)).trans (hx0 57), (hout 58 (by decide)).trans (hx0 58), (hout 59 (by decide)).trans (hx0 59), (hout 60 (by decide)).trans (hx0 60), (hout 61 (by decide)).trans (hx0 61), (hout 62 (by decide)).trans (hx0 62), (hout 102 (by decide)).trans (hx0 102), (hout 103 (by decide)).trans (hx0 103), (hout 104 (by decide)).trans (hx0 104), (hout 105 (by decide)).trans (hx0 105), (hout 106 (by decide)).trans (hx0 106), (hout 107 (by decide)).trans (hx0 107), (hout 108 (by decide)).trans (hx0 108), (hout 109 (by decide)).trans (hx0 109), (hout 110 (by decide)).trans (hx0 110), (hout 111 (by decide)).trans (hx0 111), (hout 112 (by decide)).trans (hx0 112), (hout 113 (by decide)).trans (hx0 113), (hout 114 (by decide)).trans (hx0 114), (hout 115 (by decide)).trans (hx0 115), (hout 116 (by decide)).trans (hx0 116), (hout 117 (by decide)).trans (hx0 117), (hout 118 (by decide)).trans (hx0 118), (hout 119 (by decide)).trans (hx0 119), (hout 120 (by decide)).trans (hx0 120), (hout 121 (by decide)).trans (hx0 121), (hout 122 (by decide)).trans (hx0 122), (hout 123 (by decide)).trans (hx0 123), (hout 124 (by decide)).trans (hx0 124), (hout 125 (by decide)).trans (hx0 125), (hout 126 (by decide)).trans (hx0 126), (hout 127 (by decide)).trans (hx0 127), (hout 128 (by decide)).trans (hx0 128), (hout 129 (by decide)).trans (hx0 129), (hout 130 (by decide)).trans (hx0 130), (hout 131 (by decide)).trans (hx0 131), (hout 132 (by decide)).trans (hx0 132), (hout 133 (by decide)).trans (hx0 133), (hout 134 (by decide)).trans (hx0 134), (hout 135 (by decide)).trans (hx0 135), (hout 136 (by decide)).trans (hx0 136), (hout 137 (by decide)).trans (hx0 137), (hout 138 (by decide)).trans (hx0 138), (hout 139 (by decide)).trans (hx0 139), (hout 140 (by decide)).trans (hx0 140), (hout 141 (by decide)).trans (hx0 141), (hout 142 (by decide)).trans (hx0 142), (hout 143 (by decide)).trans (hx0 143), (hout 144 (by decide)).trans (hx0 144), (hout 145 (by decide)).trans (hx0 145), (hout 146 (by decide)).trans (hx0 146), (hout 147 (by decide)).trans (hx0 147), (hout 148 (by decide)).trans (hx0 148), (hout 149 (by decide)).trans (hx0 149), (hout 150 (by decide)).trans (hx0 150)]
                simp only [Array.getD_eq_getD_getElem?, List.getElem?_toArray, List.getElem?_cons_succ, List.getElem?_cons_zero, Option.getD_some]
                rw [p38]
                clear hout hx0 y1 y5 y6
                go_wp2_with fail
                go_meet
                case rel => exact ⟨rfl, keep hW⟩
            case rest =>
              obtain ⟨rfl, hcb⟩ := hcut
              obtain ⟨wv, rfl⟩ : ∃ wv : World, wv = wc := ⟨_, rfl⟩
              have HBn := keep (HBb.out.trans (hcb.out.mono HBb.out.size))
              have HNv := keep (HNB.out.below hcb.out HNB.out.lt)
              obtain ⟨g, hg⟩ : ∃ g, (e1 || (z && !bl) || e2 || (!q && !hh)) = g := ⟨_, rfl⟩
              rw [hg]
              have HGG := keep hg
              clear hg HFb HTb HNB
              cases g with
              | true =>
                go_wp2_with fail
                go_ret
                exact ⟨false, rfl, ⟨fun h => Bool.noConfusion h, fun h => by
                  have h1 := h.fi _ (List.getElem_mem hlt)
                  rw [HTT.out] at h1
                  have h5 := (HBAD.out.1 h1).1
                  have h2 := HGG.out
                  have hzb : (z && !bl) = false := by
                    rcases Bool.eq_false_or_eq_true z with hz | hz
                    · obtain ⟨hp, hpn⟩ := HPN.out hz
                      have h3 : cfi (fs.F[p + 1]'(by have := HKP.out hz; omega)).ino fs.F[p] < 0 := h.f p (by have := HKP.out hz; omega)
                      have h4 : (fs.F[p + 1]'(by have := HKP.out hz; omega)).ino = ino := by
                        have := congrArg Fi.ino HTT.out
                        have e := HKP.out hz
                        subst e
                        exact this
                      rw [h4, cfi_neg, hpn] at h3
                      have hb : bl = true := by rw [← HBL.out]; exact decide_eq_true h3
                      rw [hb, hz]; rfl
                    · rw [hz]; rfl
                  rw [hzb] at h2
                  revert h2 h5
                  unfold badG
                  cases e1 <;> cases e2 <;> cases q <;> cases hh <;> simp⟩, bchain HB.out HBn.out⟩
              | false =>
                have hva : badG e1 false true e2 q hh = false ∧ (z = true → bl = true) := by
                  have h2 := HGG.out
                  revert h2
                  unfold badG
                  cases e1 <;> cases e2 <;> cases q <;> cases hh <;> cases z <;> cases bl <;> simp
                have HVA := keep hva
                clear hva
                have i2 : (data.length : Int) ≤ 1000000 := HDLL.out
                go_upto_region 15 with fail
                go_cut [131] (fun qv wd => qv = .bool (badH cp wh e5 e6 e7) ∧ wd = wv)
                case first =>
                  obtain ⟨y0, y1, y2, y3, y4⟩ := HNv.out.cell5
                  have d5 := HD5.out
                  have d6 := HD6.out
                  have d7 := HD7.out
                  have d8 := HD8.out
                  clear i2
                  cases cp
                  · cases wh
                    · go_wp2_with fail
                      go_meet
                      case rel => exact ⟨rfl, rfl⟩
                    · cases e5
                      · cases e6
                        · cases e7
                          · go_wp2_with fail
                            go_meet
                            case rel => exact ⟨rfl, rfl⟩
                          · go_wp2_with fail
                            go_meet
                            case rel => exact ⟨rfl, rfl⟩
                        · go_wp2_with fail
                          go_meet
                          case rel => exact ⟨rfl, rfl⟩
                      · go_wp2_with fail
                        go_meet
                        case rel => exact ⟨rfl, rfl⟩
                  · cases wh
                    · cases e5
                      · cases e6
                        · go_wp2_with fail
                          go_meet
                          case rel => exact ⟨rfl, rfl⟩
                        · go_wp2_with fail
                          go_meet
                          case rel => exact ⟨rfl, rfl⟩
                      · go_wp2_with fail
                        go_meet
                        case rel => exact ⟨rfl, rfl⟩
                    · cases e5
                      · cases e6
                        · cases e7
                          · go_wp2_with fail
                            go_meet
                            case rel => exact ⟨rfl, rfl⟩
                          · go_wp2_with fail
                            go_meet
                            case rel => exact ⟨rfl, rfl⟩
                        · go_wp2_with fail
                          go_meet
                          case rel => exact ⟨rfl, rfl⟩
                      · go_wp2_with fail
                        go_meet
                        case rel => exact ⟨rfl, rfl⟩
                case rest =>
                  obtain ⟨rfl, rfl⟩ := hcut
                  obtain ⟨g2, hg2⟩ : ∃ g, badH cp wh e5 e6 e7 = g := ⟨_, rfl⟩
                  rw [hg2]
                  have HG2 := keep hg2
                  clear hg2
                  cases g2 with
                  | true =>
                    go_wp2_with fail
                    go_ret
                    exact ⟨false, rfl, ⟨fun h => Bool.noConfusion h, fun h => by
                      have h1 := h.fi _ (List.getElem_mem hlt)
                      rw [HTT.out] at h1
                      have h5 := (HBAD.out.1 h1).2
                      rw [HG2.out] at h5
                      cases h5⟩, bchain HB.out HBn.out⟩
                  | false =>
                    go_wp2_with fail
                    go_roundw
                    case rel => exact ⟨k + 1, by go_num, by omega, keep (fun j hj hjk => by
                      by_cases e : j = k
                      · subst e
                        rw [HTT.out]
                        exact HBAD.out.2 ⟨HVA.out.1, HG2.out⟩
                      · exact hP.out j hj (by omega)), keep (by
                        rcases Bool.eq_false_or_eq_true z with hz | hz
                        · obtain ⟨hp, hpn⟩ := HPN.out hz
                          have e := HKP.out hz
                          subst e
                          exact hQ.out.step (fun h => by
                            show cfi (fs.F[p + 1]).ino fs.F[p] < 0
                            rw [cfi_neg, hpn]
                            have h6 := congrArg Fi.ino HTT.out
                            exact h6 ▸ of_decide_eq_true (HBL.out.trans (HVA.out.2 hz)))
                        · exact fun i h _ => absurd h (by have := HK0.out hz; omega)), HBn⟩
                    case measure => simp [intOf]; omega
          · obtain rfl : k = fs.F.length := by omega
            have HFI : Hid (∀ t ∈ fs.F, okFile fs t) := keep (fun t ht => by
              obtain ⟨j, hj, rfl⟩ := List.getElem_of_mem ht
              exact hP.out j hj hj)
            have HAF := keep (hQ.out.all (Nat.le_refl _))
            have HBo := keep hBr.out
            have m3 : (fs.O.length : Int) ≤ 1000000 := by have := HM.out.2.2; omega
            clear hP hQ hBr HFo
            go_wp2_with fail
            go_loopw [7] (fun i wr => ∃ k : Nat, i = .int .i64 k ∧ 1 ≤ k ∧ k ≤ 1000001 ∧ Hid (AdjTo cmpI fs.O k) ∧ Hid (Below W.heap.size W wr)) (fun i _ => fs.O.length - (intOf i).toNat)
            case atStart => exact ⟨1, rfl, Nat.le_refl _, by omega, keep (fun i h => absurd h (by omega)), HBo⟩
            case round =>
              clear f0 f1 f2 HBo HTo
              obtain ⟨k, rfl, hk1, hk2, hQ, hBr⟩ := hrel
              obtain ⟨wo, rfl⟩ : ∃ wo : World, wo = wr := ⟨_, rfl⟩
              have HTo := keep (HT.out.up hBr.out)
              obtain ⟨f0, f1, f2⟩ := (HF.out.below hBr.out HF.out.lt).cell3
              by_cases hlt : k < fs.O.length
              · obtain ⟨p, hkp⟩ : ∃ p, k = p + 1 := ⟨k - 1, by omega⟩
                have hp1 : p < fs.O.length := by omega
                obtain ⟨b1, o1, u1, rfl, _, hu1, c0⟩ := HTo.out.o.at_ hp1
                obtain ⟨b2, o2, u2, hA, _, hu2, d0⟩ := HTo.out.o.at_ hlt
                injection hA with hA
                injection hA with q1 q2 _
                subst q1 q2
                obtain ⟨s, hs⟩ : ∃ s, fs.O[p] = s := ⟨_, rfl⟩
                obtain ⟨t, ht⟩ : ∃ t, fs.O[k] = t := ⟨_, rfl⟩
                obtain rfl : u1 = .int .i64 s := by
                  rw [ints, List.getElem?_map, List.getElem?_eq_getElem hp1, hs] at hu1
                  exact (Option.some.inj hu1).symm
                obtain rfl : u2 = .int .i64 t := by
                  rw [ints, List.getElem?_map, List.getElem?_eq_getElem hlt, ht] at hu2
                  exact (Option.some.inj hu2).symm
                have HSS := keep hs
                have HTT := keep ht
                have HKP := keep hkp
                have hw : IntKind.i64.wrap ((k : Int) - 1) = (p : Int) := by rw [IntWalk.i64_in _ (by omega)]; omega
                have p3 : (0 : Int) ≤ (p : Int) := by omega
                have p4 : (p : Int) < (fs.O.length : Int) := by omega
                have i0 : (0 : Int) ≤ (k : Int) := by omega
                have i1 : (k : Int) < (fs.O.length : Int) := by omega
                clear hs ht hu1 hu2 hkp
                by_cases hst : s < t
                · have d : decide (t ≤ s) = false := decide_eq_false (by omega)
                  have HST := keep hst
                  clear hst
                  go_wp2_with fail
                  go_quiet (fail)
                  go_wp2_with fail
                  go_roundw
                  case rel => exact ⟨k + 1, by go_num, by omega, by omega, keep (by
                    have e := HKP.out
                    subst e
                    exact hQ.out.step (fun h => by rw [HSS.out, HTT.out, cmpI_neg]; exact HST.out)), keep (hBr.out.trans (below_drewN (Below.refl _ _) _ |>.mono hBr.out.size))⟩
                  case measure => simp [intOf]; omega
                · have d : decide (t ≤ s) = true := decide_eq_true (by omega)
                  have HST := keep hst
                  clear hst
                  go_wp2_with fail
                  go_quiet (fail)
                  go_wp2_with fail
                  go_ret
                  exact ⟨false, rfl, ⟨fun h => Bool.noConfusion h, fun h => by
                    have h3 := h.o p (by have := HKP.out; omega)
                    have h4 : fs.O[p + 1]'(by have := HKP.out; omega) = t := by
                      have := HTT.out
                      have e := HKP.out
                      subst e
                      exact this
                    rw [h4, HSS.out, cmpI_neg] at h3
                    exact absurd h3 (Int.not_lt.2 HST.out)⟩, bchain HB.out (hBr.out.trans (below_drewN (Below.refl _ _) _ |>.mono hBr.out.size))⟩
              · go_wp2_with fail
                go_ret
                exact ⟨true, rfl, ⟨fun _ => ⟨by have := HN40.out; omega, hQ.out.all (by omega), HAN.out, HAF.out, HNM.out, HFI.out⟩, fun _ => rfl⟩, bchain HB.out hBr.out⟩
end Go.Proofs.YtldopkdjoejhbaaDoor
