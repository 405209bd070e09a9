/- The listed variable: where the row's premise holds, the table of changes lies in memory. -/
import Derived.Test.YtgegmefnbkcdkaaDoorFsDo
import Derived.Test.YtgegmefnbkcdkaaDoorOpen
import Derived.ProofKit
import Derived.LaidMore
import Derived.OpenShut
import Derived.Stop.Joined
namespace Go.Proofs.YtgegmefnbkcdkaaDoor
open Go.ChangeShapes Go.WideShapes Go.ChangeAt Go.RowKit

abbrev laidD : List (String × DataW Unit) := [("logtide/filesystem.changes", Rows.laid_logtide_filesystem_changes)]
theorem gChanges : Tryd.prog.globalNamed "logtide/filesystem.changes" = some 0 := by kernel_rfl
theorem tChanges : (Tryd.prog.globals[0]?).map (·.type) = some 72 := by kernel_rfl
theorem cellsFn : Tryd.prog.cellsOf 71 = 1 := by kernel_rfl
theorem cellsArr : Tryd.prog.cellsOf 72 = 9 := by kernel_rfl

theorem door_met (os : Os) (args : Array Value) : laidMetH Tryd.prog laidD ((World.doorLaid Tryd.prog 400 os).forCall (fun _ _ => 0) ⟨#[], args, []⟩).memory :=
  laidMetH_of_parts3 (fuel := 8) (laidMet_of_run' 8 (by kernel_rfl) (by kernel_rfl)) (by kernel_rfl) (by kernel_rfl)

theorem of_laid {W : World} (h : laidMetH Tryd.prog laidD W) : Chg W := by
  obtain ⟨g, t, cs, fuel, p, hg, ht, hv, hd⟩ := h.funcs (List.mem_singleton.2 rfl)
  obtain rfl := Option.some.inj (gChanges.symm.trans hg)
  obtain rfl := Option.some.inj (tChanges.symm.trans ht)
  have hd' : DataW.trod (funcToken Tryd.prog) Tryd.prog W 0 (fun _ => true) true fuel 72 cs.toList = some (.agg [.nil, .held [40, 42, 108, 111, 103, 116, 105, 100, 101, 47, 102, 105, 108, 101, 115, 121, 115, 116, 101, 109, 46, 100, 105, 114, 101, 99, 116, 111, 114, 121, 41, 46, 99, 114, 101, 97, 116, 101], .held [40, 42, 108, 111, 103, 116, 105, 100, 101, 47, 102, 105, 108, 101, 115, 121, 115, 116, 101, 109, 46, 100, 105, 114, 101, 99, 116, 111, 114, 121, 41, 46, 97, 112, 112, 101, 110, 100], .held [40, 42, 108, 111, 103, 116, 105, 100, 101, 47, 102, 105, 108, 101, 115, 121, 115, 116, 101, 109, 46, 100, 105, 114, 101, 99, 116, 111, 114, 121, 41, 46, 116, 114, 117, 110, 99, 97, 116, 101], .held [40, 42, 108, 111, 103, 116, 105, 100, 101, 47, 102, 105, 108, 101, 115, 121, 115, 116, 101, 109, 46, 100, 105, 114, 101, 99, 116, 111, 114, 121, 41, 46, 114, 101, 110, 97, 109, 101], .held [40, 42, 108, 111, 103, 116, 105, 100, 101, 47, 102, 105, 108, 101, 115, 121, 115, 116, 101, 109, 46, 100, 105, 114, 101, 99, 116, 111, 114, 121, 41, 46, 115, 116, 97, 114, 116, 67, 111, 112, 121], .held [40, 42, 108, 111, 103, 116, 105, 100, 101, 47, 102, 105, 108, 101, 115, 121, 115, 116, 101, 109, 46, 100, 105, 114, 101, 99, 116, 111, 114, 121, 41, 46, 99, 111, 112, 121, 77, 111, 114, 101], .held [40, 42, 108, 111, 103, 116, 105, 100, 101, 47, 102, 105, 108, 101, 115, 121, 115, 116, 101, 109, 46, 100, 105, 114, 101, 99, 116, 111, 114, 121, 41, 46, 114, 101, 109, 111, 118, 101], .held [40, 42, 108, 111, 103, 116, 105, 100, 101, 47, 102, 105, 108, 101, 115, 121, 115, 116, 101, 109, 46, 100, 105, 114, 101, 99, 116, 111, 114, 121, 41, 46, 114, 101, 112, 108, 97, 99, 101]], p) := hd
  obtain ⟨xs, m, rfl, hx, hl, hn, hel⟩ := DataW.trod_array Tryd.underlying72 hd'
  rw [cellsArr] at hl
  have hL : cs.size = 9 := by simpa using hl
  simp only [Prod.mk.injEq, DataW.agg.injEq] at hx
  obtain ⟨hx, _⟩ := hx
  have cell : ∀ (i : Nat) (b : UInt8) (r : List UInt8) (f0 : FuncId), i < 9 → (xs.map (·.1))[i]? = some (.held (b :: r)) →
      ((List.range Tryd.prog.funcs.size).filter fun f => (Tryd.prog.funcs[f]?).any (·.name.toUTF8.data.toList == b :: r)) = [f0] → W.cell? ⟨0, i, none⟩ = some (.func (.func f0) #[] #[]) := by
    intro i b r f0 hi hxi hone
    have he := hel i hi
    rw [cellsFn, Nat.mul_one] at he
    have hic : i < cs.toList.length := by simp [hL, hi]
    have e1 : (cs.toList.drop i).take 1 = [cs.toList[i]] := by rw [List.drop_eq_getElem_cons hic]; rfl
    rw [e1] at he
    rw [List.getElem?_map] at hxi
    cases hy : xs[i]? with
    | none => rw [hy] at hxi; cases hxi
    | some y =>
      rw [hy] at hxi he
      simp only [Option.map_some, Option.some.injEq] at hxi
      have hv2 := func_of_trod (q := y.2) Tryd.underlying71 hone (he.trans (by rw [← hxi]))
      have := World.var?_cell hg hv i
      rw [this, Array.getElem?_eq_getElem (by simpa using hic)]
      rw [← hv2, Array.getElem_toList]
  have hlt : 0 < W.heap.size := by
    have := World.block_lt_of_cell? W _ (cell 1 _ _ 79 (by omega) (by rw [← hx]; rfl) (by kernel_rfl))
    simpa using this
  exact ⟨hlt, cell 1 _ _ _ (by omega) (by rw [← hx]; rfl) (by kernel_rfl), cell 2 _ _ _ (by omega) (by rw [← hx]; rfl) (by kernel_rfl), cell 3 _ _ _ (by omega) (by rw [← hx]; rfl) (by kernel_rfl), cell 4 _ _ _ (by omega) (by rw [← hx]; rfl) (by kernel_rfl), cell 5 _ _ _ (by omega) (by rw [← hx]; rfl) (by kernel_rfl), cell 6 _ _ _ (by omega) (by rw [← hx]; rfl) (by kernel_rfl), cell 7 _ _ _ (by omega) (by rw [← hx]; rfl) (by kernel_rfl), cell 8 _ _ _ (by omega) (by rw [← hx]; rfl) (by kernel_rfl)⟩
end Go.Proofs.YtgegmefnbkcdkaaDoor
