/- The listed variable: where the row's premise holds, the package's table lies in memory. -/
import Derived.Test.YtncmbdcicjolcaaDoorSample
import Derived.Test.YtncmbdcicjolcaaDoorOpen
import Derived.ProofKit
import Derived.LaidMore
import Derived.OpenShut
import Derived.Stop.Joined
namespace Go.Proofs.YtncmbdcicjolcaaDoor
open Go.ChangeShapes Go.WideShapes Go.ChangeAt Go.RowKit

abbrev laidD : List (String × DataW Unit) := [("logtide/sample.divisors", Rows.laid_logtide_sample_divisors)]
theorem gDivs : Tryd.prog.globalNamed "logtide/sample.divisors" = some 0 := by kernel_rfl
theorem tDivs : (Tryd.prog.globals[0]?).map (·.type) = some 23 := by kernel_rfl

theorem door_met (os : Os) (args : Array Value) : laidMetH Tryd.prog laidD ((World.doorLaid Tryd.prog 400 os).forCall (fun _ _ => 0) ⟨#[], args, []⟩).memory :=
  laidMetH_of_parts3 (fuel := 8) (laidMet_of_run' 8 (by kernel_rfl) (by kernel_rfl)) (by kernel_rfl) (by kernel_rfl)

theorem lits_inj {k : IntKind} : ∀ (a b : List Int), (lits k a : List (DataW Unit)) = lits k b → a = b := by
  intro a
  induction a with
  | nil => intro b h; cases b <;> simp_all [lits]
  | cons x a ih =>
    intro b h
    cases b with
    | nil => simp [lits] at h
    | cons y b =>
      simp only [lits, List.map_cons, List.cons.injEq] at h
      obtain ⟨h1, h2⟩ := h
      injection h1 with h1
      injection h1 with _ h1
      rw [h1, ih b h2]

theorem of_laid {W : World} (h : laidMetH Tryd.prog laidD W) : Divs W W.heap.size := by
  rw [MakeChecks.laidMetH_plain _ _ _ (by kernel_rfl)] at h
  obtain ⟨ps, ⟨g0, t0, cs0, f0, p0, q0, hg0, ht0, hv0, hd0, _, _⟩, _, _⟩ := h
  obtain rfl := Option.some.inj (gDivs.symm.trans hg0)
  obtain rfl := Option.some.inj (tDivs.symm.trans ht0)
  rcases open_ints Tryd.underlying23 Tryd.underlying3 (by kernel_rfl) hd0 with ⟨_, hx⟩ | ⟨a, len, cap, zs, hcs, _, hl, hm, hz, hx, hcell, hwz⟩
  · simp [Rows.laid_logtide_sample_divisors] at hx
  have hcell0 : W.cell? ⟨0, 0, none⟩ = some (.slice (some a) len cap) := by
    have := World.var?_cell hg0 hv0 0
    rw [Array.eq_one_of_toList hcs] at this
    simpa using this
  simp only [Prod.mk.injEq] at hx
  have hx1 := hx.1
  have hd : (Rows.laid_logtide_sample_divisors : DataW Unit) = .slice (lits .i64 divs) [] := rfl
  rw [hd] at hx1
  injection hx1 with e1 e2
  have hzt : zs.take len = divs := (lits_inj _ _ e1).symm
  have hzl : len ≤ zs.length := by rw [hz]; split <;> omega
  have hlen : len = 60 := by
    have : (zs.take len).length = 60 := by rw [hzt]; rfl
    simp at this
    omega
  subst hlen
  refine ⟨some a, cap, by have := World.block_lt_of_cell? W _ hcell0; simpa using (by omega : 0 < W.heap.size), hcell0, by rfl, some a, cap, rfl, hl, fun _ => ?_⟩
  obtain ⟨b, o, spot⟩ := a
  have hc0 := hcell 0 (by omega)
  have hspot : spot = none := by simpa [Addr.add] using World.cell?_spot hc0
  subst hspot
  have hb : b < W.heap.size := by
    have := World.block_lt_of_cell? W _ hc0
    simpa [Addr.add] using this
  refine ⟨b, o, rfl, hb, fun j u hu => ?_⟩
  have hj : j < 60 := by
    have := (List.getElem?_eq_some_iff.1 hu).1
    rw [List.length_map] at this; exact this
  have hcj := hcell j (by omega)
  rw [Addr.add_lit] at hcj
  rw [← hzt] at hu
  have : ((zs.take 60).map (Value.int .i64))[j]? = some (.int .i64 (zs.getD j 0)) := by
    simp [hj, show j < zs.length by omega]
  rw [this] at hu
  rw [← hu]; exact hcj
end Go.Proofs.YtncmbdcicjolcaaDoor
