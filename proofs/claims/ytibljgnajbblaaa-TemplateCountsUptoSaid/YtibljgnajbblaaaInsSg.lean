/- slices.Insert of one element, slices.Delete of one, slices.Clone at string. -/
import Derived.Test.YtibljgnajbblaaaEdit
import Derived.Deep.RegionLaw
import Derived.Lib.Overlaps
import Derived.Lib.AppendZeros
namespace Go.Proofs.Ytibljgnajbblaaa
open Go.RowKit
theorem elSg : Elem Try.prog 22 9 1 16 (.string ⟨#[]⟩) := ⟨Try.underlying22, by kernel_rfl, rfl, by decide⟩
end Go.Proofs.Ytibljgnajbblaaa
