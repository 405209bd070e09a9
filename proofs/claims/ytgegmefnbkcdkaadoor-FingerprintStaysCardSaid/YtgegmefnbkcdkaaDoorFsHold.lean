/- Hold: what it gives. -/
import Derived.Test.YtgegmefnbkcdkaaDoorFsRead
namespace Go.Proofs.YtgegmefnbkcdkaaDoor
open Go.RowKit
def heldP (F : List PF) (is : List Int) : List Int := (F.map (·.ino)).filter fun i => is.contains i
def holdP (d : PD) (is : List Int) : PD := purgeP ⟨d.N, d.F, heldP d.F is⟩
end Go.Proofs.YtgegmefnbkcdkaaDoor
