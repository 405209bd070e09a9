/- The closures of purge. -/
import Derived.Test.YtgegmefnbkcdkaaFsSrch
import Derived.Test.YtgegmefnbkcdkaaFsName
namespace Go.Proofs.Ytgegmefnbkcdkaa
open Go.RowKit
/-- purge takes a file away. -/
def goes (N : List Nm) (O : List Int) (t : Fi) : Bool := !O.contains t.ino && !N.any fun n => n.ino == t.ino
end Go.Proofs.Ytgegmefnbkcdkaa
