/- Contracts of package bits (layer 1) and its reference, first part: no memory. -/
import Derived.Test.YtlbbbafehhdpnaaDoorRows
import Derived.Test.YtlbbbafehhdpnaaDoorMem
import Derived.Test.YtlbbbafehhdpnaaDoorBitMath
import Derived.BigQuiet
import Derived.Deep.QuietTactic
namespace Go.Proofs.YtlbbbafehhdpnaaDoor
open Go.RowKit


end Go.Proofs.YtlbbbafehhdpnaaDoor
