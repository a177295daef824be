/- Contract of package logic: eval, Eval. -/
import Derived.Test.YtbcabcdgblmnkaaFmEval
import Derived.Test.YtbcabcdgblmnkaaRegApp
import Derived.Deep.DeepCutAuto
namespace Go.Proofs.Ytbcabcdgblmnkaa
open Go.RowKit
set_option linter.unusedVariables false
set_option linter.unusedSimpArgs false


end Go.Proofs.Ytbcabcdgblmnkaa
