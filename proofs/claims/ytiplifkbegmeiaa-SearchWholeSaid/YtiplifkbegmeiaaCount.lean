/-
shape.Count.
-/
import Derived.Test.YtiplifkbegmeiaaCheck
namespace Go.Proofs.Ytiplifkbegmeiaa
set_option linter.unusedVariables false
set_option linter.unusedSimpArgs false
open Go.RowKit

attribute [local go_sem] Oper.semAt_some

end Go.Proofs.Ytiplifkbegmeiaa
