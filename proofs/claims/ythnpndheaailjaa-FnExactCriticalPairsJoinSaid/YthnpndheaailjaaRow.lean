/-
  Rows that a loop appends to a list of rows.
-/
import Derived.Test.YthnpndheaailjaaRo2
import Derived.Test.YthnpndheaailjaaLev
namespace Go.Proofs.Ythnpndheaailjaa
set_option linter.unusedVariables false
set_option linter.unusedSimpArgs false
set_option maxRecDepth 100000
open Go.RowKit

--== rows that a loop appends
end Go.Proofs.Ythnpndheaailjaa
