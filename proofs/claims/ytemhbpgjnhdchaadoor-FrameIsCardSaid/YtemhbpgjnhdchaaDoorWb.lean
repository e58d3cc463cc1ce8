/-
  The document's example; law WireLays' walk.
-/
import Derived.Test.YtemhbpgjnhdchaaDoorWa
set_option linter.unusedVariables false
namespace Go.Proofs.YtemhbpgjnhdchaaDoor
open Go Go.RowKit Sx

end Go.Proofs.YtemhbpgjnhdchaaDoor
