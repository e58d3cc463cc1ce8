/-
  The document's example; law WireLays' walk.
-/
import Derived.Test.YtajafjnegbmdbaaWa
set_option linter.unusedVariables false
namespace Go.Proofs.Ytajafjnegbmdbaa
open Go Go.RowKit Sx

end Go.Proofs.Ytajafjnegbmdbaa
