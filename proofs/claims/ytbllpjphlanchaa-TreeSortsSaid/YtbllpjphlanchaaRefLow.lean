/-
  The document's small functions: Same, named.
-/
import Derived.Test.YtbllpjphlanchaaOrder10
import Derived.Test.YtbllpjphlanchaaStrOps
namespace Go.Proofs.Ytbllpjphlanchaa
open Go.RowKit Go.Mix Go.WideMaps

end Go.Proofs.Ytbllpjphlanchaa
