/- maps.Clone, by the kit's contract. -/
import Derived.Test.YtjdbmfhjccaggaaDoorPrim
namespace Go.Proofs.YtjdbmfhjccaggaaDoor
open Go
set_option linter.unusedVariables false
set_option linter.unusedSimpArgs false
end Go.Proofs.YtjdbmfhjccaggaaDoor
