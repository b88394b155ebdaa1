/- Functions that are not walked, as plain functions. -/
import Derived.Test.YtjdbmfhjccaggaaDoorB8
import Derived.Test.YtjdbmfhjccaggaaDoorPrim2
namespace Go.Proofs.YtjdbmfhjccaggaaDoor
open Go
set_option linter.unusedVariables false
end Go.Proofs.YtjdbmfhjccaggaaDoor
