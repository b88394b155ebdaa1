/- maps.Clone, by the kit's contract. -/
import Derived.Test.YtdlfdieehioolaaDoorPrim
namespace Go.Proofs.YtdlfdieehioolaaDoor
open Go
set_option linter.unusedVariables false
set_option linter.unusedSimpArgs false
end Go.Proofs.YtdlfdieehioolaaDoor
