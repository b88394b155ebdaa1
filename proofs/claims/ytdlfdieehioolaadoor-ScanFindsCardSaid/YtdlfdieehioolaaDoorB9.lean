/- Functions that are not walked, as plain functions. -/
import Derived.Test.YtdlfdieehioolaaDoorB8
import Derived.Test.YtdlfdieehioolaaDoorPrim2
namespace Go.Proofs.YtdlfdieehioolaaDoor
open Go
set_option linter.unusedVariables false
end Go.Proofs.YtdlfdieehioolaaDoor
