/- Blocks shown read-only: two at once; those of a slice's element. -/
import Derived.Test.YtdlfdieehioolaaDoorS3
namespace Go.Proofs.YtdlfdieehioolaaDoor
open Go
set_option linter.unusedVariables false
set_option linter.unusedSimpArgs false
end Go.Proofs.YtdlfdieehioolaaDoor
