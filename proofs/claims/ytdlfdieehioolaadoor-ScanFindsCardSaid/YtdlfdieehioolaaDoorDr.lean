/- Drawn regions whose small operations make and read rows: what is hidden comes back. -/
import Derived.Test.YtdlfdieehioolaaDoorSl
namespace Go.Proofs.YtdlfdieehioolaaDoor
open Go
set_option linter.unusedVariables false
set_option linter.unusedSimpArgs false
variable {H : Heap} {self : Self} {tm : Tr Value} {ds : List Nat}
end Go.Proofs.YtdlfdieehioolaaDoor
