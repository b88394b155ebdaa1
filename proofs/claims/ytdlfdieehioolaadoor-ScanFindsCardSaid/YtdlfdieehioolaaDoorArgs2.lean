/- From the arguments of a row to the abstract heap: slices whose elements are several cells. -/
import Derived.Test.YtdlfdieehioolaaDoorArgs
import Derived.Test.YtdlfdieehioolaaDoorLp
namespace Go.Proofs.YtdlfdieehioolaaDoor
open Go Go.ChangeShapes Go.WideShapes Go.ChangeAt Go.RowKit
set_option linter.unusedVariables false
set_option linter.unusedSimpArgs false
section
variable {Hh : Type} {enc : TypeId × Value → Hh} {P : Program} {w : World} {base : Nat} {held : Bool}
theorem add_add {a : Addr} {i j : Nat} : (a.add i).add j = a.add (i + j) := by
  unfold Addr.add
  by_cases h1 : i = 0
  · subst h1; simp
  · by_cases h2 : j = 0
    · subst h2; simp
    · simp [h1, h2, Nat.add_assoc]
end
end Go.Proofs.YtdlfdieehioolaaDoor
