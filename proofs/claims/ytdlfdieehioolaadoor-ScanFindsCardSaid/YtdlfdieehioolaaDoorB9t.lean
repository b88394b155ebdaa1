/- Closed functions over tables, as plain functions. -/
import Derived.Test.YtdlfdieehioolaaDoorB9
import Derived.Test.YtdlfdieehioolaaDoorPrim3
namespace Go.Proofs.YtdlfdieehioolaaDoor
open Go
set_option linter.unusedVariables false
def yesTB (tabs : List Tab) (h : Heap) : Option ((Bool × Unit) × Heap) := bif tabs.all (hasTab h) then some ((true, ()), h) else none
theorem hasTab_mono {h H : Heap} (hh : HLe h H) {t : Tab} (e : hasTab h t = true) : hasTab H t = true := hasTab_of (hh.le _ _ (hasTab_eq e))
section
variable {T : Nat → Option AFun} {k : Nat}
theorem yesT_sf {tabs : List Tab} (hT : T k = some ⟨[], .skip, some (yesT tabs)⟩) : Sf1Ok T k (mkSf [] [(.tmp 0, .bool)] fun _ h => yesTB tabs h) := by
  refine primSf_ok hT fun args h R kk r e H hh => ?_
  obtain ⟨a, e1, e⟩ := bindS e
  obtain ⟨⟨x, h'⟩, e2, e5⟩ := bindS e
  clear e
  simp only [yesTB] at e2
  cases hall : tabs.all (hasTab h) with
  | false => rw [hall] at e2; cases e2
  | true =>
    rw [hall] at e2
    simp only [cond_true, Option.some.injEq, Prod.mk.injEq] at e2
    obtain ⟨rfl, rfl⟩ := e2
    cases args with
    | nil =>
      have : tabs.all (hasTab H) = true := by
        rw [List.all_eq_true] at hall ⊢
        exact fun t ht => hasTab_mono hh (hall t ht)
      exact ⟨.bool true, h, H, by simp only [yesT, this, cond_true], e5, hh, .refl⟩
    | cons v vs => cases e1
end
end Go.Proofs.YtdlfdieehioolaaDoor
