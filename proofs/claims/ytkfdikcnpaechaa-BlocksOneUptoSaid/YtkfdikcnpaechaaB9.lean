/- Functions that are not walked, as plain functions. -/
import Derived.Test.YtkfdikcnpaechaaB8
import Derived.Test.YtkfdikcnpaechaaPrim2
namespace Go.Proofs.Ytkfdikcnpaechaa
open Go
set_option linter.unusedVariables false

def yesB (h : Heap) : Option ((Bool × Unit) × Heap) := some ((true, ()), h)
def cloneB (h : Heap) : Value → Option ((Value × Unit) × Heap)
  | .map none => some ((.map none, ()), h)
  | .map (some r) => match h.get r with
    | some (.map kvs) => some ((.map (some h.next), ()), h.new (.map kvs))
    | _ => none
  | _ => none
section
variable {T : Nat → Option AFun} {k : Nat}
theorem yes_sf (hT : T k = some ⟨[], .skip, some yes⟩) : Sf1Ok T k (mkSf [] [(.tmp 0, .bool)] fun _ h => yesB h) := by
  refine primSf_ok hT fun args h R kk r e H hh => ?_
  obtain ⟨a, e1, e⟩ := bindS e
  obtain ⟨⟨x, h'⟩, e2, e⟩ := bindS e
  simp only [yesB, Option.some.injEq, Prod.mk.injEq] at e2
  obtain ⟨rfl, rfl⟩ := e2
  cases args with
  | nil => exact ⟨.bool true, h, H, rfl, e, hh, .refl⟩
  | cons v vs => cases e1
theorem clone_sf (hT : T k = some ⟨[], .skip, some cloneM⟩) : Sf1Ok T k (mkSf [.any] [(.tmp 0, .any)] fun a h => cloneB h a.1) := by
  refine primSf_ok hT fun args h R kk r e H hh => ?_
  obtain ⟨⟨v, u⟩, e1, e5⟩ := bindS e
  clear e
  have hv : [v] = args := Tys.prj_vals e1
  clear e1
  subst hv
  obtain ⟨⟨x, h'⟩, e2, e⟩ := bindS e5
  change cloneB h v = some (x, h') at e2
  unfold cloneB at e2
  split at e2
  · cases e2
    exact ⟨_, _, H, rfl, e, hh, .refl⟩
  · rename_i q
    split at e2
    · rename_i kvs hg
      cases e2
      obtain ⟨g1, g2⟩ := hh.new (.map kvs)
      exact ⟨_, _, H.new (.map kvs), by simp only [cloneM, hh.le _ _ hg, hh.nx]; rfl, e, g1, g2⟩
    · cases e2
  · cases e2
end
end Go.Proofs.Ytkfdikcnpaechaa
