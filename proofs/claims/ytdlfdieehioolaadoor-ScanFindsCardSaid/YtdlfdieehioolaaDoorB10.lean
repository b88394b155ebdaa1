/- From plain functions to a row. -/
import Derived.Test.YtdlfdieehioolaaDoorB9
import Derived.Test.YtdlfdieehioolaaDoorS2
import Derived.Test.YtdlfdieehioolaaDoorArgs2
namespace Go.Proofs.YtdlfdieehioolaaDoor
open Go
set_option linter.unusedVariables false
theorem Tys.prj_of : ∀ {ts : List Ty} {a : Tys.T ts}, Tys.prj ts (Tys.vals ts a) = some a := by
  intro ts
  induction ts with
  | nil => intro a; rfl
  | cons t ts ih =>
    intro a
    obtain ⟨x, xs⟩ := a
    simp only [Tys.vals, Tys.prj, Ty.prj_of, Option.bind_some, ih]
theorem law_exec {T : Nat → Option AFun} {k : Nat} {ps : List Ty} {rs : Rs} {f : Tys.T ps → Heap → Option (rs.T × Heap)} (hok : Sf1Ok T k (mkSf ps rs f)) {a : Tys.T ps} {h h' : Heap} {x : rs.T} (e : f a h = some (x, h')) :
    ∃ m H', exec T m (.fn k) (Tys.vals ps a) h = some (endVal (Rs.vals rs x), H') := by
  obtain ⟨v, h2, H', ⟨N, hN⟩, e2, _, _⟩ := hok (Tys.vals ps a) h (Value × Heap) (fun v h => some (v, h)) (endVal (Rs.vals rs x), h') (by simp only [mkSf, Tys.prj_of, Option.bind_some, e]) h (HLe.refl h)
  cases e2
  exact ⟨N, H', hN N (Nat.le_refl _)⟩
theorem InSl.own {h : Heap} {es n : Nat} {s : Value} {cs : List Value} (hs : InSl h es s n cs) (wf : WF h) : ∃ G, Sow es s n cs G ∧ Own h G ∧ ∀ x ∈ G, h.get x.1 = some x.2 := by
  cases hs with
  | empty => exact ⟨[], fun _ _ => InSl.empty.rds, .nil, fun _ h => absurd h List.not_mem_nil⟩
  | @full b n cs ro e hb hl =>
    refine ⟨[(b, .cells cs ro e)], fun h' hg => (InSl.full (hg (b, .cells cs ro e) (by simp)) hl).rds, Own.cons .nil hb (wf.lt hb) (fun _ h => absurd h List.not_mem_nil), fun x hx => ?_⟩
    simp only [List.mem_singleton] at hx
    subst hx; exact hb
end Go.Proofs.YtdlfdieehioolaaDoor
