/- Functions that are not walked: closed ones that answer true and leave all as it was. -/
import Derived.Test.YtdlfdieehioolaaDoorRow2
namespace Go.Proofs.YtdlfdieehioolaaDoor
open Go Go.ChangeShapes Go.WideShapes Go.ChangeAt Go.RowKit
set_option linter.unusedVariables false
set_option linter.unusedSimpArgs false
theorem Step.same {P : Program} {ι : Emb} {H : Heap} {w w' : World} (hs : Sat P ι H w) (hk : ∀ b, b < w.heap.size → w'.heap[b]? = w.heap[b]?) (hz : w.heap.size ≤ w'.heap.size) (ho : w'.os = w.os) (ht : w'.tape = w.tape) (hp : w'.output = w.output) :
    Step P ι H w ι H w' := by
  refine ⟨Ext.refl _, ⟨fun r o hr => ?_, hs.apart, hs.fresh⟩, fun _ _ h => .inl h, Nat.le_refl _, fun b hb _ => hk b hb, hz, ho, ht, hp, fun r o x hr hx => .inr ⟨r, o, x, hr, id, hx, rfl⟩, fun _ _ h _ => h⟩
  obtain ⟨b, d, e, c, h1, h2, h3⟩ := hs.obj r o hr
  exact ⟨b, d, e, c, h1, (hk b (Array.getElem?_eq_some_iff.1 h2).1).trans h2, h3⟩
def tableX (P : Program) : List (Nat × Prim) → Nat → Option AFun
  | [], f => tableOf P f
  | (g, p) :: rest, f => bif Nat.beq f g then some ⟨[], .skip, some p⟩ else tableX P rest f
theorem tableX_ok (P : Program) : ∀ (ps : List (Nat × Prim)), (∀ x ∈ ps, oneBody P x.1 = true ∧ PrimOk P x.1 x.2) → TOk P (tableX P ps) := by
  intro ps
  induction ps with
  | nil => intro _ f af h; exact tableOf_ok P f af h
  | cons x ps ih =>
    intro hx f af h
    simp only [tableX] at h
    cases hb : Nat.beq f x.1 with
    | true =>
      rw [hb] at h
      simp only [cond_true, Option.some.injEq] at h
      subst h
      obtain rfl := Nat.eq_of_beq_eq_true hb
      obtain ⟨h1, h2⟩ := hx x (List.mem_cons_self ..)
      exact ⟨h1, .inl ⟨x.2, rfl, h2⟩⟩
    | false =>
      rw [hb] at h
      exact ih (fun y hy => hx y (List.mem_cons_of_mem _ hy)) f af h
end Go.Proofs.YtdlfdieehioolaaDoor
