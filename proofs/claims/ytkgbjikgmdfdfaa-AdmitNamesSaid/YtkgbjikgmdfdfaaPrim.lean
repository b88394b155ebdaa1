/- Functions that are not walked: closed ones that answer true and leave all as it was. -/
import Derived.Test.YtkgbjikgmdfdfaaRow2
namespace Go.Proofs.Ytkgbjikgmdfdfaa
open Go Go.ChangeShapes Go.WideShapes Go.ChangeAt Go.RowKit
set_option linter.unusedVariables false
set_option linter.unusedSimpArgs false

theorem Step.same {P : Program} {ι : Emb} {H : Heap} {w w' : World} (hs : Sat P ι H w) (hk : ∀ b, b < w.heap.size → w'.heap[b]? = w.heap[b]?) (hz : w.heap.size ≤ w'.heap.size) (ho : w'.os = w.os) (ht : w'.tape = w.tape) (hp : w'.output = w.output) :
    Step P ι H w ι H w' := by
  refine ⟨Ext.refl _, ⟨fun r o hr => ?_, hs.apart, hs.fresh⟩, fun _ _ h => .inl h, Nat.le_refl _, fun b hb _ => hk b hb, hz, ho, ht, hp, fun r o x hr hx => .inr ⟨r, o, x, hr, id, hx, rfl⟩, fun _ _ h _ => h⟩
  obtain ⟨b, d, e, c, h1, h2, h3⟩ := hs.obj r o hr
  exact ⟨b, d, e, c, h1, (hk b (Array.getElem?_eq_some_iff.1 h2).1).trans h2, h3⟩

/-- A closed function that answers true. -/
def yes : Prim := fun args H => match args with
  | [] => some (.bool true, H)
  | _ => none

theorem yes_ok {P : Program} {T : Nat → Option AFun} (hT : TOk P T) (hm : P.follows .mixedOrders = true) {k n : Nat} (he : isTrue (exec T n (.fn k) [] (heap0 P)) = true) : PrimOk P k yes := by
  intro args H v H' h ι w args' hs hg ha
  cases args with
  | cons a as => cases h
  | nil =>
    cases ha
    simp only [yes, Option.some.injEq, Prod.mk.injEq] at h
    obtain ⟨rfl, rfl⟩ := h
    obtain ⟨H1, he⟩ := isTrue_inv he
    have hnone : ∀ r, (heap0 P).get r = none := fun r => by simp [heap0, Heap.get, Tr.get]
    have hs0 : Sat P (glob0 P) (heap0 P) w := by
      refine ⟨fun r o h => (by rw [hnone] at h; cases h), fun r r' o o' x x' h => (by rw [hnone] at h; cases h), fun r x h => ?_⟩
      unfold glob0 at h
      split at h
      · rename_i hlt; exact hlt
      · cases h
    have hg0 : Glob P (glob0 P) := fun g hg => by simp [glob0, hg]
    obtain ⟨_, hc⟩ := exec_sound hT hm n (.fn k) [] _ _ _ he _ w [] hs0 hg0 .nil
    refine hc.mono ?_
    rintro e w' ⟨v', ι', rfl, hv, hst⟩
    refine ⟨.bool true, ι, ?_, .atom (.bool _), Step.same hs (fun b hb => hst.frame b hb fun r o x hr => (by rw [hnone] at hr; cases hr)) hst.size hst.os hst.tape hst.output⟩
    cases hv with
    | val h => cases h with
      | cell h => cases h with
        | atom h => cases h; rfl

/-- The table of compiled functions, some of them not walked. -/
def tableX (P : Program) : List (Nat × Prim) → Nat → Option AFun
  | [], f => tableOf P f
  | (g, p) :: rest, f => bif Nat.beq f g then some ⟨[], .skip, some p⟩ else tableX P rest f

theorem tableX_ok (P : Program) : ∀ (ps : List (Nat × Prim)), (∀ x ∈ ps, oneBody P x.1 = true ∧ PrimOk P x.1 x.2) → TOk P (tableX P ps) := by
  intro ps
  induction ps with
  | nil => intro _ f af h; exact tableOf_ok P f af h
  | cons x ps ih =>
    intro hx f af h
    simp only [tableX] at h
    cases hb : Nat.beq f x.1 with
    | true =>
      rw [hb] at h
      simp only [cond_true, Option.some.injEq] at h
      subst h
      obtain rfl := Nat.eq_of_beq_eq_true hb
      obtain ⟨h1, h2⟩ := hx x (List.mem_cons_self ..)
      exact ⟨h1, .inl ⟨x.2, rfl, h2⟩⟩
    | false =>
      rw [hb] at h
      exact ih (fun y hy => hx y (List.mem_cons_of_mem _ hy)) f af h

/-- The table of compiled functions, some of which look behind their appends. -/
def tableS (P : Program) (l : List Nat) (f : Nat) : Option AFun := bif l.any (Nat.beq f) then (tableOf P f).map fun af => { af with body := shBody af.body } else tableOf P f
theorem tableS_ok (P : Program) (l : List Nat) : TOk P (tableS P l) := by
  intro f af h
  unfold tableS at h
  cases hb : l.any (Nat.beq f) with
  | false => rw [hb] at h; exact tableOf_ok P f af h
  | true =>
    rw [hb] at h
    simp only [cond_true, Option.map_eq_some_iff] at h
    obtain ⟨af0, h0, rfl⟩ := h
    have h9 := tableOf_ok P f af0 h0
    unfold tableOf at h0
    rw [h9.1] at h0
    simp only [cond_true] at h0
    cases h2 : P.funcs[f]? with
    | none => simp [h2] at h0
    | some fn =>
      simp only [h2] at h0
      refine ⟨h9.1, .inr ⟨?_, fn, rfl, .inr ⟨af0, h0, rfl, rfl⟩⟩⟩
      unfold compFun at h0
      obtain ⟨c, _, h0⟩ := bind_some h0
      obtain ⟨b, _, h0⟩ := bind_some h0
      obtain ⟨rs, _, h0⟩ := bind_some h0
      cases h0; rfl
def tableY (P : Program) (l : List Nat) : List (Nat × Prim) → Nat → Option AFun
  | [], f => tableS P l f
  | (g, p) :: rest, f => bif Nat.beq f g then some ⟨[], .skip, some p⟩ else tableY P l rest f
theorem tableY_ok (P : Program) (l : List Nat) : ∀ (ps : List (Nat × Prim)), (∀ x ∈ ps, oneBody P x.1 = true ∧ PrimOk P x.1 x.2) → TOk P (tableY P l ps) := by
  intro ps
  induction ps with
  | nil => intro _ f af h; exact tableS_ok P l f af h
  | cons x ps ih =>
    intro hx f af h
    simp only [tableY] at h
    cases hb : Nat.beq f x.1 with
    | true =>
      rw [hb] at h
      simp only [cond_true, Option.some.injEq] at h
      subst h
      obtain rfl := Nat.eq_of_beq_eq_true hb
      obtain ⟨h1, h2⟩ := hx x (List.mem_cons_self ..)
      exact ⟨h1, .inl ⟨x.2, rfl, h2⟩⟩
    | false =>
      rw [hb] at h
      exact ih (fun y hy => hx y (List.mem_cons_of_mem _ hy)) f af h
end Go.Proofs.Ytkgbjikgmdfdfaa
