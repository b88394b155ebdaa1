/- Closed functions that read tables of the package level, not walked. -/
import Derived.Test.YtdlfdieehioolaaDoorPrim
namespace Go.Proofs.YtdlfdieehioolaaDoor
open Go Go.ChangeShapes Go.WideShapes Go.ChangeAt Go.RowKit
set_option linter.unusedVariables false
set_option linter.unusedSimpArgs false
def eqTab (k : IntKind) : List Value → List Int → Bool
  | [], [] => true
  | .int k' n :: vs, z :: zs => decide (k' = k) && decide (n = z) && eqTab k vs zs
  | _, _ => false
theorem eqTab_eq {k : IntKind} : ∀ {vs : List Value} {zs : List Int}, eqTab k vs zs = true → vs = zs.map fun z => .int k z := by
  intro vs
  induction vs with
  | nil =>
    intro zs h
    cases zs with
    | nil => rfl
    | cons z zs => cases h
  | cons v vs ih =>
    intro zs h
    cases zs with
    | nil => cases v <;> cases h
    | cons z zs =>
      cases v with
      | int k' n =>
        simp only [eqTab, Bool.and_eq_true, decide_eq_true_eq] at h
        obtain ⟨⟨rfl, rfl⟩, h⟩ := h
        rw [List.map_cons, ih h]
      | _ => cases h
theorem eqTab_self {k : IntKind} : ∀ {zs : List Int}, eqTab k (zs.map fun z => .int k z) zs = true := by
  intro zs
  induction zs with
  | nil => rfl
  | cons z zs ih => simp [eqTab, ih]
def hasTab (H : Heap) (t : Tab) : Bool := match H.get t.g with
  | some (.cells cs true 0) => eqTab t.k cs t.zs
  | _ => false
theorem hasTab_eq {H : Heap} {t : Tab} (h : hasTab H t = true) : H.get t.g = some (.cells t.cells true 0) := by
  unfold hasTab at h
  split at h
  · rename_i cs hg; rw [hg, eqTab_eq h]; rfl
  · cases h
theorem hasTab_of {H : Heap} {t : Tab} (h : H.get t.g = some (.cells t.cells true 0)) : hasTab H t = true := by
  unfold hasTab; rw [h]; exact eqTab_self
def yesT (tabs : List Tab) : Prim := fun args H => match args with
  | [] => bif tabs.all (hasTab H) then some (.bool true, H) else none
  | _ => none
theorem yesT_ok {P : Program} {T : Nat → Option AFun} (hT : TOk P T) (hm : P.follows .mixedOrders = true) {k n : Nat} {tabs : List Tab} (hlt : ∀ t ∈ tabs, t.g < P.globals.size) (he : isTrue (exec T n (.fn k) [] (heap1 P tabs)) = true) : PrimOk P k (yesT tabs) := by
  intro args H v H' h ι w args' hs hg ha
  cases args with
  | cons a as => cases h
  | nil =>
    cases ha
    simp only [yesT] at h
    cases hall : tabs.all (hasTab H) with
    | false => rw [hall] at h; cases h
    | true =>
      rw [hall] at h
      simp only [cond_true, Option.some.injEq, Prod.mk.injEq] at h
      obtain ⟨rfl, rfl⟩ := h
      rw [List.all_eq_true] at hall
      obtain ⟨H1, he⟩ := isTrue_inv he
      have hget : ∀ r o, (heap1 P tabs).get r = some o → ∃ t ∈ tabs, r = t.g ∧ o = .cells t.cells true 0 := by
        intro r o h
        rcases heapT_get _ _ _ _ h with h | h
        · exact h
        · simp [heap0, Heap.get, Tr.get] at h
      have hs0 : Sat P (glob0 P) (heap1 P tabs) w := by
        refine ⟨fun r o h => ?_, fun r r' o o' x x' h _ _ ho => ?_, fun r x h => ?_⟩
        · obtain ⟨t, hm, rfl, rfl⟩ := hget r o h
          have hg1 := hasTab_eq (hall t hm)
          obtain ⟨b, d, e, c, h1, h2, h3⟩ := hs.obj _ _ hg1
          rw [hg t.g (hlt t hm)] at h1
          cases h1
          cases c with
          | cells arr el fr =>
            refine ⟨t.g, 0, 0, _, by simp [glob0, hlt t hm], h2, fun h => (by cases h), h3.2.1, fun i v hi => ?_⟩
            obtain ⟨v', k1, k2⟩ := h3.2.2 i v hi
            refine ⟨v', k1, ?_⟩
            unfold Tab.cells at hi
            rw [List.getElem?_map] at hi
            cases hz : t.zs[i]? with
            | none => rw [hz] at hi; cases hi
            | some z =>
              rw [hz] at hi; cases hi
              cases k2 with
              | atom k2 => cases k2; exact .atom (.int _ _)
          | _ => exact h3.elim
        · obtain ⟨t, _, rfl, rfl⟩ := hget r o h
          cases ho
        · unfold glob0 at h
          split at h
          · rename_i hlt
            show r < (heap1 P tabs).next
            unfold heap1
            rw [heapT_next]; exact hlt
          · cases h
      have hg0 : Glob P (glob0 P) := fun g hg => by simp [glob0, hg]
      obtain ⟨_, hc⟩ := exec_sound hT hm n (.fn k) [] _ _ _ he _ w [] hs0 hg0 .nil
      refine hc.mono ?_
      rintro e w' ⟨v', ι', rfl, hv, hst⟩
      refine ⟨.bool true, ι, ?_, .atom (.bool _), Step.same hs (fun b hb => hst.frame b hb fun r o x hr ho => ?_) hst.size hst.os hst.tape hst.output⟩
      · cases hv with
        | val h => cases h with
          | cell h => cases h with
            | atom h => cases h; rfl
      · obtain ⟨t, _, _, rfl⟩ := hget r o hr
        cases ho
end Go.Proofs.YtdlfdieehioolaaDoor
