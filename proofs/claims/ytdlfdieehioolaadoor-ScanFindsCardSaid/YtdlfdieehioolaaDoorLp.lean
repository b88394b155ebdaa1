/- Loops that count up, and cells of numbers that are read one by one. -/
import Derived.Test.YtdlfdieehioolaaDoorSl
namespace Go.Proofs.YtdlfdieehioolaaDoor
open Go
set_option linter.unusedVariables false
set_option linter.unusedSimpArgs false
variable {H : Heap} {v : Value}
theorem Rd.all {k : IntKind} {L : List Int} (h : Rd H 1 v L.length (iz k L)) : ∃ a c, v = .slice a L.length c ∧ L.length ≤ c ∧ ∀ j (hj : j < L.length), ∃ b sp, a = some ⟨b, 0, sp⟩ ∧ readCells H b j 1 = some [.int k L[j]] := by
  obtain ⟨a, c, rfl⟩ := h.form
  refine ⟨a, c, rfl, by simpa [capOf] using h.cap (Nat.le_refl 1), fun j hj => ?_⟩
  obtain ⟨b, sp, c', e, hr⟩ := h.read j hj
  cases e
  exact ⟨b, sp, rfl, by rw [hr j 1 (by omega), iz_at (List.getElem?_eq_getElem hj)]⟩
def idxAK (H : Heap) (n es : Nat) : Value → Value → Option (Value × Heap)
  | .pointer (some p), iv => match natIn iv n with
    | some k => bif Nat.blt k n then some (.pointer (some ⟨p.block, p.off + k * es, none⟩), H) else none
    | none => none
  | _, _ => none
@[simp] theorem opRun_idxArr {self : Self} {ev : Operand → Value} {n es : Nat} {x i : Operand} : opRun self ev H (.idxArr n es x i) = idxAK H n es (ev x) (ev i) := by
  simp only [opRun, aop]
  cases ev x <;> rfl
/- whole rows written over -/
theorem writeAt_all {cs vs : List Value} (h : vs.length = cs.length) : writeAt cs 0 vs = vs := by
  rw [writeAt_eq _ _ _ (by omega)]; simp [h]
theorem writeAt_tail {c : Value} {cs vs : List Value} (h : vs.length = cs.length) : writeAt (c :: cs) 1 vs = c :: vs := by
  rw [writeAt_eq _ _ _ (by simp; omega), List.drop_eq_nil_of_le (by simp; omega)]; simp
@[simp] theorem iz_cell {k : IntKind} : ∀ {L : List Int}, (iz k L).all isCell = true := by
  intro L; induction L with
  | nil => rfl
  | cons x L ih => simp only [iz_cons, List.all_cons, ih, Bool.and_true]; rfl
theorem eqCells_ints : ∀ {xs ys : List (IntKind × Int)}, xs.length = ys.length → xs.map (·.1) = ys.map (·.1) →
    eqCells (List.replicate xs.length false) (xs.map fun p => .int p.1 p.2) (ys.map fun p => .int p.1 p.2) = some (decide (xs = ys)) := by
  intro xs
  induction xs with
  | nil => intro ys h _; cases ys with
    | nil => simp [eqCells]
    | cons y ys => simp at h
  | cons x xs ih =>
    intro ys h hk
    cases ys with
    | nil => simp at h
    | cons y ys =>
      obtain ⟨k, a⟩ := x
      obtain ⟨k', b⟩ := y
      simp only [List.map_cons, List.cons.injEq] at hk
      obtain ⟨rfl, hk⟩ := hk
      simp only [List.length_cons, List.replicate_succ, List.map_cons, eqCells, eqCell, if_true]
      rw [ih (by simpa using h) hk]
      by_cases h1 : a = b <;> by_cases h2 : xs = ys <;> simp [h1, h2]
theorem eqCells_iz {k : IntKind} {A B : List Int} {n : Nat} (ha : A.length = n) (hb : B.length = n) : eqCells (List.replicate n false) (iz k A) (iz k B) = some (decide (A = B)) := by
  have := eqCells_ints (xs := A.map fun z => (k, z)) (ys := B.map fun z => (k, z)) (by simp; omega) (by
    apply List.ext_getElem
    · simp; omega
    · intro i h1 h2; simp)
  simp only [List.map_map, List.length_map, ha] at this
  have e : ∀ X : List Int, X.map ((fun p : IntKind × Int => Value.int p.1 p.2) ∘ fun z => (k, z)) = iz k X := fun X => rfl
  rw [e, e] at this
  rw [this]
  congr 1
  rw [decide_eq_decide]
  constructor
  · intro h
    have := congrArg (List.map (·.2)) h
    have e2 : ∀ X : List Int, (X.map fun z => (k, z)).map (·.2) = X := fun X => by rw [List.map_map]; exact List.map_id X
    rwa [e2, e2] at this
  · rintro rfl; rfl
theorem flat_of {α : Type} {mk : α → List Value} {es : Nat} (hes : 1 ≤ es) : ∀ (n : Nat) (vs : List Value), vs.length = n * es → (∀ i, i < n → ∃ z, (vs.drop (i * es)).take es = mk z) → ∃ L : List α, L.length = n ∧ vs = L.flatMap mk := by
  intro n
  induction n with
  | zero => intro vs hv _; exact ⟨[], rfl, by simp at hv; simp [hv]⟩
  | succ n ih =>
    intro vs hv h
    obtain ⟨z, hz⟩ := h 0 (by omega)
    rw [Nat.zero_mul, List.drop_zero] at hz
    rw [Nat.add_mul, Nat.one_mul] at hv
    obtain ⟨L, hL, he⟩ := ih (vs.drop es) (by simp; omega) (fun i hi => by
      obtain ⟨z', hz'⟩ := h (i + 1) (by omega)
      refine ⟨z', ?_⟩
      rw [List.drop_drop]
      rw [Nat.add_mul, Nat.one_mul, Nat.add_comm] at hz'
      exact hz')
    refine ⟨z :: L, by simp [hL], ?_⟩
    rw [List.flatMap_cons, ← he, ← hz, List.take_append_drop]
end Go.Proofs.YtdlfdieehioolaaDoor
