/- Loops that count up, and cells of numbers that are read one by one. -/
import Derived.Test.YtkfdikcnpaechaaSl
namespace Go.Proofs.Ytkfdikcnpaechaa
open Go
set_option linter.unusedVariables false
set_option linter.unusedSimpArgs false
variable {H : Heap} {v : Value}

theorem loop_up {f : St → Option (AExit × St)} {J : Nat → St → Prop} {Q : AExit → St → Prop} {a n m : Nat} {s : St} (hm : n < m + a) (ha : a ≤ n) (h0 : J a s)
    (step : ∀ j s, j < n → J j s → ∃ e s', f s = some (e, s') ∧ ((e = .normal ∧ J (j + 1) s') ∨ (e ≠ .normal ∧ Q e s')))
    (stop : ∀ s, J n s → ∃ e s', f s = some (e, s') ∧ e ≠ .normal ∧ Q e s') : ∃ e s', loopN f m s = some (e, s') ∧ e ≠ .normal ∧ Q e s' := by
  refine loopN_inv (I := fun q s => ∃ j, j ≤ n ∧ q = n - j ∧ J j s) ?_ (n - a) s m ⟨a, ha, rfl, h0⟩ (by omega)
  rintro q s ⟨j, hj, rfl, hJ⟩
  rcases Nat.lt_or_ge j n with h | h
  · obtain ⟨e, s', he, ⟨h1, h2⟩ | h1⟩ := step j s h hJ
    · exact ⟨e, s', he, .inl ⟨h1, n - (j + 1), by omega, j + 1, by omega, rfl, h2⟩⟩
    · exact ⟨e, s', he, .inr h1⟩
  · obtain rfl : j = n := by omega
    obtain ⟨e, s', he, h1⟩ := stop s hJ
    exact ⟨e, s', he, .inr h1⟩

theorem Rd.all {k : IntKind} {L : List Int} (h : Rd H 1 v L.length (iz k L)) : ∃ a c, v = .slice a L.length c ∧ L.length ≤ c ∧ ∀ j (hj : j < L.length), ∃ b sp, a = some ⟨b, 0, sp⟩ ∧ readCells H b j 1 = some [.int k L[j]] := by
  obtain ⟨a, c, rfl⟩ := h.form
  refine ⟨a, c, rfl, by simpa [capOf] using h.cap (Nat.le_refl 1), fun j hj => ?_⟩
  obtain ⟨b, sp, c', e, hr⟩ := h.read j hj
  cases e
  exact ⟨b, sp, rfl, by rw [hr j 1 (by omega), iz_at (List.getElem?_eq_getElem hj)]⟩
theorem Rd.fr {es n : Nat} {cs : List Value} {H' : Heap} (h : Rd H es v n cs) (f : ∀ b o k x, readCells H b o k = some x → readCells H' b o k = some x) (hsrc : ∀ b n x, srcCells H b n = some x → srcCells H' b n = some x) : Rd H' es v n cs := by
  refine ⟨h.form, fun i hi => ?_, ?_, h.len, h.cap⟩
  · obtain ⟨b, sp, c, e, hr⟩ := h.read i hi
    exact ⟨b, sp, c, e, fun o k hk => f _ _ _ _ (hr o k hk)⟩
  · obtain ⟨b, c, e, hs⟩ := h.src
    exact ⟨b, c, e, hsrc _ _ _ hs⟩
theorem mem_take_succ {α : Type} {L : List α} {j : Nat} {x : α} (hj : j < L.length) : x ∈ L.take (j + 1) ↔ x ∈ L.take j ∨ x = L[j] := by
  rw [List.take_add_one, List.getElem?_eq_getElem hj, Option.toList_some, List.mem_append, List.mem_singleton]
theorem set_at_same {α : Type} : ∀ {l : List α} {i : Nat} {x : α}, l[i]? = some x → l.set i x = l := by
  intro l
  induction l with
  | nil => intro i x h; simp at h
  | cons a l ih => intro i x h; cases i with
    | zero => simp at h; subst h; rfl
    | succ i => rw [List.set_cons_succ, ih (by simpa using h)]
def lenMK (H : Heap) : Value → Option (Value × Heap)
  | .map none => some (goInt 0, H)
  | .map (some r) => match H.get r with
    | some (.map kvs) => some (goInt kvs.length, H)
    | _ => none
  | _ => none
@[simp] theorem opRun_lenM {self : Self} {ev : Operand → Value} {x : Operand} : opRun self ev H (.lenM x) = lenMK H (ev x) := by
  simp only [opRun, aop]
  cases ev x <;> rfl
theorem lenMK_some {r : Nat} {kvs : List (Value × Value)} (h : H.get r = some (.map kvs)) : lenMK H (.map (some r)) = some (goInt kvs.length, H) := by simp only [lenMK, h]

theorem take_iz {k : IntKind} {x : List Int} {n : Nat} (h : x.length = n) : (iz k x).take n = iz k x := List.take_of_length_le (by simp; omega)
theorem Sl.frq {es n q : Nat} {s : Value} {cs : List Value} {H H' : Heap} (h : Sl H es s n cs) (f : Fr H H' [q]) (hd : q ∉ blk s) : Sl H' es s n cs :=
  h.fr f (by intro b hb; simp only [List.mem_singleton]; rintro rfl; exact hd hb)

def idxAK (H : Heap) (n es : Nat) : Value → Value → Option (Value × Heap)
  | .pointer (some p), iv => match natIn iv n with
    | some k => bif Nat.blt k n then some (.pointer (some ⟨p.block, p.off + k * es, none⟩), H) else none
    | none => none
  | _, _ => none
@[simp] theorem opRun_idxArr {self : Self} {ev : Operand → Value} {n es : Nat} {x i : Operand} : opRun self ev H (.idxArr n es x i) = idxAK H n es (ev x) (ev i) := by
  simp only [opRun, aop]
  cases ev x <;> rfl
theorem idxAK_of {n es j : Nat} {k : IntKind} {p : Addr} (hj : j < n) : idxAK H n es (.pointer (some p)) (.int k (j : Int)) = some (.pointer (some ⟨p.block, p.off + j * es, none⟩), H) := by
  simp only [idxAK, natIn_int (Nat.le_of_lt hj)]
  rw [show Nat.blt j n = true from Nat.ble_eq_true_of_le hj]; rfl

/- whole rows written over -/
theorem writeAt_all {cs vs : List Value} (h : vs.length = cs.length) : writeAt cs 0 vs = vs := by
  rw [writeAt_eq _ _ _ (by omega)]; simp [h]
theorem writeAt_tail {c : Value} {cs vs : List Value} (h : vs.length = cs.length) : writeAt (c :: cs) 1 vs = c :: vs := by
  rw [writeAt_eq _ _ _ (by simp; omega), List.drop_eq_nil_of_le (by simp; omega)]; simp
@[simp] theorem iz_cell {k : IntKind} : ∀ {L : List Int}, (iz k L).all isCell = true := by
  intro L; induction L with
  | nil => rfl
  | cons x L ih => simp only [iz_cons, List.all_cons, ih, Bool.and_true]; rfl
theorem eqCells_ints : ∀ {xs ys : List (IntKind × Int)}, xs.length = ys.length → xs.map (·.1) = ys.map (·.1) →
    eqCells (List.replicate xs.length false) (xs.map fun p => .int p.1 p.2) (ys.map fun p => .int p.1 p.2) = some (decide (xs = ys)) := by
  intro xs
  induction xs with
  | nil => intro ys h _; cases ys with
    | nil => simp [eqCells]
    | cons y ys => simp at h
  | cons x xs ih =>
    intro ys h hk
    cases ys with
    | nil => simp at h
    | cons y ys =>
      obtain ⟨k, a⟩ := x
      obtain ⟨k', b⟩ := y
      simp only [List.map_cons, List.cons.injEq] at hk
      obtain ⟨rfl, hk⟩ := hk
      simp only [List.length_cons, List.replicate_succ, List.map_cons, eqCells, eqCell, if_true]
      rw [ih (by simpa using h) hk]
      by_cases h1 : a = b <;> by_cases h2 : xs = ys <;> simp [h1, h2]
theorem eqCells_iz {k : IntKind} {A B : List Int} {n : Nat} (ha : A.length = n) (hb : B.length = n) : eqCells (List.replicate n false) (iz k A) (iz k B) = some (decide (A = B)) := by
  have := eqCells_ints (xs := A.map fun z => (k, z)) (ys := B.map fun z => (k, z)) (by simp; omega) (by
    apply List.ext_getElem
    · simp; omega
    · intro i h1 h2; simp)
  simp only [List.map_map, List.length_map, ha] at this
  have e : ∀ X : List Int, X.map ((fun p : IntKind × Int => Value.int p.1 p.2) ∘ fun z => (k, z)) = iz k X := fun X => rfl
  rw [e, e] at this
  rw [this]
  congr 1
  rw [decide_eq_decide]
  constructor
  · intro h
    have := congrArg (List.map (·.2)) h
    have e2 : ∀ X : List Int, (X.map fun z => (k, z)).map (·.2) = X := fun X => by rw [List.map_map]; exact List.map_id X
    rwa [e2, e2] at this
  · rintro rfl; rfl
theorem flat_at {α : Type} {mk : α → List Value} {es : Nat} (hmk : ∀ z, (mk z).length = es) : ∀ {L : List α} {i : Nat} {z : α}, L[i]? = some z → ((L.flatMap mk).drop (i * es)).take es = mk z := by
  intro L
  induction L with
  | nil => intro i z h; simp at h
  | cons x L ih =>
    intro i z h
    cases i with
    | zero => simp at h; subst h; rw [Nat.zero_mul, List.drop_zero, List.flatMap_cons, List.take_append_of_le_length (by rw [hmk]; exact Nat.le_refl _), List.take_of_length_le (by rw [hmk]; exact Nat.le_refl _)]
    | succ i =>
      rw [Nat.add_mul, Nat.one_mul, Nat.add_comm (i * es), ← List.drop_drop, List.flatMap_cons, List.drop_append_of_le_length (by rw [hmk]; exact Nat.le_refl es), show List.drop es (mk x) = [] from List.drop_eq_nil_of_le (by rw [hmk]; exact Nat.le_refl es), List.nil_append]
      exact ih (by simpa using h)

theorem flat_of {α : Type} {mk : α → List Value} {es : Nat} (hes : 1 ≤ es) : ∀ (n : Nat) (vs : List Value), vs.length = n * es → (∀ i, i < n → ∃ z, (vs.drop (i * es)).take es = mk z) → ∃ L : List α, L.length = n ∧ vs = L.flatMap mk := by
  intro n
  induction n with
  | zero => intro vs hv _; exact ⟨[], rfl, by simp at hv; simp [hv]⟩
  | succ n ih =>
    intro vs hv h
    obtain ⟨z, hz⟩ := h 0 (by omega)
    rw [Nat.zero_mul, List.drop_zero] at hz
    rw [Nat.add_mul, Nat.one_mul] at hv
    obtain ⟨L, hL, he⟩ := ih (vs.drop es) (by simp; omega) (fun i hi => by
      obtain ⟨z', hz'⟩ := h (i + 1) (by omega)
      refine ⟨z', ?_⟩
      rw [List.drop_drop]
      rw [Nat.add_mul, Nat.one_mul, Nat.add_comm] at hz'
      exact hz')
    refine ⟨z :: L, by simp [hL], ?_⟩
    rw [List.flatMap_cons, ← he, ← hz, List.take_append_drop]

theorem run_t {self : Self} {n t : Nat} {a b : AC} {rd : Option Nat} {tm : Tr Value} {ds : List Nat} (h : tm.get t = some (.bool true)) : run self n rd (.cond (.tmp t) a b) ⟨tm, H, ds⟩ = run self n rd a ⟨tm, H, ds⟩ := by simp [h]
theorem run_f {self : Self} {n t : Nat} {a b : AC} {rd : Option Nat} {tm : Tr Value} {ds : List Nat} (h : tm.get t = some (.bool false)) : run self n rd (.cond (.tmp t) a b) ⟨tm, H, ds⟩ = run self n rd b ⟨tm, H, ds⟩ := by simp [h]
end Go.Proofs.Ytkfdikcnpaechaa
