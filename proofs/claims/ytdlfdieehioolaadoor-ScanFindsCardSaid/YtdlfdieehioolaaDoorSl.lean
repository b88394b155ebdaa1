/- Slices of the abstract machine: what they hold, growing them, reading them. -/
import Derived.Test.YtdlfdieehioolaaDoorSim
namespace Go.Proofs.YtdlfdieehioolaaDoor
open Go
set_option linter.unusedVariables false
set_option linter.unusedSimpArgs false
section
variable {self : Self} {n : Nat} {rd : Option Nat} {st : St} {tm : Tr Value} {H H' : Heap} {ds : List Nat} {es : Nat} {s y : Value} {cs new : List Value} {m : Nat} {fp : List Nat}
@[simp] theorem iz_length {k : IntKind} {L : List Int} : (iz k L).length = L.length := by simp [iz]
@[simp] theorem iz_nil {k : IntKind} : iz k [] = [] := rfl
@[simp] theorem iz_cons {k : IntKind} {z : Int} {L : List Int} : iz k (z :: L) = .int k z :: iz k L := rfl
@[simp] theorem iz_append {k : IntKind} {A B : List Int} : iz k (A ++ B) = iz k A ++ iz k B := by simp [iz]
theorem wrap_i64 {z : Int} (h0 : -9223372036854775808 ≤ z) (h1 : z < 9223372036854775808) : IntKind.i64.wrap z = z := by
  simp [IntKind.wrap, IntKind.bits, IntKind.signed]; split <;> omega
theorem wrap_u64 {z : Int} (h0 : 0 ≤ z) (h1 : z < 18446744073709551616) : IntKind.u64.wrap z = z := by
  simp [IntKind.wrap, IntKind.bits, IntKind.signed]; omega
theorem Sl.keep (h : Sl H es s n cs) (hk : ∀ b ∈ blk s, ∀ o, H.get b = some o → H'.get b = some o) : Sl H' es s n cs := by
  cases h with
  | empty => exact .empty
  | full hb hl hr => exact .full (hk _ (by simp [blk]) _ hb) hl hr
theorem Sl.cells (h : Sl H es s n cs) {b : Nat} (hb : b ∈ blk s) : ∃ xs, H.get b = some (.cells xs false es) := by
  cases h with
  | empty => simp [blk] at hb
  | full hb' hl hr => simp only [blk, List.mem_singleton] at hb; subst hb; exact ⟨_, hb'⟩
theorem iz_at {k : IntKind} {L : List Int} {i : Nat} {x : Int} (h : L[i]? = some x) : ((iz k L).drop i).take 1 = [.int k x] := by
  have hlt : i < L.length := (List.getElem?_eq_some_iff.1 h).1
  have he : L[i] = x := (List.getElem?_eq_some_iff.1 h).2
  rw [List.drop_eq_getElem_cons (by simpa using hlt)]
  simp [iz, he]
inductive InSl (H : Heap) (es : Nat) : Value → Nat → List Value → Prop
  | empty : InSl H es (.slice none 0 0) 0 []
  | full {b n : Nat} {cs : List Value} {ro : Bool} {e : Nat} (hb : H.get b = some (.cells cs ro e)) (hl : cs.length = n * es) : InSl H es (.slice (some ⟨b, 0, none⟩) n n) n cs
theorem InSl.fr (h : InSl H es s n cs) (f : Fr H H' []) : InSl H' es s n cs := by
  cases h with
  | empty => exact .empty
  | full hb hl => exact .full (f.keep _ _ hb (by simp)) hl
theorem InSl.form (h : InSl H es s n cs) : ∃ a c, s = .slice a n c := by
  cases h with
  | empty => exact ⟨_, _, rfl⟩
  | full hb hl => exact ⟨_, _, rfl⟩
theorem InSl.len (h : InSl H es s n cs) : cs.length = n * es := by
  cases h with
  | empty => simp
  | full hb hl => exact hl
theorem InSl.read (h : InSl H es s n cs) {i : Nat} (hi : i < n) : ∃ b, s = .slice (some ⟨b, 0, none⟩) n n ∧ ∀ o k, o + k ≤ n * es → readCells H b o k = some ((cs.drop o).take k) := by
  cases h with
  | empty => omega
  | full hb hl => exact ⟨_, rfl, fun o k hk => readCells_of hb (by omega)⟩
structure Rd (H : Heap) (es : Nat) (v : Value) (n : Nat) (cs : List Value) : Prop where
  form : ∃ a c, v = .slice a n c
  read : ∀ i, i < n → ∃ b sp c, v = .slice (some ⟨b, 0, sp⟩) n c ∧ ∀ o k, o + k ≤ n * es → readCells H b o k = some ((cs.drop o).take k)
  src : ∃ b c, v = .slice b n c ∧ srcCells H b (n * es) = some cs
  len : cs.length = n * es
  cap : 1 ≤ es → n ≤ capOf v
theorem InSl.toRd (h : InSl H es s n cs) : Rd H es s n cs := by
  refine ⟨h.form, fun i hi => ?_, ?_, h.len, fun _ => by cases h <;> exact Nat.le_refl _⟩
  · obtain ⟨b, rfl, hr⟩ := h.read hi
    exact ⟨b, none, n, rfl, hr⟩
  · cases h with
    | empty => exact ⟨none, 0, rfl, rfl⟩
    | full hb hl =>
      refine ⟨_, _, rfl, ?_⟩
      show readCells H _ 0 (n * es) = _
      rw [readCells_of hb (by omega)]
      simp [← hl]
end
end Go.Proofs.YtdlfdieehioolaaDoor
