/- Ranges over functions, of the abstract machine: what an iterator owes, what a loop over it owes. -/
import Derived.Test.YtiohkpjljinmfaaSl
namespace Go.Proofs.Ytiohkpjljinmfaa
open Go
set_option linter.unusedVariables false
set_option linter.unusedSimpArgs false

/-- A function value that hands out xs, one behind the other, as long as its data are in place; k: fuel for a round. -/
def Iter (T : Nat → Option AFun) (g : Nat) (cap : List Value) (xs : List (List Value)) (k : Nat) (Good : Heap → Prop) : Prop :=
  ∀ (l : Nat) (P : Nat → Heap → Prop) (R : Heap → Prop) (H : Heap), P 0 H → (∀ i H1, P i H1 → Good H1) →
    (∀ i x H1, xs[i]? = some x → P i H1 → ∃ b H2, exec T k (.yield l) x H1 = some (.bool b, H2) ∧ (b = true → P (i + 1) H2) ∧ (b = false → R H2)) →
    ∃ H2, exec T (k + 1) (.fn g) ([.func (.yield l) #[] #[]] ++ cap) H = some (.tuple #[], H2) ∧ (P xs.length H2 ∨ R H2)

theorem range_iter {T : Nat → Option AFun} {g : Nat} {cap : List Value} {xs : List (List Value)} {k n : Nat} {Good : Heap → Prop} (hI : Iter T g cap xs (k + 1) Good)
    {f : Operand} {ps : List Nat} {as bd : AC} {tm : Tr Value} {H : Heap} {ds : List Nat} (hf : St.val tm f = .func (.func g) #[] ⟨cap⟩)
    {P : Nat → Heap → Prop} {R : AExit → Heap → Prop} {tm1 : List Value → Tr Value}
    (h0 : P 0 ((H.new .defr).new (.loop tm ps as bd .ready none)))
    (hput : ∀ i H1 o, P i H1 → P i (H1.put (H.next + 1) o)) (hRput : ∀ e H1 o, R e H1 → R e (H1.put (H.next + 1) o))
    (hgood : ∀ i H1, P i H1 → Good H1) (hlen : ∀ x ∈ xs, x.length = ps.length)
    (has : ∀ x ∈ xs, ∀ H1, run (exec T k) k (some (H.next + 1)) as ⟨setAll tm ps x, H1, []⟩ = some (.normal, ⟨tm1 x, H1, []⟩))
    (hbd : ∀ i x H1, xs[i]? = some x → P i H1 → H1.get (H.next + 1) = some (.loop tm ps as bd .busy none) → ∃ e tm2 H2 ds2, run (exec T k) k (some (H.next + 1)) bd ⟨tm1 x, H1, []⟩ = some (e, ⟨tm2, H2, ds2⟩) ∧ H2.get (H.next + 1) = H1.get (H.next + 1) ∧
      (e = .normal → P (i + 1) H2) ∧ (e ≠ .normal → R e H2)) :
    ∃ e H2, run (exec T (k + 2)) n none (.range f ps as bd) ⟨tm, H, ds⟩ = some (e, ⟨tm, H2.drop (H.next + 1), H.next :: ds⟩) ∧ ((e = .normal ∧ P xs.length H2) ∨ (e ≠ .normal ∧ R e H2)) := by
  obtain ⟨H2, he, hP⟩ := hI (H.next + 1) (fun i H1 => P i H1 ∧ H1.get (H.next + 1) = some (.loop tm ps as bd .ready none))
    (fun H1 => ∃ e, e ≠ .normal ∧ R e H1 ∧ H1.get (H.next + 1) = some (.loop tm ps as bd .done (some e)))
    ((H.new .defr).new (.loop tm ps as bd .ready none)) ⟨h0, by simp⟩ (fun i H1 h => hgood i H1 h.1) (by
      rintro i x H1 hx ⟨hP, hl⟩
      have hmem : x ∈ xs := List.mem_of_getElem? hx
      obtain ⟨e, tm2, H2, ds2, hb, h2, h3, h4⟩ := hbd i x (H1.put (H.next + 1) (.loop tm ps as bd .busy none)) hx (hput _ _ _ hP) (by simp)
      have hgo := yield_go (T := T) (n := k) (H := H1) (l := H.next + 1) (args := x) (e := e) hl (hlen x hmem) (has x hmem H1) hl hb (by rw [h2]; simp)
      cases e with
      | normal => exact ⟨true, _, hgo, fun _ => ⟨hput _ _ _ (h3 rfl), by simp⟩, fun h => (by cases h)⟩
      | exit id => exact ⟨false, _, hgo, fun h => (by cases h), fun _ => ⟨.exit id, by simp, hRput _ _ _ (h4 (by simp)), by simp⟩⟩
      | ret => exact ⟨false, _, hgo, fun h => (by cases h), fun _ => ⟨.ret, by simp, hRput _ _ _ (h4 (by simp)), by simp⟩⟩)
  rcases hP with ⟨h1, h2⟩ | ⟨e, hne, h1, h2⟩
  · exact ⟨.normal, H2, run_range (st0 := .ready) (pe := none) hf he ⟨_, _, _, _, h2⟩ (.inl ⟨rfl, rfl, rfl⟩), .inl ⟨rfl, h1⟩⟩
  · exact ⟨e, H2, run_range (st0 := .done) (pe := some e) hf he ⟨_, _, _, _, h2⟩ (.inr ⟨rfl, rfl⟩), .inr ⟨hne, h1⟩⟩
end Go.Proofs.Ytiohkpjljinmfaa
