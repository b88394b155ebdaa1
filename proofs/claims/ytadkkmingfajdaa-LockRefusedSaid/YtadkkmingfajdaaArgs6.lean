/- How long what is handed in may be: the form's own reach. -/
import Derived.Test.YtadkkmingfajdaaArgs5
import Derived.SizedLaws
namespace Go.Proofs.Ytadkkmingfajdaa
open Go Go.ChangeShapes Go.WideShapes Go.ChangeAt Go.RowKit
set_option linter.unusedVariables false

section
variable {Hh : Type} {enc : TypeId × Value → Hh} {P : Program} {w : World}
/-- A slice that is handed in: as many elements as its reading has. -/
theorem read_len {t e : TypeId} {v : Value} {d : DataW Hh} {p : List MemPlace} (ht : P.underlying t = some (.slice e)) (h : DataW.Trod enc P w 0 (fun _ => true) true t v d p) (hval : ∃ b, Value.okWide P w .any b t v) :
    v = .slice none 0 0 ∨ ∃ a len cap elems spare, v = .slice (some a) len cap ∧ d = .slice elems spare ∧ elems.length = len := by
  obtain ⟨fuel, h⟩ := h
  obtain ⟨av, lv, cv, rfl⟩ : ∃ a n c, v = .slice a n c := by obtain ⟨b, hval⟩ := hval; exact okWide_slice ht hval
  have e1 : (Value.slice av lv cv).cells.toList = [.slice av lv cv] := rfl
  rw [e1] at h
  rcases DataW.trod_slice ht h with ⟨h0, _⟩ | ⟨a, len, cap, elems, rest, n, _, hv, hx, _, _, _, hlen, _⟩
  · simp only [List.cons.injEq, and_true] at h0; exact .inl h0
  · simp only [List.cons.injEq, and_true] at hv
    rw [Prod.mk.injEq] at hx
    exact .inr ⟨a, len, cap, _, _, hv, hx.1, by simpa using hlen⟩

theorem sized_len {ts : List TypeId} {ds : List (DataW Hh)} {j : Nat} {t e : TypeId} {v va : Value} {d : DataW Hh} {p : List MemPlace} {n : Nat} {ι : Emb} (hz : (DataW.weightsEach P ts ds).all (· ≤ reachBytes) = true) (hts : ts[j]? = some t) (hds : ds[j]? = some d)
    (ht : P.underlying t = some (.slice e)) (h : DataW.Trod enc P w 0 (fun _ => true) true t v d p) (hval : ∃ b, Value.okWide P w .any b t v) (hl : Lst va n) (hr : AtomR ι va v) : n * P.bytesOf e ≤ reachBytes := by
  rcases read_len ht h hval with rfl | ⟨a, len, cap, elems, spare, rfl, rfl, hlen⟩
  · rcases hl with ⟨rfl, rfl⟩ | ⟨b, rfl⟩
    · rw [Nat.zero_mul]; exact Nat.zero_le _
    · cases hr
  · have h1 := sized_slice hz hts hds ht
    rcases hl with ⟨rfl, rfl⟩ | ⟨b, rfl⟩
    · rw [Nat.zero_mul]; exact Nat.zero_le _
    · have : n = len := by cases hr; rfl
      rw [this, ← hlen]
      exact Nat.le_trans (Nat.mul_le_mul_right _ (Nat.le_add_right _ _)) h1
end
end Go.Proofs.Ytadkkmingfajdaa
