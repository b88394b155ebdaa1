/- The operations that read and make, but turn nothing: slices, parts, what is made. -/
import Derived.Test.YtdlfdieehioolaaDoorOps3
namespace Go.Proofs.YtdlfdieehioolaaDoor
open Go
set_option linter.unusedVariables false
set_option linter.unusedSimpArgs false
section
variable {P : Program} {ι : Emb} {H H' : Heap} {w : World} {ev ρ : Operand → Value} {v : Value} {dst : Option Tmp} {ty : TypeId} {pos : String} {after : Array Edge} {guard : Option (Nat × Bool)}
theorem constCell_ok {v : Value} (h : constCell v = true) : CellR ι v v := by
  unfold constCell at h
  split at h <;> first | exact .atom (by constructor) | cases h
theorem valOk_cells {v : Value} (h : valOk v = true) : All2 (CellR ι) (cellsOf v) (cellsOf v) := by
  unfold valOk at h
  split at h
  · exact All2.self fun a ha => constCell_ok (List.all_eq_true.1 h a ha)
  · have := constCell_ok (ι := ι) h
    unfold cellsOf; rw [this.isCell.2.2.1]; exact .cons this .nil
theorem valOk_VR {v : Value} (h : valOk v = true) : VR ι v v := by
  unfold valOk at h
  split at h
  · rename_i cs; exact .val (.agg (cs := cs.toList) (cs' := cs.toList) (All2.self fun a ha => constCell_ok (List.all_eq_true.1 h a ha)))
  · exact .val (.cell (constCell_ok h))
theorem cellsOf_cells (v : Value) : v.cells.toList = cellsOf v := rfl
/- ===== slicing ===== -/
theorem bound_ok {v v' : Value} {hi k y : Nat} {code : BoundsCode} (h : natIn v hi = some k) (hv : VR ι v v') (hy : hi ≤ y) : (Instr.sliceBound v' y code).run P w = .ok k w := by
  obtain ⟨j, rfl, hk⟩ := natIn_ok h
  rw [int_inv hv]
  have h1 : (0 : Int) ≤ Int.ofNat k := by simp
  have h2 : (Int.ofNat k) ≤ (y : Int) := by simp; omega
  simp only [Instr.sliceBound, asIntOf, Sem.run_bind, Sem.run_pure, Result.andThen_ok]
  rw [if_pos ⟨h1, h2⟩]
  rfl
theorem bnds_ok {isS : Bool} {n c c' l h m : Nat} {lo hi mx : Option Operand} (hb : sliceBnds n c (lo.map ev) (hi.map ev) (mx.map ev) = some (l, h, m))
    (hlo : ∀ x, lo = some x → VR ι (ev x) (ρ x)) (hhi : ∀ x, hi = some x → VR ι (ev x) (ρ x)) (hmx : ∀ x, mx = some x → VR ι (ev x) (ρ x)) (hc : c ≤ c') :
    (Instr.sliceBounds isS n c' (lo.map ρ) (hi.map ρ) (mx.map ρ)).run P w = .ok (l, h, if mx.isSome then m else c') w ∧ l ≤ h ∧ h ≤ m ∧ m ≤ c ∧ (mx = none → m = c) := by
  unfold sliceBnds at hb
  obtain ⟨m', hm, hb⟩ := bind_some hb
  obtain ⟨h', hh, hb⟩ := bind_some hb
  obtain ⟨l', hl, hb⟩ := bind_some hb
  cases hb
  have e0 : m ≤ c ∧ (mx = none → m = c) ∧ (∀ z, mx = some z → ∀ code, (Instr.sliceBound (ρ z) c' code).run P w = .ok m w) := by
    cases mx with
    | none => simp [bndMax] at hm; subst hm; exact ⟨Nat.le_refl _, fun _ => rfl, fun _ h => by cases h⟩
    | some z =>
      simp only [bndMax, Option.map_some] at hm
      obtain ⟨_, _, hk⟩ := natIn_ok hm
      exact ⟨hk, fun h => by (cases h), fun z' h code => by cases h; exact bound_ok hm (hmx z rfl) hc⟩
  have e1 : h ≤ m ∧ (hi = none → mx = none ∧ h = n) ∧ (∀ z, hi = some z → ∀ y, m ≤ y → ∀ code, (Instr.sliceBound (ρ z) y code).run P w = .ok h w) := by
    cases hi with
    | none =>
      cases mx with
      | none =>
        simp only [bndHi, Option.map_none, Option.isSome_none, cond_false] at hh
        cases hle : Nat.ble n m with
        | false => simp [hle] at hh
        | true => simp [hle] at hh; subst hh; exact ⟨Nat.le_of_ble_eq_true hle, fun _ => ⟨rfl, rfl⟩, fun _ h => by cases h⟩
      | some z => simp [bndHi] at hh
    | some z =>
      simp only [bndHi, Option.map_some] at hh
      obtain ⟨_, _, hk⟩ := natIn_ok hh
      exact ⟨hk, fun h => by (cases h), fun z' h y hy code => by cases h; exact bound_ok hh (hhi z rfl) hy⟩
  have e2 : l ≤ h ∧ (lo = none → l = 0) ∧ (∀ z, lo = some z → ∀ code, (Instr.sliceBound (ρ z) h code).run P w = .ok l w) := by
    cases lo with
    | none => simp [bndLo] at hl; subst hl; exact ⟨Nat.zero_le _, fun _ => rfl, fun _ h => by cases h⟩
    | some z =>
      simp only [bndLo, Option.map_some] at hl
      obtain ⟨_, _, hk⟩ := natIn_ok hl
      exact ⟨hk, fun h => by (cases h), fun z' h code => by cases h; exact bound_ok hl (hlo z rfl) (Nat.le_refl _)⟩
  obtain ⟨m1, m2, m3⟩ := e0
  obtain ⟨h1, h2, h3⟩ := e1
  obtain ⟨l1, l2, l3⟩ := e2
  refine ⟨?_, l1, h1, m1, m2⟩
  cases mx with
  | none =>
    have hmc := m2 rfl
    cases hi with
    | none =>
      have := (h2 rfl).2
      cases lo with
      | none => have := l2 rfl; subst_vars; simp [Instr.sliceBounds]
      | some x => have := l3 x rfl; subst_vars; simp [Instr.sliceBounds, this]
    | some y =>
      have q := h3 y rfl c' (by omega)
      cases lo with
      | none => have := l2 rfl; subst_vars; simp [Instr.sliceBounds, q]
      | some x => have := l3 x rfl; simp [Instr.sliceBounds, q, this]
  | some z =>
    have p := m3 z rfl
    cases hi with
    | none => have := (h2 rfl).1; cases this
    | some y =>
      have q := h3 y rfl m (Nat.le_refl _)
      cases lo with
      | none => have := l2 rfl; subst_vars; simp [Instr.sliceBounds, p, q]
      | some x => have := l3 x rfl; simp [Instr.sliceBounds, p, q, this]
theorem s_slice {t e0 : TypeId} {x : Operand} {lo hi mx : Option Operand} {s : Nat} (hu : P.underlying t = some (.slice e0)) (hs : szOf P e0 = some s)
    (he : aop ev H (.slice s x lo hi mx) = some (v, H')) (hx : VR ι (ev x) (ρ x))
    (hlo : ∀ x, lo = some x → VR ι (ev x) (ρ x)) (hhi : ∀ x, hi = some x → VR ι (ev x) (ρ x)) (hmx : ∀ x, mx = some x → VR ι (ev x) (ρ x)) :
    Small P ι H w (execOp ρ ⟨dst, .slice t x lo hi mx, ty, pos, after, guard⟩) v H' := by
  simp only [aop] at he
  cases hv : ev x with
  | slice a n c =>
    simp only [hv] at he hx
    obtain ⟨⟨l, h, m⟩, hb, he⟩ := bind_some he
    cases a with
    | none =>
      simp only at he; cases he
      obtain ⟨rfl, rfl, ex⟩ := nils_inv hx
      obtain ⟨hrun, h1, h2, h3, h4⟩ := bnds_ok (P := P) (w := w) (isS := true) hb hlo hhi hmx (Nat.le_refl 0)
      refine .pure (v' := .slice none 0 0) ?_ (.atom .nils)
      simp only [execOp, Instr.sliceAt, Sem.run_bind, r_und hu, Result.andThen_ok, ex, Instr.slice, hrun, r_size hs, Sem.run_pure, Option.map_none, ite_self]
      have e1 : h - l = 0 := by omega
      have e2 : (if mx.isSome = true then m else 0) - l = 0 := by split <;> omega
      rw [e1, e2]
    | some p =>
      simp only at he; cases he
      obtain ⟨b, d, e, o', c', hb1, ex, hc', ho'⟩ := slice_inv hx
      have hcc : c ≤ c' := by rw [hc']; split <;> omega
      obtain ⟨hrun, h1, h2, h3, h4⟩ := bnds_ok (P := P) (w := w) (isS := true) hb hlo hhi hmx hcc
      obtain ⟨m', hm'⟩ : ∃ m', (if mx.isSome = true then m else c') = m' := ⟨_, rfl⟩
      rw [hm'] at hrun
      refine .pure (v' := .slice (if m' = l then some o' else some (o'.add (l * s))) (h - l) (m' - l)) ?_ ?_
      · simp only [execOp, Instr.sliceAt, Sem.run_bind, r_und hu, Result.andThen_ok, ex, Instr.slice, hrun, r_size hs, Sem.run_pure, Option.map_some]
      · have hmm : h ≤ m' := by rw [← hm']; split <;> omega
        have hcc2 : m' - l = (match (match mx with | some _ => some 0 | none => p.spot) with | some _ => m - l | none => (m - l) + e) := by
          cases mx with
          | some z => simp at hm'; simp [hm']
          | none =>
            simp at hm'; subst hm'
            have := h4 rfl; subst this
            rw [hc']
            cases p.spot with
            | some _ => rfl
            | none => simp; omega
        by_cases hml : m' = l
        · rw [if_pos hml]
          exact .atom (.slice _ _ _ _ _ _ hb1 hcc2 (.inr ⟨by omega, by omega⟩))
        · rw [if_neg hml]
          refine .atom (.slice _ _ _ _ _ _ hb1 hcc2 ?_)
          rcases ho' with ho' | ⟨h5, h6⟩
          · left; rw [ho', addr_add, Nat.add_assoc]
          · right; have : m' ≤ c' := by rw [← hm']; split <;> omega
            omega
  | _ => simp [hv] at he
end
end Go.Proofs.YtdlfdieehioolaaDoor
