/- The operations that read and make, but turn nothing: equality. -/
import Derived.Test.YtdlfdieehioolaaDoorOps
import Derived.Laws.StructEq
import Derived.ChangeKeysEq
namespace Go.Proofs.YtdlfdieehioolaaDoor
open Go
set_option linter.unusedVariables false
set_option linter.unusedSimpArgs false
theorem eqCells_append : ∀ {s t : List Bool} {a b c d : List Value} {r : Bool}, a.length = s.length → c.length = s.length → eqCells (s ++ t) (a ++ b) (c ++ d) = some r →
    ∃ r1 r2, eqCells s a c = some r1 ∧ eqCells t b d = some r2 ∧ r = (r1 && r2) := by
  intro s
  induction s with
  | nil =>
    intro t a b c d r h1 h2 h
    cases a with
    | nil => cases c with
      | nil => exact ⟨true, r, rfl, h, rfl⟩
      | cons => simp at h2
    | cons => simp at h1
  | cons z s ih =>
    intro t a b c d r h1 h2 h
    cases a with
    | nil => simp at h1
    | cons x a =>
      cases c with
      | nil => simp at h2
      | cons y c =>
        simp only [List.cons_append, eqCells] at h
        cases e1 : eqCell z x y with
        | none => simp [e1] at h
        | some e =>
          simp only [e1] at h
          cases e2 : eqCells (s ++ t) (a ++ b) (c ++ d) with
          | none => simp [e2] at h
          | some e3 =>
            simp only [e2, Option.some.injEq] at h
            obtain ⟨r1, r2, g1, g2, g3⟩ := ih (by simpa using h1) (by simpa using h2) e2
            exact ⟨e && r1, r2, by simp [eqCells, e1, g1], g2, by rw [← h, g3, Bool.and_assoc]⟩
theorem eqCells_length : ∀ {s : List Bool} {a b : List Value} {r : Bool}, eqCells s a b = some r → a.length = s.length ∧ b.length = s.length := by
  intro s
  induction s with
  | nil => intro a b r h; cases a <;> cases b <;> simp [eqCells] at h ⊢
  | cons z s ih =>
    intro a b r h
    cases a with
    | nil => simp [eqCells] at h
    | cons x a => cases b with
      | nil => simp [eqCells] at h
      | cons y b =>
        simp only [eqCells] at h
        cases e1 : eqCell z x y with
        | none => simp [e1] at h
        | some e =>
          simp only [e1] at h
          cases e2 : eqCells s a b with
          | none => simp [e2] at h
          | some e3 => have := ih e2; simp; omega
section
variable {P : Program}
def IsVal (P : Program) (t : TypeId) (cs : List Value) (v : Value) : Prop := ∃ g, aggOf P t = some g ∧ if g then v = .agg ⟨cs⟩ else cs = [v]
theorem run_part_of {t : TypeId} {cs : List Value} {off s : Nat} (w : World) (hs : szOf P t = some s) (hg : ∃ g, aggOf P t = some g ∧ (g = true ∨ s = 1)) (hl : off + s ≤ cs.length) :
    ∃ v, (part t ⟨cs⟩ off).run P w = .ok v w ∧ IsVal P t ((cs.drop off).take s) v := by
  obtain ⟨g, hg, h1⟩ := hg
  cases g with
  | true =>
    refine ⟨.agg ⟨(cs.drop off).take s⟩, ?_, true, hg, rfl⟩
    simp only [part, Sem.run_bind, r_agg hg, Result.andThen_ok, if_true, r_size hs, Sem.run_pure]
    congr 2
    apply Array.ext'
    simp
  | false =>
    have hs1 : s = 1 := by simpa using h1
    subst hs1
    obtain ⟨v, hv⟩ : ∃ v, cs[off]? = some v := ⟨cs[off], List.getElem?_eq_getElem (by omega)⟩
    refine ⟨v, ?_, false, hg, ?_⟩
    · simp [part, r_agg hg, hv]
    · obtain ⟨hlt, hv⟩ := List.getElem?_eq_some_iff.1 hv
      rw [List.drop_eq_getElem_cons hlt]; simp [hv]
theorem eqShape_agg {D : Nat} {t : TypeId} {n : List Bool} (h : eqShape P D t = some n) : ∃ g, aggOf P t = some g ∧ (g = true ∨ n.length = 1) := by
  cases D with
  | zero => cases h
  | succ D =>
    unfold eqShape at h
    unfold aggOf
    split at h
    · rename_i hu; rw [hu]; cases h; exact ⟨false, rfl, .inr rfl⟩
    · rename_i hu; rw [hu]; cases h; exact ⟨false, rfl, .inr rfl⟩
    · rename_i hu; rw [hu]; exact ⟨true, rfl, .inl rfl⟩
    · rename_i hu; rw [hu]; exact ⟨true, rfl, .inl rfl⟩
    · cases h
theorem eqCells_one {z : Bool} {x y : Value} {r : Bool} (h : eqCells [z] [x] [y] = some r) : eqCell z x y = some r := by
  simp only [eqCells] at h
  cases h1 : eqCell z x y with
  | none => simp [h1] at h
  | some e => simp [h1] at h; rw [h]
theorem equalIn_cells : ∀ (D : Nat) (t : TypeId) (n : List Bool), eqShape P D t = some n → ∀ (D' : Nat), D ≤ D' → ∀ (xs ys : List Value) (x y : Value) (r : Bool) (w : World),
    eqCells n xs ys = some r → IsVal P t xs x → IsVal P t ys y → (Op.equalIn D' t x y).run P w = .ok r w := by
  intro D
  induction D with
  | zero => intro t n h; cases h
  | succ D ih =>
    intro t n h D' hD xs ys x y r w hr hvx hvy
    obtain ⟨hx, hy⟩ := eqCells_length hr
    obtain ⟨D', rfl⟩ : ∃ k, D' = k + 1 := ⟨D' - 1, by omega⟩
    obtain ⟨g, hg, _⟩ := eqShape_agg h
    obtain ⟨gx, hgx, hvx⟩ := hvx
    obtain ⟨gy, hgy, hvy⟩ := hvy
    rw [hg] at hgx hgy; cases hgx; cases hgy
    unfold eqShape at h
    unfold aggOf at hg
    split at h
    · -- bool
      rename_i hu
      rw [hu] at hg; cases hg; cases h
      simp at hvx hvy; subst hvx; subst hvy
      have hc := eqCells_one hr
      simp only [Op.equalIn, Sem.run_bind, r_und hu, Result.andThen_ok]
      unfold eqCell at hc
      split at hc
      · simp_all
      · simp_all
      · cases hc
    · rename_i k hu
      rw [hu] at hg; cases hg; cases h
      simp at hvx hvy; subst hvx; subst hvy
      have hc := eqCells_one hr
      simp only [Op.equalIn, Sem.run_bind, r_und hu, Result.andThen_ok]
      unfold eqCell at hc
      split at hc
      · simp_all
      · split at hc
        · rename_i hjk; subst hjk; cases hc; simp
        · cases hc
      · cases hc
    · -- array
      rename_i m e hu
      rw [hu] at hg; cases hg
      simp only [if_true] at hvx hvy; subst hvx; subst hvy
      cases he : eqShape P D e with
      | none => simp [he] at h
      | some sh =>
        cases hs : szOf P e with
        | none => simp [he, hs] at h
        | some s =>
          simp only [he, hs] at h
          split at h
          · rename_i hss; cases h
            have hlen : ((List.replicate m sh).flatten).length = m * s := by simp [hss]
            rw [hlen] at hx hy
            obtain ⟨i, hi, hsi⟩ := szOf_info hs
            rw [run_equalIn_array w D' ⟨xs⟩ ⟨ys⟩ hu hi, cells_of hs]
            have key : ∀ (k j : Nat) (r : Bool), j + k = m → eqCells (List.replicate k sh).flatten (xs.drop (j * s)) (ys.drop (j * s)) = some r →
                (Op.eqItems D' e s ⟨xs⟩ ⟨ys⟩ (List.range' j k)).run P w = .ok r w := by
              intro k
              induction k with
              | zero =>
                intro j r hj hr
                rw [List.drop_eq_nil_of_le (by rw [hx, ← hj]; exact Nat.le_refl _), List.drop_eq_nil_of_le (by rw [hy, ← hj]; exact Nat.le_refl _)] at hr
                cases hr; rfl
              | succ k ihk =>
                intro j r hj hr
                have hjm : j * s + s ≤ m * s := by rw [← Nat.succ_mul]; exact Nat.mul_le_mul_right s (by omega)
                have e1 : xs.drop (j * s) = (xs.drop (j * s)).take s ++ xs.drop ((j + 1) * s) := by
                  rw [Nat.succ_mul, ← List.drop_drop, List.take_append_drop]
                have e2 : ys.drop (j * s) = (ys.drop (j * s)).take s ++ ys.drop ((j + 1) * s) := by
                  rw [Nat.succ_mul, ← List.drop_drop, List.take_append_drop]
                rw [e1, e2, List.replicate_succ, List.flatten_cons] at hr
                obtain ⟨r1, r2, g1, g2, rfl⟩ := eqCells_append (by simp; omega) (by simp; omega) hr
                obtain ⟨vx, p1, q1⟩ := run_part_of w hs (by have := eqShape_agg he; rwa [hss] at this) (show j * s + s ≤ xs.length by omega)
                obtain ⟨vy, p2, q2⟩ := run_part_of w hs (by have := eqShape_agg he; rwa [hss] at this) (show j * s + s ≤ ys.length by omega)
                have p3 := ih e sh he D' (by omega) _ _ _ _ _ w g1 q1 q2
                simp only [List.range'_succ, Op.eqItems, Sem.run_bind, p1, p2, p3, Result.andThen_ok]
                cases r1
                · simp
                · simpa using ihk (j + 1) r2 (by omega) g2
            rw [List.range_eq_range']
            exact key m 0 r (by omega) (by simpa using hr)
          · cases h
    · -- struct
      rename_i fs hu
      rw [hu] at hg; cases hg
      simp only [if_true] at hvx hvy; subst hvx; subst hvy
      split at h
      · cases h
      · rename_i hst
        have hfo : P.fieldsOf t = fs := by unfold Program.fieldsOf; rw [hu]
        rw [run_equalIn_struct w D' t ⟨xs⟩ ⟨ys⟩ (by rw [hfo]; exact hu) (by simpa using hst), hfo]
        have grow : ∀ (l : List Field) (a b : List Bool), l.foldlM (fun acc f => match eqShape P D f.type, szOf P f.type with
            | some s, some s' => if s.length = s' ∧ f.offset = acc.length ∧ f.name ≠ "_" then some (acc ++ s) else none
            | _, _ => none) a = some b → ∃ c, b = a ++ c := by
          intro l
          induction l with
          | nil => intro a b h; simp at h; exact ⟨[], by simp [h]⟩
          | cons f l ih2 =>
            intro a b h
            rw [List.foldlM_cons] at h
            obtain ⟨a', h1, h2⟩ := bind_some h
            obtain ⟨c, rfl⟩ := ih2 _ _ h2
            split at h1
            · split at h1
              · cases h1; exact ⟨_, List.append_assoc _ _ _⟩
              · cases h1
            · cases h1
        have key : ∀ (l : List Field) (acc rest : List Bool) (r : Bool),
            l.foldlM (fun acc f => match eqShape P D f.type, szOf P f.type with
              | some s, some s' => if s.length = s' ∧ f.offset = acc.length ∧ f.name ≠ "_" then some (acc ++ s) else none
              | _, _ => none) acc = some (acc ++ rest) → xs.length = (acc ++ rest).length → ys.length = (acc ++ rest).length →
              eqCells rest (xs.drop acc.length) (ys.drop acc.length) = some r →
            (Op.eqFields D' ⟨xs⟩ ⟨ys⟩ l).run P w = .ok r w := by
          intro l
          induction l with
          | nil =>
            intro acc rest r hf h1 h2 hr
            simp at hf; subst hf
            have := eqCells_length hr
            rw [List.drop_eq_nil_of_le (by simp at h1; omega), List.drop_eq_nil_of_le (by simp at h2; omega)] at hr
            cases hr; rfl
          | cons f l ihl =>
            intro acc rest r hf h1 h2 hr
            rw [List.foldlM_cons] at hf
            obtain ⟨acc', hf1, hf2⟩ := bind_some hf
            cases he : eqShape P D f.type with
            | none => simp [he] at hf1
            | some sh =>
              cases hs : szOf P f.type with
              | none => simp [he, hs] at hf1
              | some s =>
                simp only [he, hs] at hf1
                split at hf1
                · rename_i hc
                  obtain ⟨hss, hoff, hname⟩ := hc
                  cases hf1
                  obtain ⟨rest', hrest⟩ := grow l _ _ hf2
                  rw [List.append_assoc] at hrest
                  have hrest := List.append_cancel_left hrest
                  subst hrest
                  simp only [List.length_append] at h1 h2
                  have e1 : xs.drop acc.length = (xs.drop acc.length).take s ++ xs.drop (acc.length + s) := by rw [← List.drop_drop, List.take_append_drop]
                  have e2 : ys.drop acc.length = (ys.drop acc.length).take s ++ ys.drop (acc.length + s) := by rw [← List.drop_drop, List.take_append_drop]
                  rw [e1, e2] at hr
                  obtain ⟨r1, r2, g1, g2, rfl⟩ := eqCells_append (by simp; omega) (by simp; omega) hr
                  obtain ⟨vx, p1, q1⟩ := run_part_of w hs (by have := eqShape_agg he; rwa [hss] at this) (show acc.length + s ≤ xs.length by omega)
                  obtain ⟨vy, p2, q2⟩ := run_part_of w hs (by have := eqShape_agg he; rwa [hss] at this) (show acc.length + s ≤ ys.length by omega)
                  have p3 := ih f.type sh he D' (by omega) _ _ _ _ _ w g1 q1 q2
                  simp only [Op.eqFields, if_pos hname, hoff, Sem.run_bind, p1, p2, p3, Result.andThen_ok]
                  cases r1
                  · simp
                  · have := ihl (acc ++ sh) rest' r2 (by rw [List.append_assoc]; exact hf2) (by simp; omega) (by simp; omega) (by simpa [hss] using g2)
                    simpa using this
                · cases hf1
        exact key fs.toList [] n r h (by simpa using hx) (by simpa using hy) (by simpa using hr)
    · cases h
end
end Go.Proofs.YtdlfdieehioolaaDoor
