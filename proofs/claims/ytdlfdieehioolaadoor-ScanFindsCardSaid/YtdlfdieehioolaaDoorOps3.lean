/- The operations that read and make, but turn nothing: the rest. -/
import Derived.Test.YtdlfdieehioolaaDoorOps2
namespace Go.Proofs.YtdlfdieehioolaaDoor
open Go
set_option linter.unusedVariables false
set_option linter.unusedSimpArgs false
section
variable {P : Program} {ι : Emb} {H H' : Heap} {w : World} {ev ρ : Operand → Value} {v : Value} {dst : Option Tmp} {ty : TypeId} {pos : String} {after : Array Edge} {guard : Option (Nat × Bool)}
theorem beq_iff (a b : Nat) : Nat.beq a b = decide (a = b) := by
  by_cases h : a = b
  · subst h; simp
  · simp only [h, decide_false]; exact Bool.eq_false_iff.2 fun hb => h (Nat.eq_of_beq_eq_true hb)
/- the cells of a block whose mark is (0, 0) -/
theorem frozen_none {b : Nat} {arr : Array Value} {elem : TypeId} (h : w.heap[b]? = some (.cells arr elem (0, 0))) (o : Nat) : w.frozen? ⟨b, o, none⟩ = false := by
  simp [World.frozen?, h]
theorem alive_ok {r : Nat} (h : alive H r = true) : ∃ cs, H.get r = some (.cells cs false 0) := by
  unfold alive at h
  split at h
  · rename_i cs hg; exact ⟨cs, hg⟩
  · cases h
def FrOk (es : Nat) (fr : Nat × Nat) (n : Nat) : Prop := fr = (0, 0) ∨ (es ≠ 0 ∧ n ≤ fr.1)
theorem rw_cells {cs : List Value} {es : Nat} {d e : Nat} {c : Obj} (h : ObjR P ι (.cells cs false es) c d e) : ∃ arr elem fr, c = .cells arr elem fr ∧ FrOk es fr arr.size ∧ d + cs.length + e * es ≤ arr.size ∧
    ∀ (i : Nat) (v : Value), cs[i]? = some v → ∃ v', arr[d + i]? = some v' ∧ CellR ι v v' := by
  cases c with
  | cells arr elem fr =>
    obtain ⟨h1, h2, h3⟩ := h
    exact ⟨arr, elem, fr, rfl, h1 rfl, h2, h3⟩
  | _ => exact h.elim
theorem run_sameAddr {a b : Nat} {o o' : Nat} {arr arr' : Array Value} {e e' : TypeId} (ha : w.heap[a]? = some (.cells arr e (0, 0))) (hb : w.heap[b]? = some (.cells arr' e' (0, 0))) :
    (sameAddr ⟨a, o, none⟩ ⟨b, o', none⟩).run P w = .ok (decide (a = b ∧ o = o')) w := by
  unfold sameAddr
  by_cases h : a = b
  · subst h
    simp
    by_cases h2 : o = o' <;> simp [h2]
  · have sa : ∀ o, w.frozen? ⟨a, o, none⟩ = false := frozen_none ha
    have sb : ∀ o, w.frozen? ⟨b, o, none⟩ = false := frozen_none hb
    have ha' : w.shape? a = some (e, arr.size) := by simp [World.shape?, ha]
    have hb' : w.shape? b = some (e', arr'.size) := by simp [World.shape?, hb]
    simp [h, sa, sb, noView, viewAt, mayBeOne, stringish, ha', hb', Sem.run_pure]
def EqKOk (P : Program) (t : TypeId) : EqK → Prop
  | .bool => P.underlying t = some .bool
  | .ptr => ∃ e s, P.underlying t = some (.pointer e) ∧ szOf P e = some s ∧ s ≠ 0
  | .slice => ∃ e, P.underlying t = some (.slice e)
  | .map => ∃ k e, P.underlying t = some (.map k e)
  | .func => ∃ a b c, P.underlying t = some (.func a b c)
  | .agg sh => aggOf P t = some true ∧ P.eqGuardType P.depth t = false ∧ eqShape P 20 t = some sh
theorem eqKind_ok {t : TypeId} {k : EqK} (h : eqKind P t = some k) : EqKOk P t k := by
  unfold eqKind at h
  split at h
  · rename_i hu; cases h; exact hu
  · rename_i hu; cases h; exact ⟨_, hu⟩
  · rename_i hu; cases h; exact ⟨_, _, hu⟩
  · rename_i hu; cases h; exact ⟨_, _, _, hu⟩
  · rename_i e hu
    split at h
    · rename_i s hs
      split at h
      · rename_i h0; cases h; exact ⟨_, _, hu, hs, h0⟩
      · cases h
    · cases h
  · rename_i hu
    split at h
    · cases h
    · rename_i hg
      cases hs : eqShape P 20 t with
      | none => simp [hs] at h
      | some sh => simp [hs] at h; subst h; exact ⟨by simp [aggOf, hu], by simpa using hg, hs⟩
  · rename_i hu
    split at h
    · cases h
    · rename_i hg
      cases hs : eqShape P 20 t with
      | none => simp [hs] at h
      | some sh => simp [hs] at h; subst h; exact ⟨by simp [aggOf, hu], by simpa using hg, hs⟩
  · cases h
theorem eqGuard_none {op : BinOp} {t : TypeId} {x y : Operand} (a b : Value) (h1 : ∀ l, a ≠ .agg l) (h2 : a ≠ .nilIface) : (eqGuard op t x y a b).run P w = .ok () w := by
  unfold eqGuard
  cases op <;> first | rfl | (cases a <;> first | exact absurd rfl h2 | exact absurd rfl (h1 _) | rfl)
theorem binOp_eql {t : TypeId} {a b : Value} (h : (∀ k n, a ≠ .int k n) ∧ (∀ k n, a ≠ .float k n) ∧ (∀ k n m, a ≠ .complex k n m) ∧ ∀ s, a ≠ .string s) :
    binOp .eql t a b = (do pure (.bool (← Op.equal t a b))) := by
  obtain ⟨h1, h2, h3, h4⟩ := h
  cases a <;> first | rfl | exact absurd rfl (h1 _ _) | exact absurd rfl (h2 _ _) | exact absurd rfl (h3 _ _ _) | exact absurd rfl (h4 _)
theorem binOp_neq {t : TypeId} {a b : Value} (h : (∀ k n, a ≠ .int k n) ∧ (∀ k n, a ≠ .float k n) ∧ (∀ k n m, a ≠ .complex k n m) ∧ ∀ s, a ≠ .string s) :
    binOp .neq t a b = (do pure (.bool (!(← Op.equal t a b)))) := by
  obtain ⟨h1, h2, h3, h4⟩ := h
  cases a <;> first | rfl | exact absurd rfl (h1 _ _) | exact absurd rfl (h2 _ _) | exact absurd rfl (h3 _ _ _) | exact absurd rfl (h4 _)
theorem eqCell_rel {z : Bool} {p q p' q' : Value} {e : Bool} (h1 : CellR ι p p') (h2 : CellR ι q q') (h : eqCell z p q = some e) : eqCell z p' q' = some e := by
  unfold eqCell at h
  split at h
  · have := bool_inv (.val (.cell h1)); have := bool_inv (.val (.cell h2)); subst_vars; exact h
  · have := int_inv (.val (.cell h1)); have := int_inv (.val (.cell h2)); subst_vars; exact h
  · cases h
theorem eqCells_rel : ∀ {sh : List Bool} {a b a' b' : List Value} {r : Bool}, All2 (CellR ι) a a' → All2 (CellR ι) b b' → eqCells sh a b = some r → eqCells sh a' b' = some r := by
  intro sh
  induction sh with
  | nil =>
    intro a b a' b' r h1 h2 h
    cases h1 with
    | cons => simp [eqCells] at h
    | nil => cases h2 with
      | nil => exact h
      | cons => simp [eqCells] at h
  | cons z sh ih =>
    intro a b a' b' r h1 h2 h
    cases h1 with
    | nil => simp [eqCells] at h
    | @cons x x' as as' hc h1 =>
      cases h2 with
      | nil => simp [eqCells] at h
      | @cons y y' bs bs' hc2 h2 =>
        simp only [eqCells] at h ⊢
        cases e1 : eqCell z x y with
        | none => rw [e1] at h; cases h
        | some e =>
          rw [e1] at h; rw [eqCell_rel hc hc2 e1]
          simp only at h ⊢
          cases e2 : eqCells sh as bs with
          | none => rw [e2] at h; cases h
          | some e3 => rw [e2] at h; rw [ih h1 h2 e2]; exact h
theorem s_eqv {neg : Bool} {t yt : TypeId} {x y : Operand} {k : EqK} (hk : eqKind P t = some k)
    (he : aop ev H (.eqv neg k x y) = some (v, H')) (hx : VR ι (ev x) (ρ x)) (hy : VR ι (ev y) (ρ y)) (hr : ReadOk P ι H w (readsOf ev (.eqv neg k x y))) :
    Small P ι H w (execOp ρ ⟨dst, .binOp (if neg then .neq else .eql) t x y yt, ty, pos, after, guard⟩) v H' := by
  simp only [aop] at he
  replace hk := eqKind_ok hk
  cases hev : eqVals H k (ev x) (ev y) with
  | none => simp [hev] at he
  | some r =>
    simp only [hev, Option.map_some, Option.some.injEq, Prod.mk.injEq] at he
    obtain ⟨rfl, rfl⟩ := he
    have suff : (eqGuard (if neg then .neq else .eql) t x y (ρ x) (ρ y)).run P w = .ok () w → (Op.equal t (ρ x) (ρ y)).run P w = .ok r w →
        ((∀ k n, ρ x ≠ .int k n) ∧ (∀ k n, ρ x ≠ .float k n) ∧ (∀ k n m, ρ x ≠ .complex k n m) ∧ ∀ s, ρ x ≠ .string s) →
        Small P ι H w (execOp ρ ⟨dst, .binOp (if neg then .neq else .eql) t x y yt, ty, pos, after, guard⟩) (.bool (bif neg then !r else r)) H := by
      intro h1 h2 h3
      cases neg with
      | false => exact .pure (v' := .bool r) (by simp at h1; simp [execOp, h1, binOp_eql h3, h2]) (.atom (.bool _))
      | true => exact .pure (v' := .bool (!r)) (by simp at h1; simp [execOp, h1, binOp_neq h3, h2]) (.atom (.bool _))
    have hd : ∃ n, Op.maxDepth = n + 1 := ⟨9999, rfl⟩
    obtain ⟨n, hn⟩ := hd
    simp only [readsOf] at hr
    generalize ev x = vx at *
    generalize ev y = vy at *
    unfold eqVals at hev
    split at hev
    · -- bool
      have ex := bool_inv hx; have ey := bool_inv hy
      cases hev
      exact suff (eqGuard_none _ _ (by simp [ex]) (by simp [ex])) (by simp [Op.equal, hn, Op.equalIn, r_und hk, ex, ey]) (by simp [ex])
    · rename_i b
      obtain ⟨e, s, hu, hs, h0⟩ := hk
      have ex := nilp_inv hx
      cases hev
      cases b with
      | none =>
        have ey := nilp_inv hy
        exact suff (eqGuard_none _ _ (by simp [ex]) (by simp [ex])) (by simp [Op.equal, hn, Op.equalIn, r_und hu, ex, ey]) (by simp [ex])
      | some p =>
        obtain ⟨_, b, d, e', _, ey⟩ := ptr_inv hy
        exact suff (eqGuard_none _ _ (by simp [ex]) (by simp [ex])) (by simp [Op.equal, hn, Op.equalIn, r_und hu, ex, ey]) (by simp [ex])
    · rename_i p
      obtain ⟨e, s, hu, hs, h0⟩ := hk
      obtain ⟨_, b, d, e', _, ex⟩ := ptr_inv hx
      have ey := nilp_inv hy
      cases hev
      exact suff (eqGuard_none _ _ (by simp [ex]) (by simp [ex])) (by simp [Op.equal, hn, Op.equalIn, r_und hu, ex, ey]) (by simp [ex])
    · rename_i p q
      obtain ⟨e, s, hu, hs, h0⟩ := hk
      obtain ⟨_, b, d, e', hb, ex⟩ := ptr_inv hx
      obtain ⟨_, b', d', e'', hb', ey⟩ := ptr_inv hy
      cases hal : alive H p.block && alive H q.block with
      | false => simp [hal] at hev
      | true =>
        simp only [hal, cond_true, Option.some.injEq] at hev
        simp only [Bool.and_eq_true] at hal
        obtain ⟨cs1, g1⟩ := alive_ok hal.1
        obtain ⟨cs2, g2⟩ := alive_ok hal.2
        obtain ⟨b1, d1, x1, c1, i1, i2, i3⟩ := hr.1 p.block (by simp) _ g1
        obtain ⟨b2, d2, x2, c2, j1, j2, j3⟩ := hr.1 q.block (by simp) _ g2
        obtain ⟨arr1, el1, fr1, rfl, hf1, _⟩ := rw_cells i3
        obtain ⟨arr2, el2, fr2, rfl, hf2, _⟩ := rw_cells j3
        obtain rfl : fr1 = (0, 0) := hf1.resolve_right fun h => h.1 rfl
        obtain rfl : fr2 = (0, 0) := hf2.resolve_right fun h => h.1 rfl
        rw [hb] at i1; cases i1
        rw [hb'] at j1; cases j1
        have hsame : (decide (b = b' ∧ d + p.off = d' + q.off)) = r := by
          rw [← hev]
          by_cases hbl : p.block = q.block
          · rw [hbl] at hb; rw [hb] at hb'; cases hb'
            rw [beq_iff, beq_iff]
            by_cases ho : p.off = q.off <;> simp [hbl, ho]
          · have := hr.2 p.block (by simp) q.block (by simp) _ _ _ _ g1 g2 hbl rfl hb hb'
            rw [beq_iff, beq_iff]
            simp at this
            simp [hbl, this]
        refine suff (eqGuard_none _ _ (by simp [ex]) (by simp [ex])) ?_ (by simp [ex])
        rw [← hsame]
        have hsa := run_sameAddr (P := P) (o := d + p.off) (o' := d' + q.off) i2 j2
        simp [Op.equal, hn, Op.equalIn, r_und hu, ex, ey, r_size hs, h0, hsa]
    · rename_i b _ _
      obtain ⟨e, hu⟩ := hk
      obtain ⟨_, _, ex⟩ := nils_inv hx
      cases hev
      cases b with
      | none =>
        obtain ⟨_, _, ey⟩ := nils_inv hy
        exact suff (eqGuard_none _ _ (by simp [ex]) (by simp [ex])) (by simp [Op.equal, hn, Op.equalIn, r_und hu, ex, ey]) (by simp [ex])
      | some p =>
        obtain ⟨b', d, e', o', c', _, ey, _⟩ := slice_inv hy
        exact suff (eqGuard_none _ _ (by simp [ex]) (by simp [ex])) (by simp [Op.equal, hn, Op.equalIn, r_und hu, ex, ey]) (by simp [ex])
    · obtain ⟨e, hu⟩ := hk
      obtain ⟨b', d, e', o', c', _, ex, _⟩ := slice_inv hx
      obtain ⟨_, _, ey⟩ := nils_inv hy
      cases hev
      exact suff (eqGuard_none _ _ (by simp [ex]) (by simp [ex])) (by simp [Op.equal, hn, Op.equalIn, r_und hu, ex, ey]) (by simp [ex])
    · rename_i b
      obtain ⟨k, e, hu⟩ := hk
      have ex := nilm_inv hx
      cases hev
      cases b with
      | none =>
        have ey := nilm_inv hy
        exact suff (eqGuard_none _ _ (by simp [ex]) (by simp [ex])) (by simp [Op.equal, hn, Op.equalIn, r_und hu, ex, ey]) (by simp [ex])
      | some p =>
        obtain ⟨b, d, e', _, ey⟩ := map_inv hy
        exact suff (eqGuard_none _ _ (by simp [ex]) (by simp [ex])) (by simp [Op.equal, hn, Op.equalIn, r_und hu, ex, ey]) (by simp [ex])
    · obtain ⟨k, e, hu⟩ := hk
      obtain ⟨b, d, e', _, ex⟩ := map_inv hx
      have ey := nilm_inv hy
      cases hev
      exact suff (eqGuard_none _ _ (by simp [ex]) (by simp [ex])) (by simp [Op.equal, hn, Op.equalIn, r_und hu, ex, ey]) (by simp [ex])
    · obtain ⟨a, b, c, hu⟩ := hk
      have ex := nilf_inv hx; have ey := nilf_inv hy
      cases hev
      exact suff (eqGuard_none _ _ (by simp [ex]) (by simp [ex])) (by simp [Op.equal, hn, Op.equalIn, r_und hu, ex, ey]) (by simp [ex])
    · obtain ⟨a, b, c, hu⟩ := hk
      have ex := nilf_inv hx
      obtain ⟨_, _, _, ey⟩ := func_inv hy
      cases hev
      exact suff (eqGuard_none _ _ (by simp [ex]) (by simp [ex])) (by simp [Op.equal, hn, Op.equalIn, r_und hu, ex, ey]) (by simp [ex])
    · obtain ⟨a, b, c, hu⟩ := hk
      obtain ⟨_, _, _, ex⟩ := func_inv hx
      have ey := nilf_inv hy
      cases hev
      exact suff (eqGuard_none _ _ (by simp [ex]) (by simp [ex])) (by simp [Op.equal, hn, Op.equalIn, r_und hu, ex, ey]) (by simp [ex])
    · rename_i sh xs ys
      obtain ⟨hag, hgt, hsh⟩ := hk
      obtain ⟨cx, ex, ax⟩ := agg_inv hx
      obtain ⟨cy, ey, ay⟩ := agg_inv hy
      have hev' := eqCells_rel ax ay hev
      refine suff ?_ ?_ (by simp [ex])
      · rw [ex, ey]; exact run_eqGuard_agg w _ t x y ⟨cx⟩ ⟨cy⟩ hgt
      · rw [ex, ey]
        exact equalIn_cells 20 t sh hsh Op.maxDepth (by unfold Op.maxDepth; omega) cx cy _ _ r w hev' ⟨true, hag, rfl⟩ ⟨true, hag, rfl⟩
    · cases hev
end
end Go.Proofs.YtdlfdieehioolaaDoor
