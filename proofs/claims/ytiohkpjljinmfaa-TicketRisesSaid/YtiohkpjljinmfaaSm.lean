import Derived.Test.YtiohkpjljinmfaaTk3
namespace Go.Proofs.Ytiohkpjljinmfaa
open Go
set_option linter.unusedVariables false
set_option linter.unusedSimpArgs false
variable {T : Nat → Option AFun} {H : Heap} {m : Nat}

theorem same_ok (hT : T k_wicketlaw11_same = some c_wicketlaw11_same) {va vb : Value} {A B : List Int} (ha : Rd H 1 va A.length (iz .u64 A)) (hb : Rd H 1 vb B.length (iz .u64 B)) (hm : A.length < m) (hbig : A.length < 4611686018427387904) :
    exec T (m + 1) (.fn k_wicketlaw11_same) [va, vb] H = some (.bool (decide (A = B)), H) := by
  obtain ⟨a, c, rfl⟩ := ha.form
  obtain ⟨b, d, rfl⟩ := hb.form
  rw [exec_fn hT]
  by_cases hl : A.length = B.length
  · have key : ∀ tm : Tr Value, tm.get 0 = some (.slice a A.length c) → tm.get 1 = some (.slice b B.length d) → tm.get 12 = some (.int .i64 A.length) → tm.get 13 = some (.int .i64 0) →
        ∃ e s', loopN (run (exec T m) m none c_wicketlaw11_same_L0) m ⟨tm, H, []⟩ = some (e, s') ∧ s'.h = H ∧ s'.ds = [] ∧ ((e = .exit 0 ∧ A = B) ∨ (e = .ret ∧ A ≠ B ∧ s'.tm.get 4 = some (.bool false))) := by
      intro tm t0 t1 t12 t13
      refine Exists.elim (loopN_inv (f := run (exec T m) m none c_wicketlaw11_same_L0) (I := fun k st => ∃ i : Nat, k = A.length - i ∧ i ≤ A.length ∧ A.take i = B.take i ∧ st.h = H ∧ st.ds = [] ∧ st.tm.get 0 = some (.slice a A.length c) ∧ st.tm.get 1 = some (.slice b B.length d) ∧ st.tm.get 12 = some (.int .i64 A.length) ∧ st.tm.get 13 = some (.int .i64 i))
        (Q := fun e s' => s'.h = H ∧ s'.ds = [] ∧ ((e = .exit 0 ∧ A = B) ∨ (e = .ret ∧ A ≠ B ∧ s'.tm.get 4 = some (.bool false)))) ?_ A.length ⟨tm, H, []⟩ m ⟨0, by simp, by simp, by simp, rfl, rfl, t0, t1, t12, t13⟩ hm) (fun e ⟨s', h1, _, h2⟩ => ⟨e, s', h1, h2⟩)
      rintro k ⟨tm1, H1, ds1⟩ ⟨i, hik, hi, heq, hH, hds, u0, u1, u12, u13⟩
      simp only at hH hds u0 u1 u12 u13
      subst hH hds
      by_cases hlt : i < A.length
      · obtain ⟨x, hx⟩ : ∃ x, A[i]? = some x := ⟨A[i], by simp [hlt]⟩
        obtain ⟨y, hy⟩ : ∃ y, B[i]? = some y := ⟨B[i]'(by omega), by simp [hl ▸ hlt]⟩
        obtain ⟨b1, sp1, c1, h1, r1⟩ := ha.read i hlt
        obtain ⟨b2, sp2, c2, h2, r2⟩ := hb.read i (by omega)
        cases h1; cases h2
        have r1 := r1 i 1 (by omega)
        have r2 := r2 i 1 (by omega)
        rw [iz_at hx] at r1
        rw [iz_at hy] at r2
        have hlt' : (i : Int) < A.length := by omega
        have hw : IntKind.i64.wrap ((i : Int) + 1) = i + 1 := wrap_i64 (by omega) (by omega)
        by_cases hxy : x = y
        · subst hxy
          obtain ⟨t2, e2, g0, g1, g12, g13⟩ : ∃ t2, run (exec T m) m none c_wicketlaw11_same_L0 ⟨tm1, H1, []⟩ = some (.normal, ⟨t2, H1, []⟩) ∧ t2.get 0 = some (.slice (some ⟨b1, 0, sp1⟩) A.length c) ∧ t2.get 1 = some (.slice (some ⟨b2, 0, sp2⟩) B.length d) ∧ t2.get 12 = some (.int .i64 A.length) ∧ t2.get 13 = some (.int .i64 (i + 1 : Nat)) := by
            simp (disch := first | omega | (simp; omega) | (simp; done) | fail) [c_wicketlaw11_same_L0, u0, u1, u12, u13, hlt', idxK_of, r1, r2, hw]
          refine ⟨.normal, _, e2, .inl ⟨rfl, A.length - i - 1, by omega, i + 1, by omega, by omega, ?_, rfl, rfl, g0, g1, g12, g13⟩⟩
          rw [List.take_add_one, List.take_add_one, heq, hx, hy]
        · obtain ⟨t2, e2, g4⟩ : ∃ t2, run (exec T m) m none c_wicketlaw11_same_L0 ⟨tm1, H1, []⟩ = some (.ret, ⟨t2, H1, []⟩) ∧ t2.get 4 = some (.bool false) := by
            simp (disch := first | omega | (simp; omega) | (simp; done) | fail) [c_wicketlaw11_same_L0, u0, u1, u12, u13, hlt', idxK_of, r1, r2, hxy]
          refine ⟨.ret, _, e2, .inr ⟨by simp, rfl, rfl, .inr ⟨rfl, ?_, g4⟩⟩⟩
          rintro rfl
          rw [hx] at hy; cases hy; exact hxy rfl
      · have hlt' : ¬ (i : Int) < A.length := by omega
        obtain ⟨t2, e2⟩ : ∃ t2, run (exec T m) m none c_wicketlaw11_same_L0 ⟨tm1, H1, []⟩ = some (.exit 0, ⟨t2, H1, []⟩) := by
          simp [c_wicketlaw11_same_L0, u12, u13, hlt']
        refine ⟨.exit 0, _, e2, .inr ⟨by simp, rfl, rfl, .inl ⟨rfl, ?_⟩⟩⟩
        rw [List.take_of_length_le (by omega), List.take_of_length_le (by omega)] at heq
        exact heq
    simp [c_wicketlaw11_same, goInt, hl, run_loop]
    rw [← hl]
    refine thru (G := fun X => endK [ARes.tmp 4] (seqK _ _ none _ (blockK 0 X)) = _) (key _ (by simp) (by simp [hl]) (by simp) (by simp)) ?_
    rintro e ⟨tm', H', ds'⟩ ⟨h1, h2, ⟨rfl, h3⟩ | ⟨rfl, h3, h4⟩⟩
    · simp only at h1 h2; subst h1 h2
      simp [endOf, takeAll, results?, resOf, endVal, h3]
    · simp only at h1 h2 h4; subst h1 h2
      simp [endOf, takeAll, results?, resOf, endVal, h3, h4]
  · have hne : A ≠ B := fun h => hl (h ▸ rfl)
    have hl' : ¬ ((A.length : Int) = B.length) := by omega
    simp [c_wicketlaw11_same, goInt, hl, hl', hne, endOf, takeAll, results?, resOf, endVal]
end Go.Proofs.Ytiohkpjljinmfaa
