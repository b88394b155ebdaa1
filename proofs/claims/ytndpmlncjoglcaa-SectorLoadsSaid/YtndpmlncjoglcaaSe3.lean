/- SectorLoads: the law. -/
import Derived.Test.YtndpmlncjoglcaaSe2
namespace Go.Proofs.Ytndpmlncjoglcaa
open Go
set_option linter.unusedVariables false
set_option linter.unusedSimpArgs false
variable {T : Nat → Option AFun} {H H' : Heap} {m n : Nat} {v s : Value} {L : List Int}

theorem refload_refused (hT : T k_wicketref04_Load = some c_wicketref04_Load) {a : Option Addr} {c : Nat} (h : n = 0 ∨ n % 64 ≠ 0) (hbig : n ≤ 900000) :
    exec T (m + 1) (.fn k_wicketref04_Load) [.slice a n c] H = some (.tuple #[.pointer none, .int .i64 2], H) := by
  rw [exec_fn hT]
  by_cases h1 : n = 0
  · simp [h1, goInt, endOf, takeAll, results?, resOf, endVal]
  · have e2 : ¬ (n : Int).tmod 64 = 0 := by rw [Int.tmod_eq_emod_of_nonneg (by omega)]; omega
    simp [h1, e2, binK_rem, goInt, endOf, takeAll, results?, resOf, endVal]

theorem refload_ok (hT : T k_wicketref04_Load = some c_wicketref04_Load) (h : Rd H 1 v n (iz .u8 L)) (wf : WF H) (h0 : n ≠ 0) (h1 : n % 64 = 0) (hbig : n ≤ 262144) :
    ∃ r H', exec T (m + 1) (.fn k_wicketref04_Load) [v] H = some (.tuple #[.pointer (some ⟨r, 0, none⟩), .int .i64 0], H') ∧ Fr H H' [] := by
  have f1 := Fr.new (o := .cells [] false 1) wf []
  have g0 : Sl (H.new (.cells [] false 1)) 1 (.slice (some ⟨H.next, 0, some 0⟩) 0 0) 0 [] := .full (rest := []) (by simp) rfl rfl
  obtain ⟨s', H1, e, g1, f2, b2, _⟩ := g0.appendR (h.fr f1) f1.wf (Nat.le_refl 1) (bytes := 1) (by omega)
  simp only [Nat.zero_add] at e g1
  obtain ⟨a', c', rfl⟩ := g1.form
  obtain ⟨av, cv, rfl⟩ := h.form
  have e2 : (n : Int).tmod 64 = 0 := by rw [Int.tmod_eq_emod_of_nonneg (by omega)]; omega
  have h2 : ¬ ((262144 : Int) < n) := by omega
  have f12 := f1.step wf f2 (by simp [blk])
  refine ⟨H1.next, H1.new (.cells [.slice a' n c', .slice none 0 0] false 0), ?_, f12.step wf (Fr.new f2.wf []) (by simp)⟩
  rw [exec_fn hT]
  simp [h0, e2, h2, binK_rem, goInt, e, writeAt, boxK_agg, endOf, takeAll, results?, resOf, endVal]

/-- The loop that fills the last sector up. -/
theorem fillUp_ok {H0 : Heap} (w0 : WF H0) {cut : Int} {k : Nat} {tm : Tr Value} {ds : List Nat} (hs : Sl H 1 s k (iz .u8 L)) (f : Fr H0 H []) (hb : ∀ b ∈ blk s, H0.next ≤ b) (hk : k ≤ 20000) (hm : 70 ≤ m)
    (t1 : tm.get 1 = some (.int .i64 cut)) (t5 : tm.get 5 = some s) :
    ∃ e s', loopN (run (exec T m) m none c_wicketlaw04_SectorLoads_L9) m ⟨tm, H, ds⟩ = some (e, s') ∧ e = .exit 0 ∧ s'.ds = ds ∧ Fr H0 s'.h [] ∧ ∃ s1 k1 L1, s'.tm.get 5 = some s1 ∧ k1 ≤ 20032 ∧ Sl s'.h 1 s1 k1 (iz .u8 L1) ∧ ∀ b ∈ blk s1, H0.next ≤ b := by
  refine Exists.elim (loopN_inv (f := run (exec T m) m none c_wicketlaw04_SectorLoads_L9) (I := fun q st => ∃ (s1 : Value) (k1 : Nat) (L1 : List Int), q = (20032 - k1) % 64 ∧ k1 ≤ 20032 ∧ st.ds = ds ∧ Fr H0 st.h [] ∧ st.tm.get 1 = some (.int .i64 cut) ∧ st.tm.get 5 = some s1 ∧ Sl st.h 1 s1 k1 (iz .u8 L1) ∧ ∀ b ∈ blk s1, H0.next ≤ b)
    (Q := fun e s' => e = .exit 0 ∧ s'.ds = ds ∧ Fr H0 s'.h [] ∧ ∃ s1 k1 L1, s'.tm.get 5 = some s1 ∧ k1 ≤ 20032 ∧ Sl s'.h 1 s1 k1 (iz .u8 L1) ∧ ∀ b ∈ blk s1, H0.next ≤ b) ?_ ((20032 - k) % 64) _ m ⟨s, k, L, rfl, by omega, rfl, f, t1, t5, hs, hb⟩ (by omega)) (fun e ⟨s', h1, _, h2⟩ => ⟨e, s', h1, h2⟩)
  rintro q ⟨tm1, H1, ds1⟩ ⟨s1, k1, L1, hq, hk1, hds, f1, u1, u5, g1, b1⟩
  simp only at hds f1 u1 u5 g1
  subst hds
  obtain ⟨a1, c1, rfl⟩ := g1.form
  by_cases hz : k1 % 64 = 0
  · have e1 : (k1 : Int).tmod 64 = 0 := by rw [Int.tmod_eq_emod_of_nonneg (by omega)]; omega
    obtain ⟨t2, e2, g5⟩ : ∃ t2, run (exec T m) m none c_wicketlaw04_SectorLoads_L9 ⟨tm1, H1, ds1⟩ = some (.exit 0, ⟨t2, H1, ds1⟩) ∧ t2.get 5 = some (.slice a1 k1 c1) := by
      simp [c_wicketlaw04_SectorLoads_L9, c_wicketlaw04_SectorLoads_S7, c_wicketlaw04_SectorLoads_S8, u1, u5, goInt, binK_rem, e1]
    exact ⟨.exit 0, _, e2, .inr ⟨by simp, rfl, rfl, f1, _, k1, L1, g5, by omega, g1, b1⟩⟩
  · have e1 : ¬ (k1 : Int).tmod 64 = 0 := by rw [Int.tmod_eq_emod_of_nonneg (by omega)]; omega
    by_cases hc : cut.tmod 3 = 0
    · obtain ⟨t2, e2, g5⟩ : ∃ t2, run (exec T m) m none c_wicketlaw04_SectorLoads_L9 ⟨tm1, H1, ds1⟩ = some (.exit 0, ⟨t2, H1, ds1⟩) ∧ t2.get 5 = some (.slice a1 k1 c1) := by
        simp [c_wicketlaw04_SectorLoads_L9, c_wicketlaw04_SectorLoads_S7, c_wicketlaw04_SectorLoads_S8, u1, u5, goInt, binK_rem, e1, hc]
      exact ⟨.exit 0, _, e2, .inr ⟨by simp, rfl, rfl, f1, _, k1, L1, g5, by omega, g1, b1⟩⟩
    · obtain ⟨s2, H2, e, g2, f2, b2, _⟩ := g1.append1 (new := [.int .u8 (IntKind.u8.wrap cut)]) (bytes := 1) f1.wf (Nat.le_refl 1) rfl (by omega)
      obtain ⟨t2, e2, j1, j5⟩ : ∃ t2, run (exec T m) m none c_wicketlaw04_SectorLoads_L9 ⟨tm1, H1, ds1⟩ = some (.normal, ⟨t2, H2, ds1⟩) ∧ t2.get 1 = some (.int .i64 cut) ∧ t2.get 5 = some s2 := by
        simp [c_wicketlaw04_SectorLoads_L9, c_wicketlaw04_SectorLoads_S7, c_wicketlaw04_SectorLoads_S8, u1, u5, goInt, binK_rem, e1, hc, writeAt, e]
      refine ⟨.normal, _, e2, .inl ⟨rfl, (20032 - (k1 + 1)) % 64, by omega, s2, k1 + 1, L1 ++ [IntKind.u8.wrap cut], rfl, by omega, rfl, f1.step w0 f2 b1, j1, j5, by simpa using g2, fun b hb2 => ?_⟩⟩
      rcases b2 b hb2 with h5 | h5
      · exact b1 b h5
      · have := f1.le; omega
end Go.Proofs.Ytndpmlncjoglcaa
