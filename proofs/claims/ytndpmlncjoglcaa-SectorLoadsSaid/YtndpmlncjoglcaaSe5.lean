import Derived.Test.YtndpmlncjoglcaaSe4
namespace Go.Proofs.Ytndpmlncjoglcaa
open Go
set_option linter.unusedVariables false
set_option linter.unusedSimpArgs false
variable {T : Nat → Option AFun} {H H' : Heap} {m n : Nat} {v s : Value} {L : List Int}

theorem Rd.cut {es k n : Nat} {a : Option Addr} {c c' : Nat} {cs : List Value} (h : Rd H es (.slice a n c) n cs) (hk : k ≤ n) (hc : k ≤ c') (h0 : 0 < k) : Rd H es (.slice a k c') k (cs.take (k * es)) := by
  have hle : k * es ≤ n * es := Nat.mul_le_mul_right es hk
  have hlen := h.len
  obtain ⟨b, sp, c0, heq, hr⟩ := h.read 0 (by omega)
  cases heq
  have rd : ∀ o j, o + j ≤ k * es → readCells H b o j = some (((cs.take (k * es)).drop o).take j) := by
    intro o j hj
    rw [hr o j (by omega), List.drop_take, List.take_take, Nat.min_eq_left (by omega)]
  refine ⟨⟨_, _, rfl⟩, fun i hi => ⟨b, sp, c', rfl, rd⟩, ⟨_, _, rfl, ?_⟩, by rw [List.length_take]; omega, fun _ => hc⟩
  show readCells H b 0 (k * es) = _
  rw [rd 0 (k * es) (by omega), List.drop_zero, List.take_of_length_le (by rw [List.length_take]; omega)]

theorem loads_ok (hT : SeT T) (wf : WF H) (hv : InSl H 1 v n (iz .u8 L)) (cut : Int) (hm : 5000 ≤ m) :
    ∃ H', exec T (m + 4) (.fn k_wicketlaw04_SectorLoads) [v, .int .i64 cut] H = some (.bool true, H') ∧ Fr H H' [] := by
  have hA := hT.awake (m + 2) H
  have hrd := hv.toRd
  obtain ⟨av, cv, rfl⟩ := hv.form
  -- the image, cut
  obtain ⟨t1, n1, L1, c1, e1, hr1, hn1, j0, j1⟩ : ∃ (t1 : Tr Value) (n1 : Nat) (L1 : List Int) (c1 : Nat), run (exec T (m + 3)) (m + 3) none (.seq c_wicketlaw04_SectorLoads_S0 (.seq c_wicketlaw04_SectorLoads_S3 c_wicketlaw04_SectorLoads_S5)) ⟨initTm 0 .nil [.slice av n cv, .int .i64 cut], H, []⟩ = some (.normal, ⟨t1, H, []⟩) ∧
      Rd H 1 (.slice av n1 c1) n1 (iz .u8 L1) ∧ n1 ≤ 20000 ∧ t1.get 0 = some (.slice av n1 c1) ∧ t1.get 1 = some (.int .i64 cut) := by
    by_cases hbig : 20000 < n
    · have hbig' : (20000 : Int) < n := by omega
      obtain ⟨b, sp, c0, heq, _⟩ := hrd.read 0 (by omega)
      cases heq
      have hcap := hrd.cap (Nat.le_refl 1)
      simp at hcap
      have hcut := hrd.cut (k := 20000) (c' := cv) (by omega) (by omega) (by omega)
      rw [iz_take] at hcut
      obtain ⟨t1, e1, j0, j1⟩ : ∃ t1, run (exec T (m + 3)) (m + 3) none (.seq c_wicketlaw04_SectorLoads_S0 (.seq c_wicketlaw04_SectorLoads_S3 c_wicketlaw04_SectorLoads_S5)) ⟨initTm 0 .nil [.slice (some ⟨b, 0, sp⟩) n cv, .int .i64 cut], H, []⟩ = some (.normal, ⟨t1, H, []⟩) ∧ t1.get 0 = some (.slice (some ⟨b, 0, sp⟩) 20000 cv) ∧ t1.get 1 = some (.int .i64 cut) := by
        simp (disch := first | omega | (simp; omega) | (simp; done) | fail) [c_wicketlaw04_SectorLoads_S0, c_wicketlaw04_SectorLoads_S1, c_wicketlaw04_SectorLoads_S2, c_wicketlaw04_SectorLoads_S3, c_wicketlaw04_SectorLoads_S4, c_wicketlaw04_SectorLoads_S5, hA, goInt, hbig, hbig', sliceK, natIn_of]
      exact ⟨t1, 20000, _, cv, e1, hcut, Nat.le_refl _, j0, j1⟩
    · have hbig' : ¬ (20000 : Int) < n := by omega
      obtain ⟨t1, e1, j0, j1⟩ : ∃ t1, run (exec T (m + 3)) (m + 3) none (.seq c_wicketlaw04_SectorLoads_S0 (.seq c_wicketlaw04_SectorLoads_S3 c_wicketlaw04_SectorLoads_S5)) ⟨initTm 0 .nil [.slice av n cv, .int .i64 cut], H, []⟩ = some (.normal, ⟨t1, H, []⟩) ∧ t1.get 0 = some (.slice av n cv) ∧ t1.get 1 = some (.int .i64 cut) := by
        simp (disch := first | omega | (simp; omega) | (simp; done) | fail) [c_wicketlaw04_SectorLoads_S0, c_wicketlaw04_SectorLoads_S1, c_wicketlaw04_SectorLoads_S2, c_wicketlaw04_SectorLoads_S3, c_wicketlaw04_SectorLoads_S4, c_wicketlaw04_SectorLoads_S5, hA, goInt, hbig, hbig']
      exact ⟨t1, n, L, cv, e1, hrd, by omega, j0, j1⟩
  -- its own copy, filled up
  obtain ⟨s2, H2, x2, g2, f2, b2, _⟩ := own_ok (m := m + 2) hT.own hr1 wf (by omega)
  obtain ⟨t2, e2, k2, j5⟩ : ∃ t2, run (exec T (m + 3)) (m + 3) none c_wicketlaw04_SectorLoads_S6 ⟨t1, H, []⟩ = some (.normal, ⟨t2, H2, []⟩) ∧ t2.get 1 = some (.int .i64 cut) ∧ t2.get 5 = some s2 := by
    simp [c_wicketlaw04_SectorLoads_S6, j0, j1, x2]
  obtain ⟨ex, ⟨t3, H3, ds3⟩, e3, rfl, hds, f3, s3, k3, L3, j53, hk3, g3, b3⟩ := fillUp_ok (m := m + 3) wf g2 f2 b2 hn1 (by omega) k2 j5 (ds := [])
  simp only at hds f3 j53 g3
  subst hds
  have e3' : run (exec T (m + 3)) (m + 3) none c_wicketlaw04_SectorLoads_S10 ⟨t2, H2, []⟩ = some (.normal, ⟨t3, H3, []⟩) := by
    rw [c_wicketlaw04_SectorLoads_S10, run_block, run_loop, e3]; rfl
  -- marked, loaded
  obtain ⟨s4, H4, x4, g4, f4⟩ := marked_ok (m := m + 1) hT.own hT.marked g3.toRd f3.wf (by omega)
  simp only [Nat.add_assoc, Nat.reduceAdd] at x4
  obtain ⟨t4, e4, k4, j6⟩ : ∃ t4, run (exec T (m + 3)) (m + 3) none c_wicketlaw04_SectorLoads_S11 ⟨t3, H3, []⟩ = some (.normal, ⟨t4, H4, []⟩) ∧ KeepsB 10 [6] t3 t4 ∧ t4.get 6 = some s4 := by
    simp [c_wicketlaw04_SectorLoads_S11, j53, x4]
  have g34 := g3.fr f4 (by simp)
  have j54 := k4.get j53
  by_cases hgood : k3 % 64 = 0 ∧ k3 ≠ 0
  · obtain ⟨N, rfl⟩ : ∃ N, k3 = N * 64 := ⟨k3 / 64, by omega⟩
    obtain ⟨D, d, H5, x5, hd5, hD5, f5, _, _⟩ := load_ok (m := m + 2) hT.load g4.toRd f4.wf rfl (by omega) (by omega) (by omega)
    obtain ⟨t5, e5, k5, j7, j8⟩ : ∃ t5, run (exec T (m + 3)) (m + 3) none c_wicketlaw04_SectorLoads_S12 ⟨t4, H4, []⟩ = some (.normal, ⟨t5, H5, []⟩) ∧ KeepsB 10 [7, 8] t4 t5 ∧ t5.get 7 = some (.pointer (some ⟨d, 0, none⟩)) ∧ t5.get 8 = some (.int .i64 0) := by
      simp [c_wicketlaw04_SectorLoads_S12, j6, x5]
    have g35 := g34.fr f5 (by simp)
    obtain ⟨r, H6, x6, f6⟩ := refload_ok (m := m + 2) hT.rload g35.toRd f5.wf hgood.2 hgood.1 (by omega)
    obtain ⟨t6, e6, k6, j9, j10⟩ : ∃ t6, run (exec T (m + 3)) (m + 3) none c_wicketlaw04_SectorLoads_S13 ⟨t5, H5, []⟩ = some (.normal, ⟨t6, H6, []⟩) ∧ KeepsB 11 [9, 10] t5 t6 ∧ t6.get 9 = some (.pointer (some ⟨r, 0, none⟩)) ∧ t6.get 10 = some (.int .i64 0) := by
      simp [c_wicketlaw04_SectorLoads_S13, k5.get j54, x6]
    have g36 := g35.fr f6 (by simp)
    have x7 := held_ok (m := m + 2) hT.held ((g4.fr f5).fr f6) g36.toRd (by omega)
    obtain ⟨t7, e7, k7⟩ : ∃ t7, run (exec T (m + 3)) (m + 3) none c_wicketlaw04_SectorLoads_S16 ⟨t6, H6, []⟩ = some (.normal, ⟨t7, H6, []⟩) ∧ Keeps 11 t6 t7 := by
      simp [c_wicketlaw04_SectorLoads_S14, c_wicketlaw04_SectorLoads_S15, c_wicketlaw04_SectorLoads_S16, k6.get j8, k6.get j7, j9, j10, k6.get (k5.get j6), k6.get (k5.get j54), x7]
    obtain ⟨bb, sp, c, rfl⟩ := g36.ne_nil (by omega)
    obtain ⟨t8, H8, e8, j4, f8⟩ := last_good (m := m + 1) (rd := none) (nn := m + 3) (ds := []) hT f6.wf g36 (f6.keep _ _ hd5 (by simp)) (f6.keep _ _ hD5 (by simp)) (by omega) (by omega) (by omega) (k7.get j9) (k7.get (k6.get j7)) (k7.get (k6.get (k5.get j54)))
    refine ⟨H8, ?_, (((f3.step wf f4 (by simp)).step wf f5 (by simp)).step wf f6 (by simp)).step wf f8 (by simp)⟩
    rw [exec_fn hT.law, run_pre3, e1, seqK_normal, run_seq, e2, seqK_normal, run_seq, e3', seqK_normal, run_seq, e4, seqK_normal, run_seq, e5, seqK_normal, run_seq, e6, seqK_normal, run_seq, e7, seqK_normal, run_seq, e8, seqK_normal, run_ret]
    simp [endOf, takeAll, results?, resOf, endVal, j4]
  · obtain ⟨a4, c4, rfl⟩ := g4.toRd.form
    have x5 := load_refused (m := m + 2) (T := T) (H := H4) (a := a4) (c := c4) (n := k3) hT.load rfl rfl (by omega) (by omega)
    obtain ⟨t5, e5, k5, j7, j8⟩ : ∃ t5, run (exec T (m + 3)) (m + 3) none c_wicketlaw04_SectorLoads_S12 ⟨t4, H4, []⟩ = some (.normal, ⟨t5, H4, []⟩) ∧ KeepsB 10 [7, 8] t4 t5 ∧ t5.get 7 = some (.pointer none) ∧ t5.get 8 = some (.int .i64 2) := by
      simp [c_wicketlaw04_SectorLoads_S12, j6, x5]
    obtain ⟨a3, c3, rfl⟩ := g34.form
    have x6 := refload_refused (m := m + 2) (T := T) (H := H4) (a := a3) (c := c3) (n := k3) hT.rload (by omega) (by omega)
    obtain ⟨t6, e6, k6, j9, j10⟩ : ∃ t6, run (exec T (m + 3)) (m + 3) none c_wicketlaw04_SectorLoads_S13 ⟨t5, H4, []⟩ = some (.normal, ⟨t6, H4, []⟩) ∧ KeepsB 11 [9, 10] t5 t6 ∧ t6.get 9 = some (.pointer none) ∧ t6.get 10 = some (.int .i64 2) := by
      simp [c_wicketlaw04_SectorLoads_S13, k5.get j54, x6]
    have x7 := held_ok (m := m + 2) hT.held g4 g34.toRd (by omega)
    obtain ⟨t7, e7, k7⟩ : ∃ t7, run (exec T (m + 3)) (m + 3) none c_wicketlaw04_SectorLoads_S16 ⟨t6, H4, []⟩ = some (.normal, ⟨t7, H4, []⟩) ∧ Keeps 11 t6 t7 := by
      simp [c_wicketlaw04_SectorLoads_S14, c_wicketlaw04_SectorLoads_S15, c_wicketlaw04_SectorLoads_S16, k6.get j8, k6.get j7, j9, j10, k6.get (k5.get j6), k6.get (k5.get j54), x7]
    obtain ⟨t8, e8, j4⟩ := last_refused (T := T) (m := m + 3) (rd := none) (nn := m + 3) (ds := []) hT (H := H4) (k7.get j9)
    refine ⟨H4, ?_, f3.step wf f4 (by simp)⟩
    rw [exec_fn hT.law, run_pre3, e1, seqK_normal, run_seq, e2, seqK_normal, run_seq, e3', seqK_normal, run_seq, e4, seqK_normal, run_seq, e5, seqK_normal, run_seq, e6, seqK_normal, run_seq, e7, seqK_normal, run_seq, e8, seqK_normal, run_ret]
    simp [endOf, takeAll, results?, resOf, endVal, j4]
end Go.Proofs.Ytndpmlncjoglcaa
