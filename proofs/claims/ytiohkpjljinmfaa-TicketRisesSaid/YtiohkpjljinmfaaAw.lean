import Derived.Test.YtiohkpjljinmfaaSm
namespace Go.Proofs.Ytiohkpjljinmfaa
open Go
set_option linter.unusedVariables false
set_option linter.unusedSimpArgs false
variable {T : Nat → Option AFun} {H : Heap} {m : Nat}

theorem awake_ok (hT : Tk T) (hS : T k_wicketlaw11_same = some c_wicketlaw11_same) (hA : T k_wicketlaw11_awake = some c_wicketlaw11_awake) (wf : WF H) (hm : 20 ≤ m) :
    ∃ H', exec T (m + 4) (.fn k_wicketlaw11_awake) [] H = some (.bool true, H') ∧ Fr H H' [] := by
  have f0 := Fr.new (o := .cells [.slice none 0 0, .int .u64 0] false 0) wf []
  have q0 : Qu (H.new (.cells [.slice none 0 0, .int .u64 0] false 0)) H.next (.slice none 0 0) [] 0 := ⟨by simp, .empty⟩
  obtain ⟨s1, H1, e1, q1, f1, b1, c1⟩ := put_ok (m := m + 2) (t := 3) hT q0 f0.wf (by decide) (by decide)
  obtain ⟨s2, H2, e2, q2, f2, b2, c2⟩ := put_ok (m := m + 2) (t := 7) hT q1 f1.wf (by decide) (by decide)
  obtain ⟨s3, H3, e3, q3, f3, b3, c3⟩ := put_ok (m := m + 2) (t := 9) hT q2 f2.wf (by decide) (by decide)
  have e4 := put_refused (m := m + 2) (t := 4) hT q3.at_ (by decide)
  simp only [List.nil_append, List.cons_append] at q1 q2 q3
  have n1 := f0.le; have n2 := f1.le; have n3 := f2.le
  have hb1 : ∀ b ∈ blk s1, H.next ≤ b := fun b hb => by
    rcases b1 b hb with h | h
    · simp [blk] at h
    · omega
  have hb2 : ∀ b ∈ blk s2, H.next ≤ b := fun b hb => by
    rcases b2 b hb with h | h
    · exact hb1 b h
    · omega
  have hb3 : ∀ b ∈ blk s3, H.next ≤ b := fun b hb => by
    rcases b3 b hb with h | h
    · exact hb2 b h
    · omega
  have hcap : capOf s3 ≤ 3 := by simp at c1 c2 c3; omega
  have hcons : ∀ s, (∀ b ∈ blk s, H.next ≤ b) → ∀ r ∈ H.next :: blk s, H.next ≤ r := fun s hs r hr => by
    rcases List.mem_cons.1 hr with rfl | h
    · exact Nat.le_refl _
    · exact hs r h
  have fA : Fr H H3 [] := ((f0.step wf f1 (hcons _ (by simp [blk]))).step wf f2 (hcons _ hb1)).step wf f3 (hcons _ hb2)
  obtain ⟨l, H4, e5, f4, r4, b4⟩ := listed_ok (m := m) (z := -1) hT q3 f3.wf (by simp; omega) (by decide)
  have hup : upTo (-1) [(3 : Int), 7, 9] = [3, 7, 9] := rfl
  rw [hup] at r4
  have q4 := q3.fr f4 (by simp) (by simp)
  obtain ⟨s5, H5, e6, q5, f5, c5, _⟩ := take_some (m := m) hT q4 f4.wf (by omega)
  have hbl : ∀ r ∈ H.next :: blk s3, r ∉ blk l := by
    intro r hr hm
    have h1 := b4 r hm
    rcases List.mem_cons.1 hr with rfl | h
    · have := f3.wf.lt q3.at_; omega
    · have := q3.sl.lt f3.wf r h; omega
  have r5 : Sl H5 1 l 3 (iz .u64 [3, 7, 9]) := r4.fr f5 fun b hb hm => hbl b hm hb
  have fr5 : Fr H H5 [] := (fA.step wf f4 (by simp)).step wf f5 (hcons _ hb3)
  have f6 := Fr.new (o := .cells [.int .u64 3, .int .u64 7, .int .u64 9] false 1) f5.wf []
  have r6 := r5.fr f6 (by simp)
  have q6 := q5.fr f6 (by simp) (by simp)
  have r7 : Sl (H5.new (.cells [.int .u64 3, .int .u64 7, .int .u64 9] false 1)) 1 (.slice (some ⟨H5.next, 0, some 0⟩) 3 3) 3 (iz .u64 [3, 7, 9]) := .full (rest := []) (by simp) rfl rfl
  have e7 := same_ok (m := m + 2) (A := [3, 7, 9]) (B := [3, 7, 9]) hS r6.toRd r7.toRd (by simp; omega) (by simp)
  obtain ⟨H8, e8, f8⟩ := place_ok (m := m) (t := 9) hT q6 f6.wf (by simp; omega) (by simp)
  have hpl : placeOf [(7 : Int), 9] 9 0 = 1 := rfl
  rw [hpl] at e8
  obtain ⟨a5, c5', rfl⟩ := r5.form
  refine ⟨H8, ?_, (fr5.step wf f6 (by simp)).step wf f8 (by simp)⟩
  rw [exec_fn hA]
  simp only [List.append_nil, Nat.add_assoc, Nat.reduceAdd] at e1 e2 e3 e4 e5 e6 e7 e8
  obtain ⟨t2, x2, k2⟩ : ∃ t2, run (exec T (m + 3)) (m + 3) none (.seq c_wicketlaw11_awake_S0 (.seq c_wicketlaw11_awake_S1 c_wicketlaw11_awake_S2)) ⟨.nil, H, []⟩ = some (.normal, ⟨t2, H3, []⟩) ∧
      t2.get 1 = some (.pointer (some ⟨H.next, 0, none⟩)) ∧ t2.get 2 = some (.int .i64 0) ∧ t2.get 3 = some (.int .i64 0) ∧ t2.get 4 = some (.int .i64 0) ∧ t2.get 5 = some (.int .i64 110) := by
    simp [c_wicketlaw11_awake_S0, c_wicketlaw11_awake_S1, c_wicketlaw11_awake_S2, boxK_agg, e1, e2, e3, e4]
  obtain ⟨j1, j2, j3, j4, j5⟩ := k2
  obtain ⟨t4, x4, k4, j6, j7, j8, j9⟩ : ∃ t4, run (exec T (m + 3)) (m + 3) none (.seq c_wicketlaw11_awake_S3 c_wicketlaw11_awake_S4) ⟨t2, H3, []⟩ = some (.normal, ⟨t4, H5, []⟩) ∧ Keeps 6 t2 t4 ∧ t4.get 6 = some (.slice a5 3 c5') ∧ t4.get 7 = some (.bool true) ∧ t4.get 8 = some (.int .u64 3) ∧ t4.get 9 = some (.bool true) := by
    simp [c_wicketlaw11_awake_S3, c_wicketlaw11_awake_S4, j1, e5, e6]
  obtain ⟨t5, x5, k5⟩ : ∃ t5, run (exec T (m + 3)) (m + 3) none c_wicketlaw11_awake_S5 ⟨t4, H5, []⟩ = some (.normal, ⟨t5, H8, []⟩) ∧ t5.get 0 = some (.bool true) := by
    simp (maxSteps := 1000000) [c_wicketlaw11_awake_S5, k4.get j1, k4.get j2, k4.get j3, k4.get j4, k4.get j5, j6, j7, j8, j9, writeAt, e7, e8]
  have xx : run (exec T (m + 3)) (m + 3) none c_wicketlaw11_awake.body ⟨.nil, H, []⟩ = some (.ret, ⟨t5, H8, []⟩) := by
    rw [c_wicketlaw11_awake, run_pre3, x2, seqK_normal, run_pre2, x4, seqK_normal, run_seq, x5, seqK_normal, run_ret]
  show endK [.tmp 0] (run (exec T (m + 3)) (m + 3) none c_wicketlaw11_awake.body ⟨initTm 0 .nil [], H, []⟩) = _
  rw [initTm_nil, xx]
  simp [endOf, takeAll, results?, resOf, endVal, k5]
end Go.Proofs.Ytiohkpjljinmfaa
