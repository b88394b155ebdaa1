/- Buffers: forms. -/
import Derived.Test.YtbndnokcffailaaBaCode
import Derived.Test.YtbndnokcffailaaLp
import Derived.Test.YtbndnokcffailaaDr
namespace Go.Proofs.Ytbndnokcffailaa
open Go
set_option linter.unusedVariables false
set_option linter.unusedSimpArgs false
variable {T : Nat → Option AFun} {H : Heap} {m : Nat} {v : Value} {L : List Int} {t : Int}

theorem refHas_ok (hT : T k_wicketref05_Has = some c_wicketref05_Has) (h : Rd H 1 v L.length (iz .i64 L)) (hm : L.length < m) (hb : L.length ≤ 1000000) :
    exec T (m + 1) (.fn k_wicketref05_Has) [v, .int .i64 t] H = some (.bool (decide (t ∈ L)), H) := by
  obtain ⟨a, c, rfl, _, hall⟩ := h.all
  obtain ⟨t1, e1, r0, r1, r5⟩ : ∃ t1, run (exec T m) m none (.seq c_wicketref05_Has_S0 c_wicketref05_Has_S1) ⟨initTm 0 .nil [.slice a L.length c, .int .i64 t], H, []⟩ = some (.normal, ⟨t1, H, []⟩) ∧ t1.get 0 = some (.slice a L.length c) ∧ t1.get 1 = some (.int .i64 t) ∧ t1.get 5 = some (.int .i64 (0 : Nat)) := by
    simp [c_wicketref05_Has_S0, c_wicketref05_Has_S1]
  obtain ⟨e, ⟨t2, H2, ds2⟩, e2, hne, hH, hds, hQ⟩ := loop_up (f := run (exec T m) m none c_wicketref05_Has_L7) (a := 0) (n := L.length) (m := m) (s := ⟨t1, H, []⟩)
    (J := fun j s => s.h = H ∧ s.ds = [] ∧ s.tm.get 0 = some (.slice a L.length c) ∧ s.tm.get 1 = some (.int .i64 t) ∧ s.tm.get 5 = some (.int .i64 (j : Nat)) ∧ t ∉ L.take j)
    (Q := fun e s => s.h = H ∧ s.ds = [] ∧ ((e = .exit 0 ∧ t ∉ L) ∨ (e = .ret ∧ t ∈ L ∧ s.tm.get 4 = some (.bool true)))) (by omega) (Nat.zero_le _) ⟨rfl, rfl, r0, r1, r5, by simp⟩ (by
      rintro j ⟨tm, H', ds⟩ hj ⟨hH, hds, u0, u1, u5, hn⟩
      simp only at hH hds u0 u1 u5
      subst hH hds
      obtain ⟨b, sp, rfl, hr⟩ := hall j hj
      have hj' : (j : Int) < L.length := by omega
      have w1 : IntKind.i64.wrap ((j : Int) + 1) = ((j + 1 : Nat) : Int) := by rw [wrap_i64 (by omega) (by omega)]; rfl
      by_cases he : L[j] = t
      · obtain ⟨t3, g3, q4⟩ : ∃ t3, run (exec T m) m none c_wicketref05_Has_L7 ⟨tm, H', []⟩ = some (.ret, ⟨t3, H', []⟩) ∧ t3.get 4 = some (.bool true) := by
          simp (maxSteps := 1000000) (disch := first | omega | (simp; omega) | (simp; done) | fail) [-Int.natCast_add, c_wicketref05_Has_L7, c_wicketref05_Has_S2, c_wicketref05_Has_S3, c_wicketref05_Has_S4, c_wicketref05_Has_S5, c_wicketref05_Has_S6, u0, u1, u5, goInt, hj, hj', idxK_of, hr, he]
        exact ⟨_, _, g3, .inr ⟨by simp, rfl, rfl, .inr ⟨rfl, he ▸ List.getElem_mem hj, q4⟩⟩⟩
      · obtain ⟨t3, g3, q0, q1, q5⟩ : ∃ t3, run (exec T m) m none c_wicketref05_Has_L7 ⟨tm, H', []⟩ = some (.normal, ⟨t3, H', []⟩) ∧ t3.get 0 = some (.slice (some ⟨b, 0, sp⟩) L.length c) ∧ t3.get 1 = some (.int .i64 t) ∧ t3.get 5 = some (.int .i64 ((j + 1 : Nat) : Int)) := by
          simp (maxSteps := 1000000) (disch := first | omega | (simp; omega) | (simp; done) | fail) [-Int.natCast_add, c_wicketref05_Has_L7, c_wicketref05_Has_S2, c_wicketref05_Has_S3, c_wicketref05_Has_S4, c_wicketref05_Has_S5, c_wicketref05_Has_S6, u0, u1, u5, goInt, hj, hj', idxK_of, hr, he, w1]
        exact ⟨_, _, g3, .inl ⟨rfl, rfl, rfl, q0, q1, q5, by rw [mem_take_succ hj]; simp only [hn, false_or]; exact fun h => he h.symm⟩⟩) (by
      rintro ⟨tm, H', ds⟩ ⟨hH, hds, u0, u1, u5, hn⟩
      simp only at hH hds u0 u1 u5
      subst hH hds
      rw [List.take_length] at hn
      obtain ⟨t3, g3⟩ : ∃ t3, run (exec T m) m none c_wicketref05_Has_L7 ⟨tm, H', []⟩ = some (.exit 0, ⟨t3, H', []⟩) := by
        simp [c_wicketref05_Has_L7, c_wicketref05_Has_S2, c_wicketref05_Has_S3, c_wicketref05_Has_S4, c_wicketref05_Has_S5, c_wicketref05_Has_S6, u0, u5, goInt]
      exact ⟨_, _, g3, by simp, rfl, rfl, .inl ⟨rfl, hn⟩⟩)
  simp only at hH hds hQ
  subst hH hds
  have e3 : run (exec T m) m none (.seq c_wicketref05_Has_S0 c_wicketref05_Has_S8) ⟨initTm 0 .nil [.slice a L.length c, .int .i64 t], H2, []⟩ = blockK 0 (some (e, ⟨t2, H2, []⟩)) := by
    rw [c_wicketref05_Has_S8, run_pre2, e1, seqK_normal, run_block, run_loop, e2]
  rw [exec_fn hT, run_pre2, e3]
  rcases hQ with ⟨rfl, hn⟩ | ⟨rfl, hi, q4⟩
  · simp [c_wicketref05_Has_S9, endOf, takeAll, results?, resOf, endVal, hn]
  · simp [c_wicketref05_Has_S9, endOf, takeAll, results?, resOf, endVal, hi, q4]

theorem index_ok (hT : T k_slices_Index_int_int = some c_slices_Index_int_int) (h : Rd H 1 v L.length (iz .i64 L)) (hm : L.length < m) (hb : L.length ≤ 1000000) :
    ∃ r : Int, exec T (m + 1) (.fn k_slices_Index_int_int) [v, .int .i64 t] H = some (.int .i64 r, H) ∧ (0 ≤ r ↔ t ∈ L) := by
  obtain ⟨a, c, rfl, _, hall⟩ := h.all
  obtain ⟨t1, e1, r0, r1, r7, r8⟩ : ∃ t1, run (exec T m) m none (.seq c_slices_Index_int_int_S0 c_slices_Index_int_int_S1) ⟨initTm 0 .nil [.slice a L.length c, .int .i64 t], H, []⟩ = some (.normal, ⟨t1, H, []⟩) ∧ t1.get 0 = some (.slice a L.length c) ∧ t1.get 1 = some (.int .i64 t) ∧ t1.get 7 = some (.int .i64 L.length) ∧ t1.get 8 = some (.int .i64 (0 : Nat)) := by
    simp [c_slices_Index_int_int_S0, c_slices_Index_int_int_S1, goInt]
  obtain ⟨e, ⟨t2, H2, ds2⟩, e2, hne, hH, hds, hQ⟩ := loop_up (f := run (exec T m) m none c_slices_Index_int_int_L8) (a := 0) (n := L.length) (m := m) (s := ⟨t1, H, []⟩)
    (J := fun j s => s.h = H ∧ s.ds = [] ∧ s.tm.get 0 = some (.slice a L.length c) ∧ s.tm.get 1 = some (.int .i64 t) ∧ s.tm.get 7 = some (.int .i64 L.length) ∧ s.tm.get 8 = some (.int .i64 (j : Nat)) ∧ t ∉ L.take j)
    (Q := fun e s => s.h = H ∧ s.ds = [] ∧ ((e = .exit 0 ∧ t ∉ L) ∨ (e = .ret ∧ t ∈ L ∧ ∃ j : Nat, s.tm.get 4 = some (.int .i64 (j : Nat))))) (by omega) (Nat.zero_le _) ⟨rfl, rfl, r0, r1, r7, r8, by simp⟩ (by
      rintro j ⟨tm, H', ds⟩ hj ⟨hH, hds, u0, u1, u7, u8, hn⟩
      simp only at hH hds u0 u1 u7 u8
      subst hH hds
      obtain ⟨b, sp, rfl, hr⟩ := hall j hj
      have hj' : (j : Int) < L.length := by omega
      have w1 : IntKind.i64.wrap ((j : Int) + 1) = ((j + 1 : Nat) : Int) := by rw [wrap_i64 (by omega) (by omega)]; rfl
      by_cases he : t = L[j]
      · obtain ⟨t3, g3, q4⟩ : ∃ t3, run (exec T m) m none c_slices_Index_int_int_L8 ⟨tm, H', []⟩ = some (.ret, ⟨t3, H', []⟩) ∧ t3.get 4 = some (.int .i64 (j : Nat)) := by
          simp (maxSteps := 1000000) (disch := first | omega | (simp; omega) | (simp; done) | fail) [-Int.natCast_add, c_slices_Index_int_int_L8, c_slices_Index_int_int_S2, c_slices_Index_int_int_S3, c_slices_Index_int_int_S4, c_slices_Index_int_int_S5, c_slices_Index_int_int_S6, c_slices_Index_int_int_S7, u0, u1, u7, u8, hj, hj', idxK_of, hr, he]
        exact ⟨_, _, g3, .inr ⟨by simp, rfl, rfl, .inr ⟨rfl, he ▸ List.getElem_mem hj, j, q4⟩⟩⟩
      · obtain ⟨t3, g3, q0, q1, q7, q8⟩ : ∃ t3, run (exec T m) m none c_slices_Index_int_int_L8 ⟨tm, H', []⟩ = some (.normal, ⟨t3, H', []⟩) ∧ t3.get 0 = some (.slice (some ⟨b, 0, sp⟩) L.length c) ∧ t3.get 1 = some (.int .i64 t) ∧ t3.get 7 = some (.int .i64 L.length) ∧ t3.get 8 = some (.int .i64 ((j + 1 : Nat) : Int)) := by
          simp (maxSteps := 1000000) (disch := first | omega | (simp; omega) | (simp; done) | fail) [-Int.natCast_add, c_slices_Index_int_int_L8, c_slices_Index_int_int_S2, c_slices_Index_int_int_S3, c_slices_Index_int_int_S4, c_slices_Index_int_int_S5, c_slices_Index_int_int_S6, c_slices_Index_int_int_S7, u0, u1, u7, u8, hj, hj', idxK_of, hr, he, w1]
        exact ⟨_, _, g3, .inl ⟨rfl, rfl, rfl, q0, q1, q7, q8, by rw [mem_take_succ hj]; simp only [hn, false_or]; exact he⟩⟩) (by
      rintro ⟨tm, H', ds⟩ ⟨hH, hds, u0, u1, u7, u8, hn⟩
      simp only at hH hds u0 u1 u7 u8
      subst hH hds
      rw [List.take_length] at hn
      obtain ⟨t3, g3⟩ : ∃ t3, run (exec T m) m none c_slices_Index_int_int_L8 ⟨tm, H', []⟩ = some (.exit 0, ⟨t3, H', []⟩) := by
        simp [c_slices_Index_int_int_L8, c_slices_Index_int_int_S2, c_slices_Index_int_int_S3, c_slices_Index_int_int_S4, c_slices_Index_int_int_S5, c_slices_Index_int_int_S6, c_slices_Index_int_int_S7, u7, u8, goInt]
      exact ⟨_, _, g3, by simp, rfl, rfl, .inl ⟨rfl, hn⟩⟩)
  simp only at hH hds hQ
  subst hH hds
  have e3 : run (exec T m) m none (.seq c_slices_Index_int_int_S0 c_slices_Index_int_int_S9) ⟨initTm 0 .nil [.slice a L.length c, .int .i64 t], H2, []⟩ = blockK 0 (some (e, ⟨t2, H2, []⟩)) := by
    rw [c_slices_Index_int_int_S9, run_pre2, e1, seqK_normal, run_block, run_loop, e2]
  rw [exec_fn hT, run_pre2, e3]
  rcases hQ with ⟨rfl, hn⟩ | ⟨rfl, hi, j, q4⟩
  · exact ⟨-1, by simp [c_slices_Index_int_int_S10, endOf, takeAll, results?, resOf, endVal], by simp [hn]⟩
  · exact ⟨j, by simp [c_slices_Index_int_int_S10, endOf, takeAll, results?, resOf, endVal, q4], by simp [hi]⟩

structure FoT (T : Nat → Option AFun) : Prop where
  index : T k_slices_Index_int_int = some c_slices_Index_int_int
  contains : T k_slices_Contains_int_int = some c_slices_Contains_int_int
  has : T k_blocks_Has = some c_blocks_Has

theorem has_ok (hT : FoT T) (h : Rd H 1 v L.length (iz .i64 L)) (hm : L.length < m) (hb : L.length ≤ 1000000) :
    exec T (m + 3) (.fn k_blocks_Has) [v, .int .i64 t] H = some (.bool (decide (t ∈ L)), H) := by
  obtain ⟨r, e1, hr⟩ := index_ok (t := t) hT.index h hm hb
  have e2 : exec T (m + 2) (.fn k_slices_Contains_int_int) [v, .int .i64 t] H = some (.bool (decide (t ∈ L)), H) := by
    obtain ⟨a, c, rfl⟩ := h.form
    rw [exec_fn hT.contains]
    simp [e1, endOf, takeAll, results?, resOf, endVal, hr]
  obtain ⟨a, c, rfl⟩ := h.form
  rw [exec_fn hT.has]
  simp [e2, endOf, takeAll, results?, resOf, endVal]
end Go.Proofs.Ytbndnokcffailaa
