/- Buffers: is it a form; copies. -/
import Derived.Test.YtbndnokcffailaaBa1
namespace Go.Proofs.Ytbndnokcffailaa
open Go
set_option linter.unusedVariables false
set_option linter.unusedSimpArgs false
variable {T : Nat → Option AFun} {H : Heap} {m : Nat} {v : Value} {L : List Int} {t : Int}

def Good (L : List Int) : Prop := 1 ≤ L.length ∧ L.length ≤ 16 ∧ (∀ h : 0 < L.length, 0 ≤ L[0]) ∧ (∀ h : 0 < L.length, L[L.length - 1] < 64) ∧ ∀ j, 1 ≤ j → (h : j < L.length) → L[j - 1] < L[j]
noncomputable def isB (L : List Int) : Bool := by classical exact decide (Good L)
theorem isB_true (h : Good L) : isB L = true := by simp [isB, h]
theorem isB_false (h : ¬ Good L) : isB L = false := by simp [isB, h]
theorem Good.lt (h : Good L) : ∀ {j i : Nat} (hj : j < L.length) (hi : i < j), L[i]'(by omega) < L[j] := by
  intro j
  induction j with
  | zero => intro i hj hi; omega
  | succ j ih =>
    intro i hj hi
    have h1 := h.2.2.2.2 (j + 1) (by omega) hj
    simp only [Nat.add_sub_cancel] at h1
    rcases Nat.lt_or_ge i j with h2 | h2
    · have := ih (i := i) (by omega) h2; omega
    · obtain rfl : i = j := by omega
      exact h1
theorem Good.nodup (h : Good L) : L.Nodup := by
  refine List.pairwise_iff_getElem.2 fun i j hi hj hij he => ?_
  have := h.lt hj hij
  omega

theorem is_ok (hT : T k_blocks_Is = some c_blocks_Is) (h : Rd H 1 v L.length (iz .i64 L)) (hm : 20 ≤ m) (hb : L.length ≤ maxLen) :
    exec T (m + 1) (.fn k_blocks_Is) [v] H = some (.bool (isB L), H) := by
  obtain ⟨a, c, rfl, _, hall⟩ := h.all
  have hb' : (L.length : Int) ≤ 9223372036854775807 := by have : maxLen ≤ 9223372036854775807 := by decide
                                                          omega
  by_cases h0 : L.length < 1
  · have h0' : (L.length : Int) < 1 := by omega
    rw [isB_false (fun g => by have := g.1; omega), exec_fn hT]
    simp (maxSteps := 1000000) (disch := first | omega | (simp; omega) | (simp; done) | fail) [c_blocks_Is_S0, c_blocks_Is_S1, c_blocks_Is_S2, c_blocks_Is_S3, goInt, h0, h0', endOf, takeAll, results?, resOf, endVal]
  have h0' : ¬ (L.length : Int) < 1 := by omega
  obtain ⟨b, sp, rfl, hr0⟩ := hall 0 (by omega)
  by_cases h1 : 16 < L.length
  · have h1' : (16 : Int) < L.length := by omega
    rw [isB_false (fun g => by have := g.2.1; omega), exec_fn hT]
    simp (maxSteps := 1000000) (disch := first | omega | (simp; omega) | (simp; done) | fail) [c_blocks_Is_S0, c_blocks_Is_S1, c_blocks_Is_S2, c_blocks_Is_S3, goInt, h0, h0', h1, h1', endOf, takeAll, results?, resOf, endVal]
  have h1' : ¬ (16 : Int) < L.length := by omega
  by_cases h2 : L[0] < 0
  · rw [isB_false (fun g => by have := g.2.2.1 (by omega); omega), exec_fn hT]
    simp (maxSteps := 1000000) (disch := first | omega | (simp; omega) | (simp; done) | fail) [c_blocks_Is_S0, c_blocks_Is_S1, c_blocks_Is_S2, c_blocks_Is_S3, goInt, h0, h0', h1, h1', idxK_of, hr0, h2, endOf, takeAll, results?, resOf, endVal]
  obtain ⟨b', sp', hbb, hrn⟩ := hall (L.length - 1) (by omega)
  cases hbb
  have wn : IntKind.i64.wrap ((L.length : Int) - 1) = ((L.length - 1 : Nat) : Int) := by rw [wrap_i64 (by omega) (by omega)]; omega
  have hln : ((L.length - 1 : Nat) : Int) < L.length := by omega
  by_cases h3 : 64 ≤ L[L.length - 1]
  · rw [isB_false (fun g => by have := g.2.2.2.1 (by omega); omega), exec_fn hT]
    simp (maxSteps := 1000000) (disch := first | omega | (simp; omega) | (simp; done) | fail) [c_blocks_Is_S0, c_blocks_Is_S1, c_blocks_Is_S2, c_blocks_Is_S3, goInt, h0, h0', h1, h1', idxK_of, hr0, h2, wn, hrn, h3, endOf, takeAll, results?, resOf, endVal]
  obtain ⟨t1, e1, r0⟩ : ∃ t1, run (exec T m) m none (.seq c_blocks_Is_S0 c_blocks_Is_S3) ⟨initTm 0 .nil [.slice (some ⟨b, 0, sp⟩) L.length c], H, []⟩ = some (.normal, ⟨t1, H, []⟩) ∧ t1.get 0 = some (.slice (some ⟨b, 0, sp⟩) L.length c) := by
    simp (maxSteps := 1000000) (disch := first | omega | (simp; omega) | (simp; done) | fail) [c_blocks_Is_S0, c_blocks_Is_S1, c_blocks_Is_S2, c_blocks_Is_S3, goInt, h0, h0', h1, h1', idxK_of, hr0, h2, wn, hrn, h3]
  obtain ⟨t1', e1', r0', r3⟩ : ∃ t2, run (exec T m) m none c_blocks_Is_S4 ⟨t1, H, []⟩ = some (.normal, ⟨t2, H, []⟩) ∧ t2.get 0 = some (.slice (some ⟨b, 0, sp⟩) L.length c) ∧ t2.get 3 = some (.int .i64 (1 : Nat)) := by
    simp [c_blocks_Is_S4, r0]
  obtain ⟨e, ⟨t2, H2, ds2⟩, e2, hne, hH, hds, hQ⟩ := loop_up (f := run (exec T m) m none c_blocks_Is_L10) (a := 1) (n := L.length) (m := m) (s := ⟨t1', H, []⟩)
    (J := fun j s => s.h = H ∧ s.ds = [] ∧ s.tm.get 0 = some (.slice (some ⟨b, 0, sp⟩) L.length c) ∧ s.tm.get 3 = some (.int .i64 (j : Nat)) ∧ 1 ≤ j ∧ ∀ i, 1 ≤ i → i < j → (h : i < L.length) → L[i - 1] < L[i])
    (Q := fun e s => s.h = H ∧ s.ds = [] ∧ ((e = .exit 0 ∧ Good L) ∨ (e = .ret ∧ ¬ Good L ∧ s.tm.get 2 = some (.bool false)))) (by omega) (by omega) ⟨rfl, rfl, r0', r3, Nat.le_refl _, fun i h1 h2 => by omega⟩ (by
      rintro j ⟨tm, H', ds⟩ hj ⟨hH, hds, u0, u3, hj1, hn⟩
      simp only at hH hds u0 u3
      subst hH hds
      obtain ⟨b1, sp1, hbb, hr⟩ := hall j hj
      cases hbb
      obtain ⟨b1, sp1, hbb, hr'⟩ := hall (j - 1) (by omega)
      cases hbb
      have hj' : (j : Int) < L.length := by omega
      have hj2 : ((j - 1 : Nat) : Int) < L.length := by omega
      have w1 : IntKind.i64.wrap ((j : Int) + 1) = ((j + 1 : Nat) : Int) := by rw [wrap_i64 (by omega) (by omega)]; rfl
      have w2 : IntKind.i64.wrap ((j : Int) - 1) = ((j - 1 : Nat) : Int) := by rw [wrap_i64 (by omega) (by omega)]; omega
      by_cases he : L[j] ≤ L[j - 1]
      · obtain ⟨t3, g3, q2⟩ : ∃ t3, run (exec T m) m none c_blocks_Is_L10 ⟨tm, H', []⟩ = some (.ret, ⟨t3, H', []⟩) ∧ t3.get 2 = some (.bool false) := by
          simp (maxSteps := 1000000) (disch := first | omega | (simp; omega) | (simp; done) | fail) [-Int.natCast_add, c_blocks_Is_L10, c_blocks_Is_S5, c_blocks_Is_S6, c_blocks_Is_S7, c_blocks_Is_S8, c_blocks_Is_S9, u0, u3, goInt, hj, hj', hj2, idxK_of, hr, hr', w2, he]
        exact ⟨_, _, g3, .inr ⟨by simp, rfl, rfl, .inr ⟨rfl, fun g => by have := g.2.2.2.2 j hj1 hj; omega, q2⟩⟩⟩
      · obtain ⟨t3, g3, q0, q3⟩ : ∃ t3, run (exec T m) m none c_blocks_Is_L10 ⟨tm, H', []⟩ = some (.normal, ⟨t3, H', []⟩) ∧ t3.get 0 = some (.slice (some ⟨b, 0, sp⟩) L.length c) ∧ t3.get 3 = some (.int .i64 ((j + 1 : Nat) : Int)) := by
          simp (maxSteps := 1000000) (disch := first | omega | (simp; omega) | (simp; done) | fail) [-Int.natCast_add, c_blocks_Is_L10, c_blocks_Is_S5, c_blocks_Is_S6, c_blocks_Is_S7, c_blocks_Is_S8, c_blocks_Is_S9, u0, u3, goInt, hj, hj', hj2, idxK_of, hr, hr', w2, he, w1]
        refine ⟨_, _, g3, .inl ⟨rfl, rfl, rfl, q0, q3, by omega, fun i h1 h2 h3 => ?_⟩⟩
        rcases Nat.lt_or_ge i j with h4 | h4
        · exact hn i h1 h4 h3
        · obtain rfl : i = j := by omega
          omega) (by
      rintro ⟨tm, H', ds⟩ ⟨hH, hds, u0, u3, _, hn⟩
      simp only at hH hds u0 u3
      subst hH hds
      obtain ⟨t3, g3⟩ : ∃ t3, run (exec T m) m none c_blocks_Is_L10 ⟨tm, H', []⟩ = some (.exit 0, ⟨t3, H', []⟩) := by
        simp [c_blocks_Is_L10, c_blocks_Is_S5, c_blocks_Is_S6, c_blocks_Is_S7, c_blocks_Is_S8, c_blocks_Is_S9, u0, u3, goInt]
      exact ⟨_, _, g3, by simp, rfl, rfl, .inl ⟨rfl, by omega, by omega, fun _ => by omega, fun _ => by omega, fun j h1 h2 => hn j h1 h2 h2⟩⟩)
  simp only at hH hds hQ
  subst hH hds
  have e3 : run (exec T m) m none c_blocks_Is_S11 ⟨t1, H2, []⟩ = blockK 0 (some (e, ⟨t2, H2, []⟩)) := by
    rw [c_blocks_Is_S11, run_seq, e1', seqK_normal, run_block, run_loop, e2]
  rw [exec_fn hT, run_pre2, e1, seqK_normal, run_seq, e3]
  rcases hQ with ⟨rfl, hn⟩ | ⟨rfl, hn, q2⟩
  · simp [c_blocks_Is_S12, endOf, takeAll, results?, resOf, endVal, isB_true hn]
  · simp [c_blocks_Is_S12, endOf, takeAll, results?, resOf, endVal, isB_false hn, q2]

theorem clone_ok (hT : T k_slices_Clone_int_int = some c_slices_Clone_int_int) {n : Nat} {cs : List Value} (h : Rd H 1 v n cs) (wf : WF H) (h0 : 0 < n) (hbig : n ≤ 1000000) :
    ∃ s' H', exec T (m + 1) (.fn k_slices_Clone_int_int) [v] H = some (s', H') ∧ Sl H' 1 s' n cs ∧ Fr H H' [] ∧ (∀ b ∈ blk s', H.next ≤ b) ∧ capOf s' ≤ n := by
  have f1 := Fr.new (o := .cells [] false 1) wf []
  have hs0 : Sl (H.new (.cells [] false 1)) 1 (.slice (some ⟨H.next, 0, some 0⟩) 0 0) 0 [] := .full (rest := []) (by simp) rfl rfl
  have hrd : Rd (H.new (.cells [] false 1)) 1 v n cs := by
    have hne : ∀ b, (∃ o k x, readCells H b o k = some x) → b ≠ H.next := by
      rintro b ⟨o, k, x, hx⟩ rfl
      simp only [readCells, wf H.next (Nat.le_refl _)] at hx
      cases hx
    have keep : ∀ b o k x, readCells H b o k = some x → readCells (H.new (.cells [] false 1)) b o k = some x := fun b o k x hx => by
      have := hne b ⟨o, k, x, hx⟩
      simp only [readCells] at hx ⊢
      rw [Heap.get_new, if_neg this]; exact hx
    exact h.fr keep fun b n x hx => by
      cases b with
      | none => exact hx
      | some q => exact keep _ _ _ _ hx
  obtain ⟨s', H', e, g1, g2, g3, g4⟩ := hs0.appendR hrd f1.wf (Nat.le_refl 1) (bytes := 8) (by omega)
  simp only [Nat.zero_add, List.nil_append] at g1 g4
  obtain ⟨b, sp, c, rfl, _⟩ := h.read 0 h0
  obtain ⟨a', c', rfl⟩ := g1.form
  refine ⟨_, H', ?_, g1, f1.step wf g2 (by simp [blk]), ?_, by simpa using g4⟩
  · rw [exec_fn hT]
    simp [endOf, takeAll, results?, resOf, endVal, e]
  · intro b hb
    rcases g3 b hb with h1 | h1
    · simp [blk] at h1; omega
    · simp at h1; omega
end Go.Proofs.Ytbndnokcffailaa
