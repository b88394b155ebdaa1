/- BufferAgain: the second loop. -/
import Derived.Test.YtbndnokcffailaaBa6
namespace Go.Proofs.Ytbndnokcffailaa
open Go
set_option linter.unusedVariables false
set_option linter.unusedSimpArgs false
variable {T : Nat → Option AFun} {H : Heap} {m : Nat} {v : Value} {L : List Int} {t : Int}

theorem loop2_ok (hT : BaT T) {H0 : Heap} (w0 : WF H0) {kv : List (Int × List Int)} {tn : Bool} (hg : Good L) (hkv : Kv L kv) (hm : 200 ≤ m)
    {lb mb lc mc : Nat} {sb sc ls a0 : Value} {tm : Tr Value} {H1 : Heap} (hb : Bf H1 lb mb sb L kv) (hc : Bf H1 lc mc sc L []) (hs : Sl H1 33 ls (imgs L kv).length ((imgs L kv).flatMap img)) (hf : Fr H0 H1 []) (hmc : H0.next ≤ mc)
    (d1 : lb ≠ mc) (d2 : mb ≠ mc) (d3 : mc ∉ blk sb) (d4 : mc ∉ blk ls)
    (r0 : tm.get 0 = some a0) (r2 : tm.get 2 = some (.bool tn)) (r7 : tm.get 7 = some (.pointer (some ⟨lb, 0, none⟩))) (r14 : tm.get 14 = some ls) (r15 : tm.get 15 = some (.pointer (some ⟨lc, 0, none⟩))) (r17 : tm.get 17 = some (.int .i64 (0 : Nat))) :
    ∃ e s', loopN (run (exec T (m + 5)) (m + 5) none c_wicketlaw16_BufferAgain_L32) (m + 5) ⟨tm, H1, []⟩ = some (e, s') ∧ e ≠ .normal ∧ e = .exit 2 ∧ s'.ds = [] ∧ s'.tm.get 0 = some a0 ∧ s'.tm.get 7 = some (.pointer (some ⟨lb, 0, none⟩)) ∧ s'.tm.get 14 = some ls ∧ s'.tm.get 15 = some (.pointer (some ⟨lc, 0, none⟩)) ∧
      Fr H0 s'.h [] ∧ Bf s'.h lb mb sb L kv ∧ Bf s'.h lc mc sc L (order tn (imgs L kv)) ∧ Sl s'.h 33 ls (imgs L kv).length ((imgs L kv).flatMap img) := by
  have hl := hg.2.1
  have hn : (imgs L kv).length ≤ L.length := imgs_le
  have hI := imgs_len (M := L) hkv
  have hO := order_kv (tn := tn) hg hkv
  have hOl := order_length (tn := tn) (M := imgs L kv)
  refine loop_up (a := 0) (n := (imgs L kv).length)
    (J := fun j s => s.ds = [] ∧ s.tm.get 0 = some a0 ∧ s.tm.get 2 = some (.bool tn) ∧ s.tm.get 7 = some (.pointer (some ⟨lb, 0, none⟩)) ∧ s.tm.get 14 = some ls ∧ s.tm.get 15 = some (.pointer (some ⟨lc, 0, none⟩)) ∧ s.tm.get 17 = some (.int .i64 (j : Nat)) ∧
      Fr H0 s.h [] ∧ Bf s.h lb mb sb L kv ∧ Bf s.h lc mc sc L ((order tn (imgs L kv)).take j) ∧ Sl s.h 33 ls (imgs L kv).length ((imgs L kv).flatMap img)) (by omega) (Nat.zero_le _)
    ⟨rfl, r0, r2, r7, r14, r15, r17, hf, hb, by simpa using hc, hs⟩ ?_ ?_
  · rintro j ⟨tm, H, ds⟩ hj ⟨hds, u0, u2, u7, u14, u15, u17, uf, ub, uc, us⟩
    simp only at hds u0 u2 u7 u14 u15 u17 uf ub uc us
    subst hds
    have hj' : (j : Int) < (imgs L kv).length := by omega
    have w1 : IntKind.i64.wrap ((j : Int) + 1) = ((j + 1 : Nat) : Int) := by rw [wrap_i64 (by omega) (by omega)]; rfl
    obtain ⟨k, hk, hkw, hok⟩ : ∃ k, k < (imgs L kv).length ∧ (tn = false → k = j) ∧ (order tn (imgs L kv))[j]? = (imgs L kv)[k]? ∧ (tn = true → k = (imgs L kv).length - 1 - j) := by
      cases tn with
      | false => exact ⟨j, hj, fun _ => rfl, rfl, fun h => by cases h⟩
      | true => exact ⟨(imgs L kv).length - 1 - j, by omega, (fun h => by cases h), by simp only [order, if_true]; rw [List.getElem?_reverse (by omega)], fun _ => rfl⟩
    obtain ⟨hok, hkt⟩ := hok
    have hok2 : (order tn (imgs L kv))[j]'(by omega) = (imgs L kv)[k] := by
      rw [List.getElem?_eq_getElem (by omega), List.getElem?_eq_getElem hk] at hok
      exact Option.some.inj hok
    obtain ⟨bb, sp, cc, hv, x1, x2⟩ := us.toRd.img hI hk
    have hw32 := hI _ (List.getElem_mem hk)
    have htL := (mem_imgs.1 (List.getElem_mem hk)).1
    subst hv
    -- which one
    have wa : IntKind.i64.wrap (((imgs L kv).length : Int) - 1) = ((imgs L kv).length - 1 : Nat) := by rw [wrap_i64 (by omega) (by omega)]; omega
    have wb : IntKind.i64.wrap ((((imgs L kv).length - 1 : Nat) : Int) - j) = (((imgs L kv).length - 1 - j : Nat) : Int) := by rw [wrap_i64 (by omega) (by omega)]; omega
    obtain ⟨t0, e0, k0⟩ : ∃ t0, run (exec T (m + 5)) (m + 5) none c_wicketlaw16_BufferAgain_S25 ⟨tm, H, []⟩ = some (.normal, ⟨t0, H, []⟩) ∧ Keeps 18 tm t0 := by
      simp (maxSteps := 1000000) (disch := first | omega | (simp; omega) | (simp; done) | fail) [c_wicketlaw16_BufferAgain_S24, c_wicketlaw16_BufferAgain_S25, u14, u17, goInt, hj, hj']
    have s2 := k0.get u2; have s14 := k0.get u14; have s17 := k0.get u17
    obtain ⟨t1, e1, k1, q18⟩ : ∃ t1, run (exec T (m + 5)) (m + 5) none (.seq c_wicketlaw16_BufferAgain_S26 c_wicketlaw16_BufferAgain_S28) ⟨t0, H, []⟩ = some (.normal, ⟨t1, H, []⟩) ∧ Keeps 18 t0 t1 ∧ t1.get 18 = some (.int .i64 (k : Nat)) := by
      cases tn with
      | false =>
        rw [hkw rfl]
        simp (maxSteps := 1000000) (disch := first | omega | (simp; omega) | (simp; done) | fail) [c_wicketlaw16_BufferAgain_S26, c_wicketlaw16_BufferAgain_S27, c_wicketlaw16_BufferAgain_S28, s2, s14, s17, goInt]
      | true =>
        rw [hkt rfl]
        simp (maxSteps := 1000000) (disch := first | omega | (simp; omega) | (simp; done) | fail) [c_wicketlaw16_BufferAgain_S26, c_wicketlaw16_BufferAgain_S27, c_wicketlaw16_BufferAgain_S28, s2, s14, s17, goInt, wa, wb]
    have kk := k0.trans k1
    have q14 := kk.get u14; have q15 := kk.get u15; have q17 := kk.get u17
    obtain ⟨H2, c2, b2, f2⟩ := bwrite_ok (m := m) hT uc uf.wf hl (by omega) hw32 htL
    rw [← hok2, putV_take hO (by omega)] at b2
    have uf2 := uf.step w0 f2 (by simpa using hmc)
    have ub2 := ub.fr f2 (by simpa using d1) (by simpa using d2) (by intro b hb; simp only [List.mem_singleton]; rintro rfl; exact d3 hb)
    have us2 := us.frq f2 d4
    have hk' : (k : Int) < (imgs L kv).length := by omega
    obtain ⟨t2, e2, k2⟩ : ∃ t2, run (exec T (m + 5)) (m + 5) none (.seq c_wicketlaw16_BufferAgain_S29 (.cond (.tmp 181) (.seq c_wicketlaw16_BufferAgain_S30 .ret) .skip)) ⟨t1, H, []⟩ = some (.normal, ⟨t2, H2, []⟩) ∧ Keeps 18 t1 t2 := by
      by_cases h0 : j = 0
      · subst h0
        simp (maxSteps := 1000000) (disch := first | omega | (simp; omega) | (simp; done) | fail) [c_wicketlaw16_BufferAgain_S29, c_wicketlaw16_BufferAgain_S30, q14, q15, q17, q18, idxK_of, x1, x2, c2]
      · obtain ⟨bb1, sp1, cc1, hv1, y1, _⟩ := us2.toRd.img hI hj
        cases hv1
        obtain ⟨bb1, sp1, cc1, hv1, y2, _⟩ := us2.toRd.img hI (j := j - 1) (by omega)
        cases hv1
        have hlt := List.pairwise_iff_getElem.1 (imgs_lt (kv := kv) hg) (j - 1) j (by omega) hj (by omega)
        have hnle : ¬ (imgs L kv)[j].1 ≤ (imgs L kv)[j - 1].1 := by omega
        have hp : (0 : Int) < j := by omega
        have wc : IntKind.i64.wrap ((j : Int) - 1) = ((j - 1 : Nat) : Int) := by rw [wrap_i64 (by omega) (by omega)]; omega
        have hj1' : ((j - 1 : Nat) : Int) < (imgs L kv).length := by omega
        simp (maxSteps := 1000000) (disch := first | omega | (simp; omega) | (simp; done) | fail) [c_wicketlaw16_BufferAgain_S29, c_wicketlaw16_BufferAgain_S30, q14, q15, q17, q18, idxK_of, x1, x2, c2, hp, wc, y1, y2, hnle, Nat.pos_of_ne_zero h0]
    have k12 := kk.trans k2
    have v17 := k12.get u17
    obtain ⟨t3, e3, k3, p17⟩ : ∃ t3, run (exec T (m + 5)) (m + 5) none (.reg [⟨(some 142), .move (.tmp 17), none⟩, ⟨(some 143), .bin .add (.tmp 142) (.const (.int .i64 1)), none⟩, ⟨(some 17), .move (.tmp 143), none⟩]) ⟨t2, H2, []⟩ = some (.normal, ⟨t3, H2, []⟩) ∧ KeepsB 18 [17] t2 t3 ∧ t3.get 17 = some (.int .i64 ((j + 1 : Nat) : Int)) := by
      simp [-Int.natCast_add, v17, w1]
    refine ⟨.normal, ⟨t3, H2, []⟩, ?_, .inl ⟨rfl, rfl, k3.get (k12.get u0), k3.get (k12.get u2), k3.get (k12.get u7), k3.get (k12.get u14), k3.get (k12.get u15), p17, uf2, ub2, b2, us2⟩⟩
    rw [c_wicketlaw16_BufferAgain_L32, run_seq, e0, seqK_normal, run_seq, c_wicketlaw16_BufferAgain_S31, run_block, run_pre2, e1, seqK_normal, e2, blockK_normal, seqK_normal, e3]
  · rintro ⟨tm, H, ds⟩ ⟨hds, u0, u2, u7, u14, u15, u17, uf, ub, uc, us⟩
    simp only at hds u0 u2 u7 u14 u15 u17 uf ub uc us
    subst hds
    rw [List.take_of_length_le (by omega)] at uc
    obtain ⟨a, c, rfl⟩ := us.form
    obtain ⟨t3, g3, k3⟩ : ∃ t3, run (exec T (m + 5)) (m + 5) none c_wicketlaw16_BufferAgain_L32 ⟨tm, H, []⟩ = some (.exit 2, ⟨t3, H, []⟩) ∧ Keeps 18 tm t3 := by
      simp [c_wicketlaw16_BufferAgain_L32, c_wicketlaw16_BufferAgain_S24, c_wicketlaw16_BufferAgain_S25, u14, u17, goInt]
    exact ⟨_, _, g3, by simp, rfl, rfl, k3.get u0, k3.get u7, k3.get u14, k3.get u15, uf, ub, uc, us⟩
end Go.Proofs.Ytbndnokcffailaa
