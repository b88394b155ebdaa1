/- BufferAgain: the third loop, and the whole law. -/
import Derived.Test.YtbndnokcffailaaBa7
namespace Go.Proofs.Ytbndnokcffailaa
open Go
set_option linter.unusedVariables false
set_option linter.unusedSimpArgs false
variable {T : Nat → Option AFun} {H : Heap} {m : Nat} {v : Value} {L : List Int} {t : Int}

theorem loop3_ok (hT : BaT T) {H0 : Heap} (w0 : WF H0) {kv ko : List (Int × List Int)} (hg : Good L) (hkv : Kv L kv) (hko : Kv L ko) (hsame : ∀ t ∈ L, getV t ko = getV t kv) (hm : 200 ≤ m)
    {lb mb lc mc : Nat} {sb sc a0 : Value} {tm : Tr Value} {H1 : Heap} (hb : Bf H1 lb mb sb L kv) (hc : Bf H1 lc mc sc L ko) (hf : Fr H0 H1 []) (i0 : InSl H0 1 a0 L.length (iz .i64 L))
    (r0 : tm.get 0 = some a0) (r7 : tm.get 7 = some (.pointer (some ⟨lb, 0, none⟩))) (r15 : tm.get 15 = some (.pointer (some ⟨lc, 0, none⟩))) (r19 : tm.get 19 = some (.int .i64 (0 : Nat))) :
    ∃ e s', loopN (run (exec T (m + 5)) (m + 5) none c_wicketlaw16_BufferAgain_L45) (m + 5) ⟨tm, H1, []⟩ = some (e, s') ∧ e ≠ .normal ∧ e = .exit 4 ∧ s'.ds = [] ∧ Fr H0 s'.h [] := by
  have hl := hg.2.1
  obtain ⟨aa, ac, hform⟩ := i0.form
  refine loop_up (a := 0) (n := L.length)
    (J := fun j s => s.ds = [] ∧ s.tm.get 0 = some a0 ∧ s.tm.get 7 = some (.pointer (some ⟨lb, 0, none⟩)) ∧ s.tm.get 15 = some (.pointer (some ⟨lc, 0, none⟩)) ∧ s.tm.get 19 = some (.int .i64 (j : Nat)) ∧ Fr H0 s.h [] ∧ Bf s.h lb mb sb L kv ∧ Bf s.h lc mc sc L ko) (by omega) (Nat.zero_le _)
    ⟨rfl, r0, r7, r15, r19, hf, hb, hc⟩ ?_ ?_
  · rintro j ⟨tm, H, ds⟩ hj ⟨hds, u0, u7, u15, u19, uf, ub, uc⟩
    simp only at hds u0 u7 u15 u19 uf ub uc
    subst hds
    have hj' : (j : Int) < L.length := by omega
    have w1 : IntKind.i64.wrap ((j : Int) + 1) = ((j + 1 : Nat) : Int) := by rw [wrap_i64 (by omega) (by omega)]; rfl
    have htL : L[j] ∈ L := List.getElem_mem hj
    obtain ⟨a1, c1, hv, _, hall⟩ := (i0.fr uf).toRd.all
    obtain ⟨bb, sp, rfl, x1⟩ := hall j hj
    subst hv
    obtain ⟨H2, c2, f2⟩ := bread_ok (m := m) (t := L[j]) hT ub hkv uf.wf hl (by omega)
    rw [if_pos htL] at c2
    have hx := getV_len' (t := L[j]) hkv
    have st2 := st32 (H := H2) hx zero32_length
    have f3 := Fr.new (o := .cells (iz .u8 ((getV L[j] kv).getD zero32)) false 0) f2.wf []
    have f23 := f2.step uf.wf f3 (by simp)
    have uf3 := uf.step w0 f23 (by simp)
    have ub3 := ub.fr f23 (by simp) (by simp) (by simp)
    have uc3 := uc.fr f23 (by simp) (by simp) (by simp)
    obtain ⟨a2, c2', hv2, _, hall2⟩ := (i0.fr uf3).toRd.all
    obtain ⟨bb2, sp2, hbb, x2⟩ := hall2 j hj
    subst hbb
    cases hv2
    obtain ⟨t1, e1, k1, q20, q21⟩ : ∃ t1, run (exec T (m + 5)) (m + 5) none (.seq c_wicketlaw16_BufferAgain_S39 c_wicketlaw16_BufferAgain_S40) ⟨tm, H, []⟩ = some (.normal, ⟨t1, H2.new (.cells (iz .u8 ((getV L[j] kv).getD zero32)) false 0), []⟩) ∧ Keeps 20 tm t1 ∧ t1.get 20 = some (.pointer (some ⟨H2.next, 0, none⟩)) ∧ t1.get 21 = some (.bool (getV L[j] kv).isSome) := by
      simp (maxSteps := 1000000) (disch := first | omega | (simp; omega) | (simp; done) | fail) [-List.reduceReplicate, zero32_iz, c_wicketlaw16_BufferAgain_S38, c_wicketlaw16_BufferAgain_S39, c_wicketlaw16_BufferAgain_S40, u0, u7, u19, goInt, hj, hj', idxK_of, x1, c2, st2]
    have q0 := k1.get u0; have q15 := k1.get u15; have q19 := k1.get u19
    obtain ⟨H4, c4, f4⟩ := bread_ok (m := m) (t := L[j]) hT uc3 hko uf3.wf hl (by omega)
    rw [if_pos htL, hsame _ htL] at c4
    have st4 := st32 (H := H4) hx zero32_length
    have f5 := Fr.new (o := .cells (iz .u8 ((getV L[j] kv).getD zero32)) false 0) f4.wf []
    have f45 := f4.step uf3.wf f5 (by simp)
    have uf5 := uf3.step w0 f45 (by simp)
    obtain ⟨t2, e2, k2, p23, p24⟩ : ∃ t2, run (exec T (m + 5)) (m + 5) none c_wicketlaw16_BufferAgain_S41 ⟨t1, H2.new (.cells (iz .u8 ((getV L[j] kv).getD zero32)) false 0), []⟩ = some (.normal, ⟨t2, H4.new (.cells (iz .u8 ((getV L[j] kv).getD zero32)) false 0), []⟩) ∧ Keeps 23 t1 t2 ∧ t2.get 23 = some (.pointer (some ⟨H4.next, 0, none⟩)) ∧ t2.get 24 = some (.bool (getV L[j] kv).isSome) := by
      simp (maxSteps := 1000000) (disch := first | omega | (simp; omega) | (simp; done) | fail) [-List.reduceReplicate, zero32_iz, c_wicketlaw16_BufferAgain_S41, q0, q15, q19, goInt, hj, hj', idxK_of, x2, c4, st4]
    have rd1 : readCells (H4.new (.cells (iz .u8 ((getV L[j] kv).getD zero32)) false 0)) H2.next 0 32 = some (iz .u8 ((getV L[j] kv).getD zero32)) := by
      rw [readCells_of (f45.keep _ _ (by simp) (by simp) : (H4.new (.cells (iz .u8 ((getV L[j] kv).getD zero32)) false 0)).get H2.next = some (.cells (iz .u8 ((getV L[j] kv).getD zero32)) false 0)) (by simp; omega), List.drop_zero, take_iz hx]
    have rd2 := rd32 (H := H4) hx
    have ev : eqvK (H4.new (.cells (iz .u8 ((getV L[j] kv).getD zero32)) false 0)) true (.agg (List.replicate 32 false)) (.agg ⟨iz .u8 ((getV L[j] kv).getD zero32)⟩) (.agg ⟨iz .u8 ((getV L[j] kv).getD zero32)⟩) = some (.bool false, H4.new (.cells (iz .u8 ((getV L[j] kv).getD zero32)) false 0)) := by
      simp only [eqvK, eqVals, eqCells_iz hx hx, decide_eq_true, Option.map_some, cond_true, Bool.not_true]
    have p20 := k2.get q20; have p21 := k2.get q21
    obtain ⟨t3, e3, k3⟩ : ∃ t3, run (exec T (m + 5)) (m + 5) none (.seq c_wicketlaw16_BufferAgain_S42 (.cond (.tmp 220) (.seq c_wicketlaw16_BufferAgain_S43 .ret) .skip)) ⟨t2, H4.new (.cells (iz .u8 ((getV L[j] kv).getD zero32)) false 0), []⟩ = some (.normal, ⟨t3, H4.new (.cells (iz .u8 ((getV L[j] kv).getD zero32)) false 0), []⟩) ∧ Keeps 20 t2 t3 := by
      simp (maxSteps := 1000000) (disch := first | omega | (simp; omega) | (simp; done) | fail) [-List.reduceReplicate, c_wicketlaw16_BufferAgain_S42, c_wicketlaw16_BufferAgain_S43, p20, p21, p23, p24, rd1, rd2, ev]
    have kk := (k1.trans (k2.le (by decide))).trans k3
    have v19 := kk.get u19
    obtain ⟨t4, e4, k4, p19⟩ : ∃ t4, run (exec T (m + 5)) (m + 5) none (.reg [⟨(some 191), .move (.tmp 19), none⟩, ⟨(some 192), .bin .add (.tmp 191) (.const (.int .i64 1)), none⟩, ⟨(some 19), .move (.tmp 192), none⟩]) ⟨t3, H4.new (.cells (iz .u8 ((getV L[j] kv).getD zero32)) false 0), []⟩ =
        some (.normal, ⟨t4, H4.new (.cells (iz .u8 ((getV L[j] kv).getD zero32)) false 0), []⟩) ∧ KeepsB 20 [19] t3 t4 ∧ t4.get 19 = some (.int .i64 ((j + 1 : Nat) : Int)) := by
      simp [-Int.natCast_add, v19, w1]
    refine ⟨.normal, ⟨t4, _, []⟩, ?_, .inl ⟨rfl, rfl, k4.get (kk.get u0), k4.get (kk.get u7), k4.get (kk.get u15), p19, uf5, ub3.fr f45 (by simp) (by simp) (by simp), uc3.fr f45 (by simp) (by simp) (by simp)⟩⟩
    obtain ⟨t0, e0, e1'⟩ : ∃ t0, run (exec T (m + 5)) (m + 5) none c_wicketlaw16_BufferAgain_S39 ⟨tm, H, []⟩ = some (.normal, ⟨t0, H, []⟩) ∧ run (exec T (m + 5)) (m + 5) none c_wicketlaw16_BufferAgain_S40 ⟨t0, H, []⟩ = some (.normal, ⟨t1, H2.new (.cells (iz .u8 ((getV L[j] kv).getD zero32)) false 0), []⟩) := by
      obtain ⟨t0, e0⟩ : ∃ t0, run (exec T (m + 5)) (m + 5) none c_wicketlaw16_BufferAgain_S39 ⟨tm, H, []⟩ = some (.normal, ⟨t0, H, []⟩) := by
        simp (maxSteps := 1000000) (disch := first | omega | (simp; omega) | (simp; done) | fail) [c_wicketlaw16_BufferAgain_S38, c_wicketlaw16_BufferAgain_S39, u0, u19, goInt, hj, hj']
      rw [run_seq, e0, seqK_normal] at e1
      exact ⟨t0, e0, e1⟩
    rw [c_wicketlaw16_BufferAgain_L45, run_seq, e0, seqK_normal, run_seq, c_wicketlaw16_BufferAgain_S44, run_block, run_seq, e1', seqK_normal, run_seq, e2, seqK_normal, e3, blockK_normal, seqK_normal]
    exact e4
  · rintro ⟨tm, H, ds⟩ ⟨hds, u0, u7, u15, u19, uf, ub, uc⟩
    simp only at hds u0 u7 u15 u19 uf ub uc
    subst hds
    rw [hform] at u0
    obtain ⟨t3, g3⟩ : ∃ t3, run (exec T (m + 5)) (m + 5) none c_wicketlaw16_BufferAgain_L45 ⟨tm, H, []⟩ = some (.exit 4, ⟨t3, H, []⟩) := by
      simp [c_wicketlaw16_BufferAgain_L45, c_wicketlaw16_BufferAgain_S38, c_wicketlaw16_BufferAgain_S39, u0, u19, goInt]
    exact ⟨_, _, g3, by simp, rfl, rfl, uf⟩

structure BagT (T : Nat → Option AFun) : Prop extends BaT T where
  law : T k_wicketlaw16_BufferAgain = some c_wicketlaw16_BufferAgain
  awake : ∀ n H, exec T (n + 1) (.fn k_wicketlaw16_awake) [] H = some (.bool true, H)

theorem bufferAgain_ok (hT : BagT T) (wf : WF H) {a0 a1 : Value} {Wr : List (Int × List Int)} (tn : Bool) (i0 : InSl H 1 a0 L.length (iz .i64 L)) (hL : L.length ≤ maxLen) (i1 : InSl H 33 a1 Wr.length (Wr.flatMap img)) (hW : ∀ p ∈ Wr, p.2.length = 32) (hm : 200 ≤ m) :
    ∃ H', exec T (m + 6) (.fn k_wicketlaw16_BufferAgain) [a0, a1, .bool tn] H = some (.bool true, H') := by
  obtain ⟨x0, y0, hform0⟩ := i0.form
  obtain ⟨x1, y1, hform1⟩ := i1.form
  have ini0 : (initTm 0 .nil [a0, a1, .bool tn]).get 0 = some a0 := by simp
  by_cases hg : Good L
  · have hl := hg.2.1
    obtain ⟨lb, mb, sb, H1, c1, b1, f1, n1, n2, n3⟩ := bnew_ok (m := m + 3) hT.toBaT i0.toRd wf (by omega) hg
    have aw := hT.awake (m + 4) H1
    obtain ⟨t1, e1, q0, q1, q2, q7⟩ : ∃ t1, run (exec T (m + 5)) (m + 5) none (.seq c_wicketlaw16_BufferAgain_S0 (.seq c_wicketlaw16_BufferAgain_S1 c_wicketlaw16_BufferAgain_S4)) ⟨initTm 0 .nil [a0, a1, .bool tn], H, []⟩ = some (.normal, ⟨t1, H1, []⟩) ∧ t1.get 0 = some a0 ∧ t1.get 1 = some a1 ∧ t1.get 2 = some (.bool tn) ∧ t1.get 7 = some (.pointer (some ⟨lb, 0, none⟩)) := by
      simp (maxSteps := 1000000) (disch := first | omega | (simp; omega) | (simp; done) | fail) [c_wicketlaw16_BufferAgain_S0, c_wicketlaw16_BufferAgain_S1, c_wicketlaw16_BufferAgain_S2, c_wicketlaw16_BufferAgain_S3, c_wicketlaw16_BufferAgain_S4, c1, aw]
    obtain ⟨t1', e1', k1', q9⟩ : ∃ t2, run (exec T (m + 5)) (m + 5) none c_wicketlaw16_BufferAgain_S5 ⟨t1, H1, []⟩ = some (.normal, ⟨t2, H1, []⟩) ∧ Keeps 8 t1 t2 ∧ t2.get 9 = some (.int .i64 (0 : Nat)) := by
      simp [c_wicketlaw16_BufferAgain_S5]
    obtain ⟨_, ⟨t2, H2, ds2⟩, e2, _, rfl, hds, p0, p2, p7, f2, kv, b2, hkv⟩ := loop1_ok (m := m) hT.toBaT wf i0 i1 hW hg hm b1 f1 n1 n2 n3 (k1'.get q0) (k1'.get q1) (k1'.get q2) (k1'.get q7) q9
    simp only at hds p0 p2 p7 f2 b2
    subst hds
    have e17 : run (exec T (m + 5)) (m + 5) none c_wicketlaw16_BufferAgain_S17 ⟨t1, H1, []⟩ = some (.normal, ⟨t2, H2, []⟩) := by
      rw [c_wicketlaw16_BufferAgain_S17, run_seq, e1', seqK_normal, run_block, run_loop, e2]; rfl
    -- what it says
    obtain ⟨ls, H3, c3, g3, f3, n4⟩ := bimages_ok (m := m + 4) hT.toBaT b2 hkv f2.wf hl (by omega)
    have f03 := f2.step wf f3 (by simp)
    have b3 := b2.fr f3 (by simp) (by simp) (by simp)
    obtain ⟨lc, mc, sc, H4, c4, b4, f4, n5, n6, n7⟩ := bnew_ok (m := m + 3) hT.toBaT (i0.fr f03).toRd f03.wf (by omega) hg
    have f04 := f03.step wf f4 (by simp)
    have b34 := b3.fr f4 (by simp) (by simp) (by simp)
    have g34 := g3.fr f4 (by simp)
    have c5 := blen_ok (m := m + 4) hT.toBaT b34
    obtain ⟨xa, xc, hls⟩ := g3.form
    have hcount := imgs_count hg hkv
    have hle : (imgs L kv).length ≤ L.length := imgs_le
    have hle' : ¬ (L.length : Int) < (imgs L kv).length := by omega
    have hle'' : ¬ (L.length : Int) < kv.length := by omega
    have hle3 : ¬ L.length < kv.length := by omega
    obtain ⟨t3, e3, k3, p14⟩ : ∃ t3, run (exec T (m + 5)) (m + 5) none c_wicketlaw16_BufferAgain_S18 ⟨t2, H2, []⟩ = some (.normal, ⟨t3, H3, []⟩) ∧ Keeps 14 t2 t3 ∧ t3.get 14 = some ls := by
      subst hls
      simp (maxSteps := 1000000) (disch := first | omega | (simp; omega) | (simp; done) | fail) [c_wicketlaw16_BufferAgain_S18, p7, c3]
    have o0 := k3.get p0; have o7 := k3.get p7
    obtain ⟨t4, e4, k4, p15⟩ : ∃ t4, run (exec T (m + 5)) (m + 5) none (.seq c_wicketlaw16_BufferAgain_S19 c_wicketlaw16_BufferAgain_S22) ⟨t3, H3, []⟩ = some (.normal, ⟨t4, H4, []⟩) ∧ Keeps 15 t3 t4 ∧ t4.get 15 = some (.pointer (some ⟨lc, 0, none⟩)) := by
      subst hls
      subst hform0
      simp (maxSteps := 1000000) (disch := first | omega | (simp; omega) | (simp; done) | fail) [c_wicketlaw16_BufferAgain_S19, c_wicketlaw16_BufferAgain_S20, c_wicketlaw16_BufferAgain_S21, c_wicketlaw16_BufferAgain_S22, o0, o7, p14, c4, c5, goInt, hcount, hle', hle'', hle3]
    have kk4 := k3.trans (k4.le (by decide))
    obtain ⟨t4', e4', k4', p17⟩ : ∃ t5, run (exec T (m + 5)) (m + 5) none c_wicketlaw16_BufferAgain_S23 ⟨t4, H4, []⟩ = some (.normal, ⟨t5, H4, []⟩) ∧ Keeps 17 t4 t5 ∧ t5.get 17 = some (.int .i64 (0 : Nat)) := by
      simp [c_wicketlaw16_BufferAgain_S23]
    have lt : ∀ {q : Nat} {o : AObj}, H3.get q = some o → q ≠ mc := fun {q o} hq => by have := f3.wf.lt hq; omega
    obtain ⟨_, ⟨t5, H5, ds5⟩, e5, _, rfl, hds, s0, s7, s14, s15, f05, b5, bc5, g5⟩ := loop2_ok (m := m) hT.toBaT wf (tn := tn) hg hkv hm b34 b4 g34 f04 (by have := f03.le; omega) (lt b3.at_) (lt b3.mp) (fun hh => by have := b3.sl.lt f3.wf _ hh; omega) (fun hh => by have := g3.lt f3.wf _ hh; omega)
      (k4'.get (kk4.get p0)) (k4'.get (kk4.get p2)) (k4'.get (kk4.get p7)) (k4'.get (k4.get p14)) (k4'.get p15) p17
    simp only at hds s0 s7 s14 s15 f05 b5 bc5 g5
    subst hds
    have e33 : run (exec T (m + 5)) (m + 5) none c_wicketlaw16_BufferAgain_S33 ⟨t4, H4, []⟩ = some (.normal, ⟨t5, H5, []⟩) := by
      rw [c_wicketlaw16_BufferAgain_S33, run_seq, e4', seqK_normal, run_block, run_loop, e5]; rfl
    -- the other one says the same
    have hko := order_kv (tn := tn) hg hkv
    obtain ⟨ls2, H6, c6, g6, f6, n8⟩ := bimages_ok (m := m + 4) hT.toBaT bc5 hko f05.wf hl (by omega)
    rw [imgs_order hg hkv] at g6
    have f06 := f05.step wf f6 (by simp)
    have g56 := g5.fr f6 (by simp)
    have c7 := same_ok (m := m + 4) hT.same (imgs_len hkv) g6.toRd g56.toRd (by omega) (by omega)
    obtain ⟨ya, yc, hls2⟩ := g6.form
    obtain ⟨t6, e6, k6⟩ : ∃ t6, run (exec T (m + 5)) (m + 5) none c_wicketlaw16_BufferAgain_S36 ⟨t5, H5, []⟩ = some (.normal, ⟨t6, H6, []⟩) ∧ Keeps 19 t5 t6 := by
      subst hls2
      subst hls
      simp (maxSteps := 1000000) (disch := first | omega | (simp; omega) | (simp; done) | fail) [c_wicketlaw16_BufferAgain_S34, c_wicketlaw16_BufferAgain_S35, c_wicketlaw16_BufferAgain_S36, s14, s15, c6, c7]
    obtain ⟨t6', e6', k6', s19⟩ : ∃ t7, run (exec T (m + 5)) (m + 5) none c_wicketlaw16_BufferAgain_S37 ⟨t6, H6, []⟩ = some (.normal, ⟨t7, H6, []⟩) ∧ Keeps 19 t6 t7 ∧ t7.get 19 = some (.int .i64 (0 : Nat)) := by
      simp [c_wicketlaw16_BufferAgain_S37]
    have kk6 := k6.trans k6'
    obtain ⟨_, ⟨t7, H7, ds7⟩, e7, _, rfl, hds, f07⟩ := loop3_ok (m := m) hT.toBaT wf hg hkv hko (fun t ht => order_get hg hkv ht) hm (b5.fr f6 (by simp) (by simp) (by simp)) (bc5.fr f6 (by simp) (by simp) (by simp)) f06 i0 (kk6.get s0) (kk6.get s7) (kk6.get s15) s19
    simp only at hds f07
    subst hds
    have e46 : run (exec T (m + 5)) (m + 5) none c_wicketlaw16_BufferAgain_S46 ⟨t6, H6, []⟩ = some (.normal, ⟨t7, H7, []⟩) := by
      rw [c_wicketlaw16_BufferAgain_S46, run_seq, e6', seqK_normal, run_block, run_loop, e7]; rfl
    refine ⟨H7, ?_⟩
    rw [exec_fn hT.law, run_pre3, e1, seqK_normal, run_seq, e17, seqK_normal, run_seq, e3, seqK_normal, run_pre2, e4, seqK_normal, run_seq, e33, seqK_normal, run_seq, e6, seqK_normal, run_seq, e46, seqK_normal]
    simp [c_wicketlaw16_BufferAgain_S47, endOf, takeAll, results?, resOf, endVal]
  · have c1 := bnew_bad (m := m + 3) hT.toBaT i0.toRd (by omega) hL hg
    have aw := hT.awake (m + 4) H
    refine ⟨H, ?_⟩
    rw [exec_fn hT.law]
    simp (maxSteps := 1000000) (disch := first | omega | (simp; omega) | (simp; done) | fail) [c_wicketlaw16_BufferAgain_S0, c_wicketlaw16_BufferAgain_S1, c_wicketlaw16_BufferAgain_S2, c_wicketlaw16_BufferAgain_S3, c_wicketlaw16_BufferAgain_S4, c1, aw, endOf, takeAll, results?, resOf, endVal]
end Go.Proofs.Ytbndnokcffailaa
