/- LedgerPlays: one call of the script. -/
import Derived.Test.YtnkhlohphaomlaaPL8
namespace Go.Proofs.Ytnkhlohphaomlaa
open Go
set_option linter.unusedVariables false
set_option linter.unusedSimpArgs false
variable {T : Nat → Option AFun} {H : Heap} {m : Nat} {t : Int}

theorem Du.later {x : Pt} {N : Nat} (h : Du H x N) : Du H x (N + 1) := ⟨h.ld, h.rf.later, h.gd⟩
theorem Du.lt {x : Pt} {N : Nat} (h : Du H x N) (wf : WF H) : ∀ b ∈ fpt x, b < H.next := by
  obtain ⟨rec, gone, ps, a, _⟩ := h.rf.ex
  intro b hb
  simp only [fpt, List.mem_cons] at hb
  rcases hb with rfl | rfl | rfl | hb
  · exact wf.lt h.ld.at_
  · exact wf.lt h.ld.mp
  · exact wf.lt a.at_
  · exact a.sl.lt wf b hb

theorem Pr.step {H0 H' : Heap} {p N w : Nat} {D : Nat → Pt} (w0 : WF H0) (h : Pr H0 H p D N) (hw : w < 2) {s' : Value} {g' : Gs} (hd : Du H' ⟨(D w).l, (D w).mb, (D w).r, s', (D w).cap, (D w).mark, g'⟩ (N + 1)) (f : Fr H H' (fpt (D w))) (hs : ∀ q ∈ blk s', q ∈ blk (D w).s ∨ H.next ≤ q) :
    Pr H0 H' p (fun i => if i = w then ⟨(D w).l, (D w).mb, (D w).r, s', (D w).cap, (D w).mark, g'⟩ else D i) (N + 1) := by
  have wf := h.fr.wf
  have new : ∀ b ∈ fpt (⟨(D w).l, (D w).mb, (D w).r, s', (D w).cap, (D w).mark, g'⟩ : Pt), b ∈ fpt (D w) ∨ H.next ≤ b := by
    intro b hb
    simp only [fpt, List.mem_cons] at hb ⊢
    rcases hb with e | e | e | e
    · exact .inl (.inl e)
    · exact .inl (.inr (.inl e))
    · exact .inl (.inr (.inr (.inl e)))
    · rcases hs b e with e | e
      · exact .inl (.inr (.inr (.inr e)))
      · exact .inr e
  have hpl : p < H.next := wf.lt h.box
  refine ⟨fun i hi => ?_, ?_, fun i j hi hj hij b hb => ?_, fun i hi => ?_, fun i hi b hb => ?_, h.hp, h.fr.step w0 f (h.own w hw)⟩
  · by_cases e : i = w
    · simp only [e, if_true]; exact hd
    · simp only [e, if_false]; exact ((h.du i hi).fr f (h.dis i w hi hw e)).later
  · have := f.keep _ _ h.box (h.np w hw)
    rw [this]
    rcases w with _ | _ | w
    · rfl
    · rfl
    · omega
  · by_cases e : i = w
    · simp only [e, if_true] at hb
      have e2 : j ≠ w := fun h => hij (e.trans h.symm)
      simp only [e2, if_false]
      rcases new b hb with h1 | h1
      · exact h.dis w j hw hj (fun h => e2 h.symm) b h1
      · intro h2; have := (h.du j hj).lt wf b h2; omega
    · simp only [e, if_false] at hb
      by_cases e2 : j = w
      · simp only [e2, if_true]
        intro h1
        rcases new b h1 with h2 | h2
        · exact h.dis i w hi hw e b hb h2
        · have := (h.du i hi).lt wf b hb; omega
      · simp only [e2, if_false]; exact h.dis i j hi hj hij b hb
  · by_cases e : i = w
    · simp only [e, if_true]
      intro h1
      rcases new p h1 with h2 | h2
      · exact h.np w hw h2
      · omega
    · simp only [e, if_false]; exact h.np i hi
  · by_cases e : i = w
    · simp only [e, if_true] at hb
      rcases new b hb with h1 | h1
      · exact h.own w hw b h1
      · exact Nat.le_trans h.fr.le h1
    · simp only [e, if_false] at hb; exact h.own i hi b hb
theorem Pr.later {H0 : Heap} {p N : Nat} {D : Nat → Pt} (h : Pr H0 H p D N) : Pr H0 H p D (N + 1) := { h with du := fun i hi => (h.du i hi).later }

/-- The other one becomes a copy. -/
theorem copy_step (hT : PaT T) {H0 : Heap} (w0 : WF H0) {p N w b : Nat} {D : Nat → Pt} {cs : List Value} {tm : Tr Value} {ds : List Nat} {nn : Nat} {rdd : Option Nat} (h : Pr H0 H p D N) (hw : w < 2) (hN : N ≤ 900) (hb : H.get b = some (.cells cs false 0)) (hbp : b ≠ p)
    (t0 : tm.get 0 = some (.pointer (some ⟨p, 0, none⟩))) (t5 : tm.get 5 = some (.int .i64 (w : Int))) (t6 : tm.get 6 = some (.pointer (some ⟨(D w).l, 0, none⟩))) (t7 : tm.get 7 = some (.pointer (some ⟨(D w).r, 0, none⟩))) :
    ∃ t' H' D', run (exec T (m + 3)) nn rdd (.seq c_wicketlaw12_pair_plays_S10 (.seq c_wicketlaw12_pair_plays_S11 (.cond (.tmp 98) (.seq c_wicketlaw12_pair_plays_S12 .ret) .skip))) ⟨tm, H, ds⟩ = some (.normal, ⟨t', H', ds⟩) ∧ Keeps 10 tm t' ∧ Pr H0 H' p D' (N + 1) ∧ H'.get b = some (.cells cs false 0) := by
  have wf := h.fr.wf
  obtain ⟨H1, l', mb', e1, ld1, f1, n1, n2⟩ := lcopy_ok (m := m + 1) hT.lp (h.du w hw).ld wf
  have h1 := h.heap w0 f1
  obtain ⟨H2, r', s', e2, rf2, f2, n3, n4⟩ := rcopy_ok (m := m + 2) hT.rf (h1.du w hw).rf f1.wf hN
  have h2 := h1.heap w0 f2
  have ld2 := ld1.fr f2 (by simp) (by simp)
  have f12 := f1.step wf f2 (by simp)
  have hle1 := f1.le
  have hpl : p < H.next := wf.lt h.box
  have hl1 : l' < H1.next := f1.wf.lt ld1.at_
  have hm1 : mb' < H1.next := f1.wf.lt ld1.mp
  have w1 : IntKind.i64.wrap (1 - (w : Int)) = ((1 - w : Nat) : Int) := by rw [wrap_i64 (by omega) (by omega)]; omega
  have hw1 : 1 - w < 2 := by omega
  have box := h2.box
  have hne : 1 - w ≠ w := by omega
  have hx : ∃ H4, (∃ H3, writeCells H2 p (1 - w) [.pointer (some ⟨l', 0, none⟩)] = some H3 ∧ writeCells H3 p (2 + (1 - w)) [.pointer (some ⟨r', 0, none⟩)] = some H4) ∧ Fr H2 H4 [p] ∧
      H4.get p = some (.cells [.pointer (some ⟨(if 0 = w then D 0 else ⟨l', mb', r', s', (D w).cap, (D w).mark, (D w).g⟩ : Pt).l, 0, none⟩), .pointer (some ⟨(if 1 = w then D 1 else ⟨l', mb', r', s', (D w).cap, (D w).mark, (D w).g⟩ : Pt).l, 0, none⟩),
        .pointer (some ⟨(if 0 = w then D 0 else ⟨l', mb', r', s', (D w).cap, (D w).mark, (D w).g⟩ : Pt).r, 0, none⟩), .pointer (some ⟨(if 1 = w then D 1 else ⟨l', mb', r', s', (D w).cap, (D w).mark, (D w).g⟩ : Pt).r, 0, none⟩)] false 0) := by
    rcases w with _ | _ | w
    · refine ⟨_, ⟨_, writeCells_of box (by simp), writeCells_put (by simp [writeAt])⟩, ?_, ?_⟩
      · exact Fr.put f2.wf (by rw [box]; simp) (by simp)
      · simp [writeAt]
    · refine ⟨_, ⟨_, writeCells_of box (by simp), writeCells_put (by simp [writeAt])⟩, ?_, ?_⟩
      · exact Fr.put f2.wf (by rw [box]; simp) (by simp)
      · simp [writeAt]
    · omega
  obtain ⟨H4, ⟨H3, x3, x4⟩, f4, hp4⟩ := hx
  have hbl : b < H.next := wf.lt hb
  have hb4 : H4.get b = some (.cells cs false 0) := f4.keep _ _ (f12.keep _ _ hb (by simp)) (by simpa using hbp)
  have rd : readCells H4 p (1 - w) 1 = some [.pointer (some ⟨l', 0, none⟩)] := by
    rw [readCells_of hp4 (by simp; omega)]
    rcases w with _ | _ | w
    · rfl
    · rfl
    · omega
  obtain ⟨t', er, k'⟩ : ∃ t', run (exec T (m + 3)) nn rdd (.seq c_wicketlaw12_pair_plays_S10 (.seq c_wicketlaw12_pair_plays_S11 (.cond (.tmp 98) (.seq c_wicketlaw12_pair_plays_S12 .ret) .skip))) ⟨tm, H, ds⟩ = some (.normal, ⟨t', H4, ds⟩) ∧ Keeps 10 tm t' := by
    simp (maxSteps := 1000000) (disch := first | omega | (simp; omega) | (simp; done) | fail) [c_wicketlaw12_pair_plays_S10, c_wicketlaw12_pair_plays_S11, c_wicketlaw12_pair_plays_S12, t0, t5, t6, t7, e1, e2, w1, idxAK_of, storeK_ptr, x3, x4, rd]
  have newlt : ∀ q ∈ fpt (⟨l', mb', r', s', (D w).cap, (D w).mark, (D w).g⟩ : Pt), H.next ≤ q := by
    intro q hq
    simp only [fpt, List.mem_cons] at hq
    rcases hq with rfl | rfl | rfl | hq
    · exact n1
    · exact n2
    · exact Nat.le_trans hle1 n3
    · exact Nat.le_trans hle1 (n4 q hq)
  refine ⟨t', H4, fun i => if i = w then D i else ⟨l', mb', r', s', (D w).cap, (D w).mark, (D w).g⟩, er, k', ?_, hb4⟩
  refine ⟨fun i hi => ?_, hp4, fun i j hi hj hij q hq => ?_, fun i hi => ?_, fun i hi q hq => ?_, h.hp, h2.fr.step w0 f4 (by simpa using h.hp)⟩
  · by_cases e : i = w
    · simp only [e, if_true]
      exact ((h2.du w hw).fr f4 (fun q hq => by simp only [List.mem_singleton]; rintro rfl; exact h.np w hw hq)).later
    · simp only [e, if_false]
      refine (Du.fr (H := H2) (x := ⟨l', mb', r', s', (D w).cap, (D w).mark, (D w).g⟩) ⟨ld2, rf2, (h.du w hw).gd⟩ f4 (fun q hq => ?_)).later
      simp only [List.mem_singleton]; rintro rfl; have := newlt _ hq; omega
  · by_cases e : i = w
    · have e2 : j ≠ w := fun h => hij (e.trans h.symm)
      simp only [e, if_true] at hq
      simp only [e2, if_false]
      intro h3
      have := newlt _ h3
      have := (h.du w hw).lt wf _ hq
      omega
    · simp only [e, if_false] at hq
      have e2 : j = w := by omega
      simp only [e2, if_true]
      intro h3
      have := newlt _ hq
      have := (h.du w hw).lt wf _ h3
      omega
  · by_cases e : i = w
    · simp only [e, if_true]; exact h.np w hw
    · simp only [e, if_false]; intro h3; have := newlt _ h3; omega
  · by_cases e : i = w
    · simp only [e, if_true] at hq; exact h.own w hw q hq
    · simp only [e, if_false] at hq; exact Nat.le_trans h.fr.le (newlt q hq)

structure PlT (T : Nat → Option AFun) : Prop extends PaT T where
  plays : T k_wicketlaw12_pair_plays = some c_wicketlaw12_pair_plays

theorem S13_eq : c_wicketlaw12_pair_plays_S13 = .seq c_wicketlaw12_pair_plays_S4 (.block 0 (.seq c_wicketlaw12_pair_plays_S5 (.cond (.tmp 29) R1C (.seq c_wicketlaw12_pair_plays_S6 (.cond (.tmp 43) R2C (.seq c_wicketlaw12_pair_plays_S7 (.cond (.tmp 53) R3C (.seq c_wicketlaw12_pair_plays_S8 (.cond (.tmp 63) R4C (.seq c_wicketlaw12_pair_plays_S9 (.cond (.tmp 73) (.seq c_wicketlaw12_pair_plays_S10 (.seq c_wicketlaw12_pair_plays_S11 (.cond (.tmp 98) (.seq c_wicketlaw12_pair_plays_S12 .ret) .skip))) .skip))))))))))) := rfl

theorem plays_ok (hT : PlT T) {H0 : Heap} (w0 : WF H0) {p N : Nat} {D : Nat → Pt} (h : Pr H0 H p D N) (o : OpL) (hN' : N ≤ 800) (hm : 1000 ≤ m) :
    ∃ H' D', exec T (m + 4) (.fn k_wicketlaw12_pair_plays) [.pointer (some ⟨p, 0, none⟩), .agg ⟨o.cells⟩] H = some (.bool true, H') ∧ Pr H0 H' p D' (N + 1) := by
  have hN : N ≤ 900 := by omega
  have wf := h.fr.wf
  have f1 := Fr.new (o := .cells o.cells false 0) wf []
  have h1 := h.heap w0 f1
  have hb : (H.new (.cells o.cells false 0)).get H.next = some (.cells o.cells false 0) := by simp
  have hcells : o.cells.all isCell = true := rfl
  have wk : readCells (H.new (.cells o.cells false 0)) H.next 1 1 = some [.int .i64 o.which] := by rw [readCells_of hb (by simp [OpL.cells])]; rfl
  have kk : readCells (H.new (.cells o.cells false 0)) H.next 0 1 = some [.int .i64 o.kind] := by rw [readCells_of hb (by simp [OpL.cells])]; rfl
  have hpl : p < H.next := wf.lt h.box
  have lt1 : ∀ i, i < 2 → ∀ b ∈ fpt (D i), b < H.next := fun i hi b hb => (h.du i hi).lt wf b hb
  obtain ⟨w, hw, hwe⟩ : ∃ w : Nat, w < 2 ∧ ((o.which.tmod 2 + 2).tmod 2) = (w : Int) := by
    have g1 := Int.tmod_lt_of_pos (o.which.tmod 2 + 2) (b := 2) (by omega)
    have g2 := Int.lt_tmod_of_pos o.which (b := 2) (by omega)
    have g3 := Int.tmod_nonneg (a := o.which.tmod 2 + 2) 2 (by omega)
    exact ⟨((o.which.tmod 2 + 2).tmod 2).toNat, by omega, by omega⟩
  have g1 := Int.tmod_lt_of_pos o.which (b := 2) (by omega)
  have g2 := Int.lt_tmod_of_pos o.which (b := 2) (by omega)
  have wr : IntKind.i64.wrap (o.which.tmod 2 + 2) = o.which.tmod 2 + 2 := wrap_i64 (by omega) (by omega)
  obtain ⟨t1, e1, q0, q3, q5⟩ : ∃ t1, run (exec T (m + 3)) (m + 3) none (.seq c_wicketlaw12_pair_plays_S0 c_wicketlaw12_pair_plays_S1) ⟨initTm 0 .nil [.pointer (some ⟨p, 0, none⟩), .agg ⟨o.cells⟩], H, []⟩ = some (.normal, ⟨t1, H.new (.cells o.cells false 0), []⟩) ∧ t1.get 0 = some (.pointer (some ⟨p, 0, none⟩)) ∧ t1.get 3 = some (.pointer (some ⟨H.next, 0, none⟩)) ∧ t1.get 5 = some (.int .i64 (w : Int)) := by
    simp (maxSteps := 1000000) (disch := first | omega | (simp; omega) | (simp; done) | fail) [c_wicketlaw12_pair_plays_S0, c_wicketlaw12_pair_plays_S1, boxK_agg, hcells, wk, binK_rem, wr, hwe]
  have rl := h1.rl hw
  have rr := h1.rr hw
  obtain ⟨t2, e2, k2, q6, q7, q8, q9⟩ : ∃ t2, run (exec T (m + 3)) (m + 3) none (.seq c_wicketlaw12_pair_plays_S2 c_wicketlaw12_pair_plays_S3) ⟨t1, H.new (.cells o.cells false 0), []⟩ = some (.normal, ⟨t2, H.new (.cells o.cells false 0), []⟩) ∧ Keeps 6 t1 t2 ∧ t2.get 6 = some (.pointer (some ⟨(D w).l, 0, none⟩)) ∧ t2.get 7 = some (.pointer (some ⟨(D w).r, 0, none⟩)) ∧ t2.get 8 = some (.int .i64 0) ∧ t2.get 9 = some (.int .i64 0) := by
    simp (maxSteps := 1000000) (disch := first | omega | (simp; omega) | (simp; done) | fail) [c_wicketlaw12_pair_plays_S2, c_wicketlaw12_pair_plays_S3, q0, q5, idxAK_of, rl, rr]
  obtain ⟨t3, e3, k3, q28⟩ : ∃ t3, run (exec T (m + 3)) (m + 3) none c_wicketlaw12_pair_plays_S4 ⟨t2, H.new (.cells o.cells false 0), []⟩ = some (.normal, ⟨t3, H.new (.cells o.cells false 0), []⟩) ∧ Keeps 10 t2 t3 ∧ t3.get 28 = some (.int .i64 o.kind) := by
    simp (maxSteps := 1000000) (disch := first | omega | (simp; omega) | (simp; done) | fail) [c_wicketlaw12_pair_plays_S4, k2.get q3, kk]
  have kt := k2.trans (k3.le (by decide))
  have u0 := kt.get q0; have u3 := kt.get q3; have u5 := kt.get q5
  have u6 := k3.get q6; have u7 := k3.get q7; have u8 := k3.get q8; have u9 := k3.get q9
  -- the call
  obtain ⟨t4, H4, D4, c, e4, v0, v3, v8, v9, h4, hb4⟩ : ∃ t4 H4 D4 c, run (exec T (m + 3)) (m + 3) none c_wicketlaw12_pair_plays_S13 ⟨t2, H.new (.cells o.cells false 0), []⟩ = some (.normal, ⟨t4, H4, []⟩) ∧ t4.get 0 = some (.pointer (some ⟨p, 0, none⟩)) ∧ t4.get 3 = some (.pointer (some ⟨H.next, 0, none⟩)) ∧
      t4.get 8 = some (.int .i64 c) ∧ t4.get 9 = some (.int .i64 c) ∧ Pr H0 H4 p D4 (N + 1) ∧ H4.get H.next = some (.cells o.cells false 0) := by
    rw [S13_eq, run_seq, e3, seqK_normal, run_block]
    have hnb : H.next ∉ fpt (D w) := fun hh => by have := lt1 w hw _ hh; omega
    have done : ∀ {tm t' : Tr Value} {H' : Heap} {s' : Value} {g' : Gs} {c : Int}, Keeps 10 t3 tm → KeepsB 10 [8, 9] tm t' → t'.get 8 = some (.int .i64 c) → t'.get 9 = some (.int .i64 c) → Du H' ⟨(D w).l, (D w).mb, (D w).r, s', (D w).cap, (D w).mark, g'⟩ (N + 1) → Fr (H.new (.cells o.cells false 0)) H' (fpt (D w)) → (∀ q ∈ blk s', q ∈ blk (D w).s ∨ (H.new (.cells o.cells false 0)).next ≤ q) →
        ∀ X, X = some (.normal, (⟨t', H', []⟩ : St)) → ∃ t4 H4 D4 c, blockK 0 X = some (.normal, ⟨t4, H4, []⟩) ∧ t4.get 0 = some (.pointer (some ⟨p, 0, none⟩)) ∧ t4.get 3 = some (.pointer (some ⟨H.next, 0, none⟩)) ∧ t4.get 8 = some (.int .i64 c) ∧ t4.get 9 = some (.int .i64 c) ∧ Pr H0 H4 p D4 (N + 1) ∧ H4.get H.next = some (.cells o.cells false 0) := by
      intro tm t' H' s' g' c ka kb y8 y9 hd hf hs X hX
      subst hX
      exact ⟨t', H', _, c, rfl, kb.get (ka.get u0), kb.get (ka.get u3), y8, y9, h1.step w0 hw hd hf hs, hf.keep _ _ hb hnb⟩
    by_cases c1 : o.kind = 1
    · obtain ⟨t5, e5, k5, g5⟩ : ∃ t5, run (exec T (m + 3)) (m + 3) none c_wicketlaw12_pair_plays_S5 ⟨t3, H.new (.cells o.cells false 0), []⟩ = some (.normal, ⟨t5, H.new (.cells o.cells false 0), []⟩) ∧ Keeps 10 t3 t5 ∧ t5.get 29 = some (.bool true) := by
        simp [c_wicketlaw12_pair_plays_S5, q28, c1]
      rw [run_seq, e5, seqK_normal, run_t g5]
      obtain ⟨t6, H6, s6, c6, e6, k6, y8, y9, d6, f6, b6⟩ := dr1 (ds := []) (nn := m + 3) (rd := none) hT.toPaT (h1.du w hw) f1.wf hb hnb hN hm (k5.get u3) (k5.get u6) (k5.get u7)
      exact done k5 k6 y8 y9 d6 f6 b6 _ e6
    obtain ⟨t5, e5, k5, g5, q28⟩ : ∃ t5, run (exec T (m + 3)) (m + 3) none c_wicketlaw12_pair_plays_S5 ⟨t3, H.new (.cells o.cells false 0), []⟩ = some (.normal, ⟨t5, H.new (.cells o.cells false 0), []⟩) ∧ Keeps 10 t3 t5 ∧ t5.get 29 = some (.bool false) ∧ t5.get 28 = some (.int .i64 o.kind) := by
      simp [c_wicketlaw12_pair_plays_S5, q28, c1]
    rw [run_seq, e5, seqK_normal, run_f g5]
    by_cases c2 : o.kind = 2
    · obtain ⟨t6, e6, k6, g6⟩ : ∃ t6, run (exec T (m + 3)) (m + 3) none c_wicketlaw12_pair_plays_S6 ⟨t5, H.new (.cells o.cells false 0), []⟩ = some (.normal, ⟨t6, H.new (.cells o.cells false 0), []⟩) ∧ Keeps 10 t5 t6 ∧ t6.get 43 = some (.bool true) := by
        simp [c_wicketlaw12_pair_plays_S6, q28, c2]
      have k5 := k5.trans k6
      rw [run_seq, e6, seqK_normal, run_t g6]
      obtain ⟨t6, H6, s6, c6, e6, k6, y8, y9, d6, f6, b6⟩ := dr2 (ds := []) (nn := m + 3) (rd := none) hT.toPaT (h1.du w hw) f1.wf hb hnb hN hm (k5.get u3) (k5.get u6) (k5.get u7)
      exact done k5 k6 y8 y9 d6 f6 b6 _ e6
    obtain ⟨t6, e6, k6, g6, q28⟩ : ∃ t6, run (exec T (m + 3)) (m + 3) none c_wicketlaw12_pair_plays_S6 ⟨t5, H.new (.cells o.cells false 0), []⟩ = some (.normal, ⟨t6, H.new (.cells o.cells false 0), []⟩) ∧ Keeps 10 t5 t6 ∧ t6.get 43 = some (.bool false) ∧ t6.get 28 = some (.int .i64 o.kind) := by
      simp [c_wicketlaw12_pair_plays_S6, q28, c2]
    have k6 := k5.trans k6
    rw [run_seq, e6, seqK_normal, run_f g6]
    by_cases c3 : o.kind = 3
    · obtain ⟨t7, e7, k7, g7⟩ : ∃ t7, run (exec T (m + 3)) (m + 3) none c_wicketlaw12_pair_plays_S7 ⟨t6, H.new (.cells o.cells false 0), []⟩ = some (.normal, ⟨t7, H.new (.cells o.cells false 0), []⟩) ∧ Keeps 10 t6 t7 ∧ t7.get 53 = some (.bool true) := by
        simp [c_wicketlaw12_pair_plays_S7, q28, c3]
      have k5 := k6.trans k7
      rw [run_seq, e7, seqK_normal, run_t g7]
      obtain ⟨t6, H6, s6, c6, e6, k6, y8, y9, d6, f6, b6⟩ := dr3 (ds := []) (nn := m + 3) (rd := none) hT.toPaT (h1.du w hw) f1.wf hb hnb hN hm (k5.get u3) (k5.get u6) (k5.get u7)
      exact done k5 k6 y8 y9 d6 f6 b6 _ e6
    obtain ⟨t7, e7, k7, g7, q28⟩ : ∃ t7, run (exec T (m + 3)) (m + 3) none c_wicketlaw12_pair_plays_S7 ⟨t6, H.new (.cells o.cells false 0), []⟩ = some (.normal, ⟨t7, H.new (.cells o.cells false 0), []⟩) ∧ Keeps 10 t6 t7 ∧ t7.get 53 = some (.bool false) ∧ t7.get 28 = some (.int .i64 o.kind) := by
      simp [c_wicketlaw12_pair_plays_S7, q28, c3]
    have k7 := k6.trans k7
    rw [run_seq, e7, seqK_normal, run_f g7]
    by_cases c4 : o.kind = 4
    · obtain ⟨t8, e8, k8, g8⟩ : ∃ t8, run (exec T (m + 3)) (m + 3) none c_wicketlaw12_pair_plays_S8 ⟨t7, H.new (.cells o.cells false 0), []⟩ = some (.normal, ⟨t8, H.new (.cells o.cells false 0), []⟩) ∧ Keeps 10 t7 t8 ∧ t8.get 63 = some (.bool true) := by
        simp [c_wicketlaw12_pair_plays_S8, q28, c4]
      have k5 := k7.trans k8
      rw [run_seq, e8, seqK_normal, run_t g8]
      obtain ⟨t6, H6, s6, c6, e6, k6, y8, y9, d6, f6, b6⟩ := dr4 (ds := []) (nn := m + 3) (rd := none) hT.toPaT (h1.du w hw) f1.wf hb hnb hN hm (k5.get u3) (k5.get u6) (k5.get u7)
      exact done k5 k6 y8 y9 d6 f6 b6 _ e6
    obtain ⟨t8, e8, k8, g8, q28⟩ : ∃ t8, run (exec T (m + 3)) (m + 3) none c_wicketlaw12_pair_plays_S8 ⟨t7, H.new (.cells o.cells false 0), []⟩ = some (.normal, ⟨t8, H.new (.cells o.cells false 0), []⟩) ∧ Keeps 10 t7 t8 ∧ t8.get 63 = some (.bool false) ∧ t8.get 28 = some (.int .i64 o.kind) := by
      simp [c_wicketlaw12_pair_plays_S8, q28, c4]
    have k8 := k7.trans k8
    rw [run_seq, e8, seqK_normal, run_f g8]
    by_cases c5 : o.kind = 5
    · obtain ⟨t9, e9, k9, g9⟩ : ∃ t9, run (exec T (m + 3)) (m + 3) none c_wicketlaw12_pair_plays_S9 ⟨t8, H.new (.cells o.cells false 0), []⟩ = some (.normal, ⟨t9, H.new (.cells o.cells false 0), []⟩) ∧ Keeps 10 t8 t9 ∧ t9.get 73 = some (.bool true) := by
        simp [c_wicketlaw12_pair_plays_S9, q28, c5]
      have k5 := k8.trans k9
      rw [run_seq, e9, seqK_normal, run_t g9]
      obtain ⟨t6, H6, D6, e6, k6, h6, b6⟩ := copy_step (m := m) (ds := []) (nn := m + 3) (rdd := none) hT.toPaT w0 h1 hw hN hb (by omega) (k5.get u0) (k5.get u5) (k5.get u6) (k5.get u7)
      rw [e6]
      have k56 := k5.trans k6
      exact ⟨t6, H6, D6, 0, rfl, k56.get u0, k56.get u3, k56.get u8, k56.get u9, h6, b6⟩
    obtain ⟨t9, e9, k9, g9⟩ : ∃ t9, run (exec T (m + 3)) (m + 3) none c_wicketlaw12_pair_plays_S9 ⟨t8, H.new (.cells o.cells false 0), []⟩ = some (.normal, ⟨t9, H.new (.cells o.cells false 0), []⟩) ∧ Keeps 10 t8 t9 ∧ t9.get 73 = some (.bool false) := by
      simp [c_wicketlaw12_pair_plays_S9, q28, c5]
    have k9 := k8.trans k9
    rw [run_seq, e9, seqK_normal, run_f g9, run_skip]
    exact ⟨t9, _, D, 0, rfl, k9.get u0, k9.get u3, k9.get u8, k9.get u9, h1.later, hb⟩
  -- what both tell
  obtain ⟨H5, e5, f5⟩ := same_ok (m := m) (w := 0) hT.toPaT w0 h4 (by omega) o (by omega) hm
  obtain ⟨H6, e6, f6⟩ := same_ok (m := m) (w := 1) hT.toPaT w0 (h4.heap w0 f5) (by omega) o (by omega) hm
  have h6 := (h4.heap w0 f5).heap w0 f6
  have e5' : exec T (m + 3) (.fn k_wicketlaw12_pair_same) [.pointer (some ⟨p, 0, none⟩), .int .i64 0, .agg ⟨o.cells⟩] H4 = some (.bool true, H5) := e5
  have e6' : exec T (m + 3) (.fn k_wicketlaw12_pair_same) [.pointer (some ⟨p, 0, none⟩), .int .i64 1, .agg ⟨o.cells⟩] H5 = some (.bool true, H6) := e6
  have r4 : readCells H4 H.next 0 4 = some o.cells := by rw [readCells_of hb4 (by simp [OpL.cells])]; rfl
  have r5 : readCells H5 H.next 0 4 = some o.cells := by rw [readCells_of (f5.keep _ _ hb4 (by simp)) (by simp [OpL.cells])]; rfl
  obtain ⟨t7, e7, y4⟩ : ∃ t7, run (exec T (m + 3)) (m + 3) none c_wicketlaw12_pair_plays_S14 ⟨t4, H4, []⟩ = some (.normal, ⟨t7, H6, []⟩) ∧ t7.get 4 = some (.bool true) := by
    simp (maxSteps := 1000000) (disch := first | omega | (simp; omega) | (simp; done) | fail) [c_wicketlaw12_pair_plays_S14, v0, v3, v8, v9, r4, r5, e5', e6']
  refine ⟨H6, D4, ?_, h6⟩
  rw [exec_fn hT.plays, run_pre2, e1, seqK_normal, run_pre2, e2, seqK_normal, run_seq, e4, seqK_normal, run_seq, e7, seqK_normal]
  simp [y4, endOf, takeAll, results?, resOf, endVal]
end Go.Proofs.Ytnkhlohphaomlaa
