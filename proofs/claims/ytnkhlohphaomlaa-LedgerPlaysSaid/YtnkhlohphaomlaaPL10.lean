/- LedgerPlays: the law. -/
import Derived.Test.YtnkhlohphaomlaaPL9
namespace Go.Proofs.Ytnkhlohphaomlaa
open Go
set_option linter.unusedVariables false
set_option linter.unusedSimpArgs false
variable {T : Nat → Option AFun} {H : Heap} {m : Nat} {t : Int}

theorem run_pre4 {self : Self} {n : Nat} {s : St} {rd : Option Nat} {a b c d x : AC} : run self n rd (.seq a (.seq b (.seq c (.seq d x)))) s = seqK self n rd x (run self n rd (.seq a (.seq b (.seq c d))) s) := by
  rw [run_seq, run_seq (b := .seq b _)]
  rcases run self n rd a s with _ | ⟨q, s1⟩
  · rfl
  cases q with
  | normal => rw [seqK_normal, seqK_normal, run_pre3]
  | _ => rfl
structure LawT (T : Nat → Option AFun) : Prop extends PlT T where
  law : T k_wicketlaw12_LedgerPlays = some c_wicketlaw12_LedgerPlays
  awake : ∀ n H, exec T (n + 1) (.fn k_wicketlaw12_awake) [] H = some (.bool true, H)

/-- Both are made anew. -/
theorem mk_ok (hT : LawT T) {c mk : Int} {b : Nat} {tm : Tr Value} {nn : Nat} {rd : Option Nat} (wf : WF H) (hb : H.get b = some (.cells [.int .i64 c, .int .i64 mk] false 0)) (t9 : tm.get 9 = some (.pointer (some ⟨b, 0, none⟩))) :
    ∃ t' H' x, run (exec T (m + 3)) nn rd (.seq c_wicketlaw12_LedgerPlays_S11 (.seq c_wicketlaw12_LedgerPlays_S12 (.seq c_wicketlaw12_LedgerPlays_S15 c_wicketlaw12_LedgerPlays_S21))) ⟨tm, H, []⟩ = some (.normal, ⟨t', H', []⟩) ∧ Keeps 10 tm t' ∧ t'.get 10 = some (.pointer (some ⟨x.l, 0, none⟩)) ∧ t'.get 12 = some (.pointer (some ⟨x.r, 0, none⟩)) ∧
      Du H' x 0 ∧ Fr H H' [] ∧ ∀ q ∈ fpt x, H.next ≤ q := by
  have r0 : readCells H b 0 1 = some [.int .i64 c] := by rw [readCells_of hb (by simp)]; rfl
  have r1 : readCells H b 1 1 = some [.int .i64 mk] := by rw [readCells_of hb (by simp)]; rfl
  have i0 : ∀ (G : Heap), idxAK G 2 1 (.pointer (some ⟨b, 0, none⟩)) (.int .i64 0) = some (.pointer (some ⟨b, 0, none⟩), G) := fun G => by
    have := @idxAK_of G 2 1 0 .i64 ⟨b, 0, none⟩ (by omega); simpa using this
  have i1 : ∀ (G : Heap), idxAK G 2 1 (.pointer (some ⟨b, 0, none⟩)) (.int .i64 1) = some (.pointer (some ⟨b, 1, none⟩), G) := fun G => by
    have := @idxAK_of G 2 1 1 .i64 ⟨b, 0, none⟩ (by omega); simpa using this
  have fin : ∀ {cap mark : Int} {G : Heap}, WF G → 2 ≤ cap ∧ cap ≤ 64 → 1 ≤ mark ∧ mark ≤ cap → ∃ G1 G2, exec T (m + 3) (.fn k_ledger_New) [.int .i64 cap, .int .i64 mark] G = some (.tuple #[.pointer (some ⟨G.next + 1, 0, none⟩), .int .i64 0], G1) ∧ exec T (m + 3) (.fn k_wicketref12_New) [.int .i64 cap, .int .i64 mark] G1 = some (.tuple #[.pointer (some ⟨G1.next, 0, none⟩), .int .i64 0], G2) ∧
      Du G2 ⟨G.next + 1, G.next, G1.next, .slice none 0 0, cap, mark, ⟨0, []⟩⟩ 0 ∧ Fr G G1 [] ∧ Fr G1 G2 [] := by
    intro cap mark G wg h1 h2
    obtain ⟨G1, e1, ld1, f1⟩ := lnew_any (m := m + 2) hT.lp wg h1 h2
    obtain ⟨G2, e2, rf2, f2⟩ := rnew_ok (m := m + 2) hT.rf f1.wf h1 h2
    exact ⟨G1, G2, e1, e2, ⟨by simpa using ld1.fr f2 (by simp) (by simp), rf2, ⟨h1, by simp, by simp, by simp, by simp; omega⟩⟩, f1, f2⟩
  have newl : ∀ {G G1 : Heap} {cap mark : Int}, Fr G G1 [] → ∀ q ∈ fpt (⟨G.next + 1, G.next, G1.next, .slice none 0 0, cap, mark, ⟨0, []⟩⟩ : Pt), G.next ≤ q := by
    intro G G1 cap mark f q hq
    simp only [fpt, blk, List.mem_cons, List.not_mem_nil, or_false] at hq
    have := f.le
    rcases hq with rfl | rfl | rfl <;> omega
  by_cases hg : (2 ≤ c ∧ c ≤ 64) ∧ 1 ≤ mk ∧ mk ≤ c
  · obtain ⟨G1, G2, e1, e2, hd, f1, f2⟩ := fin wf hg.1 hg.2
    have r0' : readCells G1 b 0 1 = some [.int .i64 c] := by rw [readCells_of (f1.keep _ _ hb (by simp)) (by simp)]; rfl
    have r1' : readCells G1 b 1 1 = some [.int .i64 mk] := by rw [readCells_of (f1.keep _ _ hb (by simp)) (by simp)]; rfl
    obtain ⟨t', er, k', q10, q12⟩ : ∃ t', run (exec T (m + 3)) nn rd (.seq c_wicketlaw12_LedgerPlays_S11 (.seq c_wicketlaw12_LedgerPlays_S12 (.seq c_wicketlaw12_LedgerPlays_S15 c_wicketlaw12_LedgerPlays_S21))) ⟨tm, H, []⟩ = some (.normal, ⟨t', G2, []⟩) ∧ Keeps 10 tm t' ∧ t'.get 10 = some (.pointer (some ⟨H.next + 1, 0, none⟩)) ∧ t'.get 12 = some (.pointer (some ⟨G1.next, 0, none⟩)) := by
      simp (maxSteps := 1000000) (disch := first | omega | (simp; omega) | (simp; done) | fail) [c_wicketlaw12_LedgerPlays_S11, c_wicketlaw12_LedgerPlays_S12, c_wicketlaw12_LedgerPlays_S13, c_wicketlaw12_LedgerPlays_S14, c_wicketlaw12_LedgerPlays_S15, c_wicketlaw12_LedgerPlays_S16, c_wicketlaw12_LedgerPlays_S21, t9, i0, i1, r0, r1, r0', r1', e1, e2]
    exact ⟨t', G2, _, er, k', q10, q12, hd, f1.step wf f2 (by simp), newl f1⟩
  · have hbad : c < 2 ∨ 64 < c ∨ mk < 1 ∨ c < mk := by omega
    have e1 := lnew_bad (m := m + 2) (H := H) hT.lp hbad
    have e2 := rnew_bad (m := m + 2) (H := H) hT.rf hbad
    obtain ⟨G1, G2, e3, e4, hd, f1, f2⟩ := fin (cap := 5) (mark := 4) wf (by omega) (by omega)
    obtain ⟨t', er, k', q10, q12⟩ : ∃ t', run (exec T (m + 3)) nn rd (.seq c_wicketlaw12_LedgerPlays_S11 (.seq c_wicketlaw12_LedgerPlays_S12 (.seq c_wicketlaw12_LedgerPlays_S15 c_wicketlaw12_LedgerPlays_S21))) ⟨tm, H, []⟩ = some (.normal, ⟨t', G2, []⟩) ∧ Keeps 10 tm t' ∧ t'.get 10 = some (.pointer (some ⟨H.next + 1, 0, none⟩)) ∧ t'.get 12 = some (.pointer (some ⟨G1.next, 0, none⟩)) := by
      simp (maxSteps := 1000000) (disch := first | omega | (simp; omega) | (simp; done) | fail) [c_wicketlaw12_LedgerPlays_S11, c_wicketlaw12_LedgerPlays_S12, c_wicketlaw12_LedgerPlays_S13, c_wicketlaw12_LedgerPlays_S14, c_wicketlaw12_LedgerPlays_S15, c_wicketlaw12_LedgerPlays_S16, c_wicketlaw12_LedgerPlays_S17, c_wicketlaw12_LedgerPlays_S18, c_wicketlaw12_LedgerPlays_S19, c_wicketlaw12_LedgerPlays_S20, c_wicketlaw12_LedgerPlays_S21, t9, i0, i1, r0, r1, e1, e2, e3, e4]
    exact ⟨t', G2, _, er, k', q10, q12, hd, f1.step wf f2 (by simp), newl f1⟩

structure Pj (H0 H : Heap) (p : Nat) (D : Nat → Pt) (j : Nat) : Prop where
  du : ∀ i, i < j → Du H (D i) 0
  box : H.get p = some (.cells [.pointer (if 0 < j then some ⟨(D 0).l, 0, none⟩ else none), .pointer (if 1 < j then some ⟨(D 1).l, 0, none⟩ else none), .pointer (if 0 < j then some ⟨(D 0).r, 0, none⟩ else none), .pointer (if 1 < j then some ⟨(D 1).r, 0, none⟩ else none)] false 0)
  dis : ∀ i k, i < j → k < j → i ≠ k → ∀ b ∈ fpt (D i), b ∉ fpt (D k)
  np : ∀ i, i < j → p ∉ fpt (D i)
  own : ∀ i, i < j → ∀ b ∈ fpt (D i), H0.next ≤ b
  hp : H0.next ≤ p
  fr : Fr H0 H []
theorem Pj.heap {H0 H' : Heap} {p j : Nat} {D : Nat → Pt} (w0 : WF H0) (h : Pj H0 H p D j) (f : Fr H H' []) : Pj H0 H' p D j :=
  { h with du := fun i hi => (h.du i hi).fr f (by simp), box := f.keep _ _ h.box (by simp), fr := h.fr.step w0 f (by simp) }
theorem Pj.pr {H0 : Heap} {p : Nat} {D : Nat → Pt} (h : Pj H0 H p D 2) : Pr H0 H p D 0 := ⟨h.du, by simpa using h.box, h.dis, h.np, h.own, h.hp, h.fr⟩

/-- One of the two. -/
theorem one_ok (hT : LawT T) {H0 : Heap} (w0 : WF H0) {p w b3 b4 : Nat} {D : Nat → Pt} {c1 m1 c2 m2 : Int} {tm : Tr Value} (h : Pj H0 H p D w) (hw : w < 2) (h3 : H.get b3 = some (.cells [.int .i64 c1, .int .i64 m1] false 0)) (h4 : H.get b4 = some (.cells [.int .i64 c2, .int .i64 m2] false 0))
    (p3 : b3 ≠ p) (p4 : b4 ≠ p) (t3 : tm.get 3 = some (.pointer (some ⟨b3, 0, none⟩))) (t4 : tm.get 4 = some (.pointer (some ⟨b4, 0, none⟩))) (t7 : tm.get 7 = some (.pointer (some ⟨p, 0, none⟩))) (t8 : tm.get 8 = some (.int .i64 (w : Nat))) :
    ∃ t' H' D', run (exec T (m + 3)) (m + 3) none c_wicketlaw12_LedgerPlays_L23 ⟨tm, H, []⟩ = some (.normal, ⟨t', H', []⟩) ∧ KeepsB 9 [8] tm t' ∧ t'.get 8 = some (.int .i64 ((w + 1 : Nat) : Int)) ∧ Pj H0 H' p D' (w + 1) ∧ H'.get b3 = some (.cells [.int .i64 c1, .int .i64 m1] false 0) ∧ H'.get b4 = some (.cells [.int .i64 c2, .int .i64 m2] false 0) := by
  have wf := h.fr.wf
  have r3 : readCells H b3 0 2 = some [.int .i64 c1, .int .i64 m1] := by rw [readCells_of h3 (by simp)]; rfl
  have f0 := Fr.new (o := .cells [.int .i64 0, .int .i64 0] false 0) wf []
  have w1 : IntKind.i64.wrap ((w : Int) + 1) = ((w + 1 : Nat) : Int) := by rw [wrap_i64 (by omega) (by omega)]; rfl
  have stn : ∀ (G : Heap) (a b x y : Int), storeK (G.new (.cells [.int .i64 a, .int .i64 b] false 0)) 2 (.agg ⟨[.int .i64 x, .int .i64 y]⟩) (.pointer (some ⟨G.next, 0, none⟩)) = some (undef, G.new (.cells [.int .i64 x, .int .i64 y] false 0)) := fun G a b x y => by
    rw [storeK_ptr (by simp) (by simp), writeCells_of (cs := [.int .i64 a, .int .i64 b]) (es := 0) (by simp) (by simp)]
    simp [writeAt, new_put]
  obtain ⟨c, mk, t1, e1, k1, q9⟩ : ∃ c mk t1, run (exec T (m + 3)) (m + 3) none (.seq c_wicketlaw12_LedgerPlays_S7 (.seq c_wicketlaw12_LedgerPlays_S8 c_wicketlaw12_LedgerPlays_S10)) ⟨tm, H, []⟩ = some (.normal, ⟨t1, H.new (.cells [.int .i64 c, .int .i64 mk] false 0), []⟩) ∧ Keeps 9 tm t1 ∧ t1.get 9 = some (.pointer (some ⟨H.next, 0, none⟩)) := by
    rcases w with _ | _ | w
    · refine ⟨c1, m1, ?_⟩
      have t8' : tm.get 8 = some (.int .i64 0) := t8
      simp (maxSteps := 1000000) (disch := first | omega | (simp; omega) | (simp; done) | fail) [c_wicketlaw12_LedgerPlays_S6, c_wicketlaw12_LedgerPlays_S7, c_wicketlaw12_LedgerPlays_S8, c_wicketlaw12_LedgerPlays_S9, c_wicketlaw12_LedgerPlays_S10, t3, t8', r3, stn]
    · refine ⟨c2, m2, ?_⟩
      have t8' : tm.get 8 = some (.int .i64 1) := t8
      have r4 : readCells (H.new (.cells [.int .i64 c1, .int .i64 m1] false 0)) b4 0 2 = some [.int .i64 c2, .int .i64 m2] := by
        rw [readCells_of ((Fr.new wf []).keep _ _ h4 (by simp)) (by simp)]; rfl
      simp (maxSteps := 1000000) (disch := first | omega | (simp; omega) | (simp; done) | fail) [c_wicketlaw12_LedgerPlays_S6, c_wicketlaw12_LedgerPlays_S7, c_wicketlaw12_LedgerPlays_S8, c_wicketlaw12_LedgerPlays_S9, c_wicketlaw12_LedgerPlays_S10, t3, t4, t8', r3, r4, stn]
    · omega
  have f1 := Fr.new (o := .cells [.int .i64 c, .int .i64 mk] false 0) wf []
  obtain ⟨t2, H2, x, e2, k2, q10, q12, hd, f2, hx⟩ := mk_ok (m := m) (c := c) (mk := mk) (nn := m + 3) (rd := none) hT f1.wf (b := H.next) (by simp) q9
  have h2 := (h.heap w0 f1).heap w0 f2
  have hxn : ∀ q ∈ fpt x, H.next ≤ q := fun q hq => by have : H.next + 1 ≤ q := hx q hq; omega
  have hpl : p < H.next := wf.lt h.box
  have hpx : p ∉ fpt x := fun hh => by have := hxn _ hh; omega
  have k12 := k1.trans (k2.le (by decide))
  have u7 := k12.get t7; have u8 := k12.get t8
  have box := h2.box
  obtain ⟨H4, ⟨H3, x3, x4⟩, f4, hp4⟩ : ∃ H4, (∃ H3, writeCells H2 p w [.pointer (some ⟨x.l, 0, none⟩)] = some H3 ∧ writeCells H3 p (2 + w) [.pointer (some ⟨x.r, 0, none⟩)] = some H4) ∧ Fr H2 H4 [p] ∧
      H4.get p = some (.cells [.pointer (if 0 < w + 1 then some ⟨(if 0 = w then x else D 0).l, 0, none⟩ else none), .pointer (if 1 < w + 1 then some ⟨(if 1 = w then x else D 1).l, 0, none⟩ else none), .pointer (if 0 < w + 1 then some ⟨(if 0 = w then x else D 0).r, 0, none⟩ else none), .pointer (if 1 < w + 1 then some ⟨(if 1 = w then x else D 1).r, 0, none⟩ else none)] false 0) := by
    rcases w with _ | _ | w
    · refine ⟨_, ⟨_, writeCells_of box (by simp), writeCells_put (by simp [writeAt])⟩, ?_, ?_⟩
      · exact Fr.put f2.wf (by rw [box]; simp) (by simp)
      · simp [writeAt]
    · refine ⟨_, ⟨_, writeCells_of box (by simp), writeCells_put (by simp [writeAt])⟩, ?_, ?_⟩
      · exact Fr.put f2.wf (by rw [box]; simp) (by simp)
      · simp [writeAt]
    · omega
  obtain ⟨t5, e5, k5⟩ : ∃ t5, run (exec T (m + 3)) (m + 3) none (.regd [⟨0, [], false, ⟨(some 73), .move (.tmp 7), none⟩⟩,
      ⟨1, [], false, ⟨(some 74), .move (.tmp 8), none⟩⟩,
      ⟨2, [], false, ⟨(some 75), .move (.tmp 7), none⟩⟩,
      ⟨3, [], false, ⟨(some 76), .move (.tmp 8), none⟩⟩,
      ⟨4, [], false, ⟨(some 77), .move (.tmp 10), none⟩⟩,
      ⟨5, [], false, ⟨(some 78), .move (.tmp 12), none⟩⟩,
      ⟨6, [0], false, ⟨(some 79), .nilCheck (.tmp 73), none⟩⟩,
      ⟨7, [6, 0], false, ⟨(some 80), .fieldAddr 0 (.tmp 79), none⟩⟩,
      ⟨8, [7, 1, 0, 4, 6], false, ⟨(some 81), .idxArr 2 1 (.tmp 80) (.tmp 74), none⟩⟩,
      ⟨10, [2], false, ⟨(some 82), .nilCheck (.tmp 75), none⟩⟩,
      ⟨11, [10, 2], false, ⟨(some 83), .fieldAddr 2 (.tmp 82), none⟩⟩,
      ⟨9, [8, 4, 0, 1, 7, 6], true, ⟨none, .store 1 (.tmp 81) (.tmp 77), none⟩⟩,
      ⟨12, [11, 3, 0, 1, 2, 4, 5, 6, 7, 8, 9, 10], false, ⟨(some 84), .idxArr 2 1 (.tmp 83) (.tmp 76), none⟩⟩,
      ⟨13, [12, 5, 9, 0, 1, 2, 3, 4, 6, 7, 8, 11, 10], true, ⟨none, .store 1 (.tmp 84) (.tmp 78), none⟩⟩]) ⟨t2, H2, []⟩ = some (.normal, ⟨t5, H4, []⟩) ∧ Keeps 9 t2 t5 := by
    simp (maxSteps := 1000000) (disch := first | omega | (simp; omega) | (simp; done) | fail) [u7, u8, q10, q12, idxAK_of, storeK_ptr, x3, x4]
  have v8 := k5.get u8
  obtain ⟨t6, e6, k6, g8⟩ : ∃ t6, run (exec T (m + 3)) (m + 3) none (.reg [⟨(some 21), .move (.tmp 8), none⟩, ⟨(some 22), .bin .add (.tmp 21) (.const (.int .i64 1)), none⟩, ⟨(some 8), .move (.tmp 22), none⟩]) ⟨t5, H4, []⟩ = some (.normal, ⟨t6, H4, []⟩) ∧ KeepsB 9 [8] t5 t6 ∧ t6.get 8 = some (.int .i64 ((w + 1 : Nat) : Int)) := by
    simp [-Int.natCast_add, v8, w1]
  have f12 := f1.step wf f2 (by simp)
  refine ⟨t6, H4, fun i => if i = w then x else D i, ?_, fun q hq hn => (k6 q hq hn).trans ((k5 q hq).trans (k12 q hq)), g8, ⟨fun i hi => ?_, hp4, fun i k hi hk hik b hb => ?_, fun i hi => ?_, fun i hi b hb => ?_, h.hp, h2.fr.step w0 f4 (by simpa using h.hp)⟩, f4.keep _ _ (f12.keep _ _ h3 (by simp)) (by simpa using p3), f4.keep _ _ (f12.keep _ _ h4 (by simp)) (by simpa using p4)⟩
  · obtain ⟨t0, e0⟩ : ∃ t0, run (exec T (m + 3)) (m + 3) none c_wicketlaw12_LedgerPlays_S7 ⟨tm, H, []⟩ = some (.normal, ⟨t0, H, []⟩) := by
      have hw' : (w : Int) < 2 := by omega
      simp [c_wicketlaw12_LedgerPlays_S6, c_wicketlaw12_LedgerPlays_S7, t8, hw', hw]
    rw [run_seq, e0, seqK_normal] at e1
    rw [c_wicketlaw12_LedgerPlays_L23, run_seq, e0, seqK_normal, run_seq, c_wicketlaw12_LedgerPlays_S22, run_block, run_pre2, e1, seqK_normal, run_pre4, e2, seqK_normal, e5, blockK_normal, seqK_normal, e6]
  · by_cases e : i = w
    · simp only [e, if_true]; exact hd.fr f4 (fun q hq => by simp only [List.mem_singleton]; rintro rfl; exact hpx hq)
    · simp only [e, if_false]; exact (h2.du i (by omega)).fr f4 (fun q hq => by simp only [List.mem_singleton]; rintro rfl; exact h.np i (by omega) hq)
  · by_cases e : i = w
    · have e2 : k ≠ w := fun hh => hik (e.trans hh.symm)
      simp only [e, if_true] at hb
      simp only [e2, if_false]
      intro hh
      have := hxn b hb
      have := (h.du k (by omega)).lt wf b hh
      omega
    · simp only [e, if_false] at hb
      by_cases e2 : k = w
      · simp only [e2, if_true]
        intro hh
        have := hxn b hh
        have := (h.du i (by omega)).lt wf b hb
        omega
      · simp only [e2, if_false]; exact h.dis i k (by omega) (by omega) hik b hb
  · by_cases e : i = w
    · simp only [e, if_true]; exact hpx
    · simp only [e, if_false]; exact h.np i (by omega)
  · by_cases e : i = w
    · simp only [e, if_true] at hb; exact Nat.le_trans h.fr.le (hxn b hb)
    · simp only [e, if_false] at hb; exact h.own i (by omega) b hb

/-- The script. -/
theorem script_ok (hT : LawT T) {H0 : Heap} (w0 : WF H0) {p n : Nat} {D : Nat → Pt} {v : Value} {a : Option Addr} {tm : Tr Value} (hm : 1000 ≤ m) (hform : v = .slice a n n)
    (hv : ∀ i, i < n → ∃ o : OpL, ∃ b0 sp, v = .slice (some ⟨b0, 0, sp⟩) n n ∧ ∀ H, Fr H0 H [] → readCells H b0 (i * 4) 4 = some o.cells)
    (h : Pr H0 H p D 0) (t2 : tm.get 2 = some v) (t7 : tm.get 7 = some (.pointer (some ⟨p, 0, none⟩))) (t14 : tm.get 14 = some (.int .i64 (0 : Nat))) :
    ∃ e s', loopN (run (exec T (m + 4)) (m + 4) none c_wicketlaw12_LedgerPlays_L31) (m + 4) ⟨tm, H, []⟩ = some (e, s') ∧ e ≠ .normal ∧ e = .exit 2 ∧ s'.ds = [] ∧ s'.tm.get 7 = some (.pointer (some ⟨p, 0, none⟩)) ∧ ∃ D' N, Pr H0 s'.h p D' N ∧ N ≤ 150 := by
  refine loop_up (a := 0) (n := min n 150)
    (J := fun j s => s.ds = [] ∧ s.tm.get 2 = some v ∧ s.tm.get 7 = some (.pointer (some ⟨p, 0, none⟩)) ∧ s.tm.get 14 = some (.int .i64 (j : Nat)) ∧ ∃ D', Pr H0 s.h p D' j) (by omega) (Nat.zero_le _)
    ⟨rfl, t2, t7, t14, D, h⟩ ?_ ?_
  · rintro j ⟨tm, H, ds⟩ hj ⟨hds, u2, u7, u14, D', hp⟩
    simp only at hds u2 u7 u14 hp
    subst hds
    obtain ⟨o, b0, sp, rfl, hr⟩ := hv j (by omega)
    have hr := hr H hp.fr
    have hj1 : j < n := by omega
    have hj2 : j < 150 := by omega
    have hj1' : (j : Int) < n := by omega
    have hj2' : (j : Int) < 150 := by omega
    have w1 : IntKind.i64.wrap ((j : Int) + 1) = ((j + 1 : Nat) : Int) := by rw [wrap_i64 (by omega) (by omega)]; rfl
    obtain ⟨H2, D2, e2, h2⟩ := plays_ok (m := m) hT.toPlT w0 hp o (by omega) hm
    obtain ⟨t1, e1, k1⟩ : ∃ t1, run (exec T (m + 4)) (m + 4) none c_wicketlaw12_LedgerPlays_S27 ⟨tm, H, []⟩ = some (.normal, ⟨t1, H, []⟩) ∧ Keeps 15 tm t1 := by
      simp (maxSteps := 1000000) (disch := first | omega | (simp; omega) | (simp; done) | fail) [c_wicketlaw12_LedgerPlays_S26, c_wicketlaw12_LedgerPlays_S27, u2, u14, goInt, hj1, hj2, hj1', hj2']
    have q2 := k1.get u2; have q7 := k1.get u7; have q14 := k1.get u14
    obtain ⟨t3, e3, k3⟩ : ∃ t3, run (exec T (m + 4)) (m + 4) none c_wicketlaw12_LedgerPlays_S30 ⟨t1, H, []⟩ = some (.normal, ⟨t3, H2, []⟩) ∧ Keeps 15 t1 t3 := by
      simp (maxSteps := 1000000) (disch := first | omega | (simp; omega) | (simp; done) | fail) [c_wicketlaw12_LedgerPlays_S28, c_wicketlaw12_LedgerPlays_S29, c_wicketlaw12_LedgerPlays_S30, q2, q7, q14, idxK_of, hr, e2]
    have v14 := k3.get q14
    obtain ⟨t4, e4, k4, g14⟩ : ∃ t4, run (exec T (m + 4)) (m + 4) none (.reg [⟨(some 93), .move (.tmp 14), none⟩, ⟨(some 94), .bin .add (.tmp 93) (.const (.int .i64 1)), none⟩, ⟨(some 14), .move (.tmp 94), none⟩]) ⟨t3, H2, []⟩ = some (.normal, ⟨t4, H2, []⟩) ∧ KeepsB 15 [14] t3 t4 ∧ t4.get 14 = some (.int .i64 ((j + 1 : Nat) : Int)) := by
      simp [-Int.natCast_add, v14, w1]
    refine ⟨.normal, ⟨t4, H2, []⟩, ?_, .inl ⟨rfl, rfl, k4.get (k3.get q2), k4.get (k3.get q7), g14, D2, h2⟩⟩
    rw [c_wicketlaw12_LedgerPlays_L31, run_seq, e1, seqK_normal, run_seq, e3, seqK_normal, e4]
  · rintro ⟨tm, H, ds⟩ ⟨hds, u2, u7, u14, D', hp⟩
    simp only at hds u2 u7 u14 hp
    subst hds hform
    obtain ⟨t3, g3, k3⟩ : ∃ t3, run (exec T (m + 4)) (m + 4) none c_wicketlaw12_LedgerPlays_L31 ⟨tm, H, []⟩ = some (.exit 2, ⟨t3, H, []⟩) ∧ Keeps 15 tm t3 := by
      by_cases hn : n ≤ 150
      · have hmin : min n 150 = n := by omega
        rw [hmin] at u14
        simp [c_wicketlaw12_LedgerPlays_L31, c_wicketlaw12_LedgerPlays_S26, c_wicketlaw12_LedgerPlays_S27, u2, u14, goInt]
      · have hmin : min n 150 = 150 := by omega
        rw [hmin] at u14
        have h1 : (150 : Int) < n := by omega
        have h2 : 150 < n := by omega
        simp [c_wicketlaw12_LedgerPlays_L31, c_wicketlaw12_LedgerPlays_S26, c_wicketlaw12_LedgerPlays_S27, u2, u14, goInt, h1, h2]
    exact ⟨_, _, g3, by simp, rfl, rfl, k3.get u7, D', _, hp, by omega⟩

theorem ledgerPlays_ok (hT : LawT T) (wf : WF H) {v : Value} {n : Nat} {cs : List Value} (c1 m1 c2 m2 : Int) (hm : 1000 ≤ m) (hv : InSl H 4 v n cs) (hops : ∀ i, i < n → ∃ o : OpL, (cs.drop (i * 4)).take 4 = o.cells) :
    ∃ H', exec T (m + 5) (.fn k_wicketlaw12_LedgerPlays) [.agg ⟨[.int .i64 c1, .int .i64 m1]⟩, .agg ⟨[.int .i64 c2, .int .i64 m2]⟩, v] H = some (.bool true, H') := by
  obtain ⟨a, cc, hform0⟩ := hv.form
  have hform : v = .slice a n n := by cases hv with
    | empty => cases hform0; rfl
    | full hb hl => cases hform0; rfl
  clear hform0
  have f1 := Fr.new (o := .cells [.int .i64 c1, .int .i64 m1] false 0) wf []
  have f2 := Fr.new (o := .cells [.int .i64 c2, .int .i64 m2] false 0) f1.wf []
  have f3 := Fr.new (o := .cells [.pointer none, .pointer none, .pointer none, .pointer none] false 0) f2.wf []
  have f13 := (f1.step wf f2 (by simp)).step wf f3 (by simp)
  have aw := hT.awake (m + 3) ((H.new (.cells [.int .i64 c1, .int .i64 m1] false 0)).new (.cells [.int .i64 c2, .int .i64 m2] false 0))
  obtain ⟨t1, e1, q2, q3, q4, q7⟩ : ∃ t1, run (exec T (m + 4)) (m + 4) none (.seq c_wicketlaw12_LedgerPlays_S0 (.seq c_wicketlaw12_LedgerPlays_S3 c_wicketlaw12_LedgerPlays_S4)) ⟨initTm 0 .nil [.agg ⟨[.int .i64 c1, .int .i64 m1]⟩, .agg ⟨[.int .i64 c2, .int .i64 m2]⟩, v], H, []⟩ = some (.normal, ⟨t1, ((H.new (.cells [.int .i64 c1, .int .i64 m1] false 0)).new (.cells [.int .i64 c2, .int .i64 m2] false 0)).new (.cells [.pointer none, .pointer none, .pointer none, .pointer none] false 0), []⟩) ∧
      t1.get 2 = some v ∧ t1.get 3 = some (.pointer (some ⟨H.next, 0, none⟩)) ∧ t1.get 4 = some (.pointer (some ⟨H.next + 1, 0, none⟩)) ∧ t1.get 7 = some (.pointer (some ⟨H.next + 2, 0, none⟩)) := by
    simp (maxSteps := 1000000) (disch := first | omega | (simp; omega) | (simp; done) | fail) [c_wicketlaw12_LedgerPlays_S0, c_wicketlaw12_LedgerPlays_S1, c_wicketlaw12_LedgerPlays_S2, c_wicketlaw12_LedgerPlays_S3, c_wicketlaw12_LedgerPlays_S4, boxK_agg, aw]
  obtain ⟨t2, e2, k2, q8⟩ : ∃ t2, run (exec T (m + 4)) (m + 4) none c_wicketlaw12_LedgerPlays_S5 ⟨t1, ((H.new (.cells [.int .i64 c1, .int .i64 m1] false 0)).new (.cells [.int .i64 c2, .int .i64 m2] false 0)).new (.cells [.pointer none, .pointer none, .pointer none, .pointer none] false 0), []⟩ = some (.normal, ⟨t2, ((H.new (.cells [.int .i64 c1, .int .i64 m1] false 0)).new (.cells [.int .i64 c2, .int .i64 m2] false 0)).new (.cells [.pointer none, .pointer none, .pointer none, .pointer none] false 0), []⟩) ∧ Keeps 8 t1 t2 ∧ t2.get 8 = some (.int .i64 (0 : Nat)) := by
    simp [c_wicketlaw12_LedgerPlays_S5]
  have hj0 : Pj H (((H.new (.cells [.int .i64 c1, .int .i64 m1] false 0)).new (.cells [.int .i64 c2, .int .i64 m2] false 0)).new (.cells [.pointer none, .pointer none, .pointer none, .pointer none] false 0)) (H.next + 2) (fun _ => ⟨0, 0, 0, .slice none 0 0, 0, 0, ⟨0, []⟩⟩) 0 :=
    ⟨fun i hi => by omega, by simp, fun i k hi => by omega, fun i hi => by omega, fun i hi => by omega, by omega, f13⟩
  obtain ⟨_, ⟨t3, H3, ds3⟩, e3, _, rfl, hds, u2, u7, D3, h3⟩ := loop_up (f := run (exec T (m + 4)) (m + 4) none c_wicketlaw12_LedgerPlays_L23) (a := 0) (n := 2) (m := m + 4) (s := ⟨t2, ((H.new (.cells [.int .i64 c1, .int .i64 m1] false 0)).new (.cells [.int .i64 c2, .int .i64 m2] false 0)).new (.cells [.pointer none, .pointer none, .pointer none, .pointer none] false 0), []⟩)
    (J := fun j s => s.ds = [] ∧ s.tm.get 2 = some v ∧ s.tm.get 3 = some (.pointer (some ⟨H.next, 0, none⟩)) ∧ s.tm.get 4 = some (.pointer (some ⟨H.next + 1, 0, none⟩)) ∧ s.tm.get 7 = some (.pointer (some ⟨H.next + 2, 0, none⟩)) ∧ s.tm.get 8 = some (.int .i64 (j : Nat)) ∧
      s.h.get H.next = some (.cells [.int .i64 c1, .int .i64 m1] false 0) ∧ s.h.get (H.next + 1) = some (.cells [.int .i64 c2, .int .i64 m2] false 0) ∧ ∃ D, Pj H s.h (H.next + 2) D j)
    (Q := fun e s => e = .exit 0 ∧ s.ds = [] ∧ s.tm.get 2 = some v ∧ s.tm.get 7 = some (.pointer (some ⟨H.next + 2, 0, none⟩)) ∧ ∃ D, Pj H s.h (H.next + 2) D 2) (by omega) (Nat.zero_le _)
    ⟨rfl, k2.get q2, k2.get q3, k2.get q4, k2.get q7, q8, by (simp; omega), by simp, _, hj0⟩ (by
      rintro j ⟨tm, G, ds⟩ hj ⟨hds, u2, u3, u4, u7, u8, x1, x2, D, hp⟩
      simp only at hds u2 u3 u4 u7 u8 x1 x2 hp
      subst hds
      obtain ⟨t', G', D', e, k, g8, hp', y1, y2⟩ := one_ok (m := m + 1) hT wf hp hj x1 x2 (by omega) (by omega) u3 u4 u7 u8
      exact ⟨_, _, e, .inl ⟨rfl, rfl, k.get u2, k.get u3, k.get u4, k.get u7, g8, y1, y2, D', hp'⟩⟩) (by
      rintro ⟨tm, G, ds⟩ ⟨hds, u2, u3, u4, u7, u8, x1, x2, D, hp⟩
      simp only at hds u2 u3 u4 u7 u8 x1 x2 hp
      subst hds
      have u8' : tm.get 8 = some (.int .i64 2) := u8
      obtain ⟨t', g, k⟩ : ∃ t', run (exec T (m + 4)) (m + 4) none c_wicketlaw12_LedgerPlays_L23 ⟨tm, G, []⟩ = some (.exit 0, ⟨t', G, []⟩) ∧ Keeps 9 tm t' := by
        simp [c_wicketlaw12_LedgerPlays_L23, c_wicketlaw12_LedgerPlays_S6, c_wicketlaw12_LedgerPlays_S7, u8']
      exact ⟨_, _, g, by simp, rfl, rfl, k.get u2, k.get u7, D, hp⟩)
  simp only at hds u2 u7 h3
  subst hds
  have e24 : run (exec T (m + 4)) (m + 4) none c_wicketlaw12_LedgerPlays_S24 ⟨t1, ((H.new (.cells [.int .i64 c1, .int .i64 m1] false 0)).new (.cells [.int .i64 c2, .int .i64 m2] false 0)).new (.cells [.pointer none, .pointer none, .pointer none, .pointer none] false 0), []⟩ = some (.normal, ⟨t3, H3, []⟩) := by
    rw [c_wicketlaw12_LedgerPlays_S24, run_seq, e2, seqK_normal, run_block, run_loop, e3]; rfl
  obtain ⟨t4, e4, k4, q14⟩ : ∃ t4, run (exec T (m + 4)) (m + 4) none c_wicketlaw12_LedgerPlays_S25 ⟨t3, H3, []⟩ = some (.normal, ⟨t4, H3, []⟩) ∧ Keeps 14 t3 t4 ∧ t4.get 14 = some (.int .i64 (0 : Nat)) := by
    simp [c_wicketlaw12_LedgerPlays_S25]
  obtain ⟨_, ⟨t5, H5, ds5⟩, e5, _, rfl, hds, v7, D5, N, h5, hN⟩ := script_ok (m := m) hT wf hm hform (fun i hi => by
    obtain ⟨o, ho⟩ := hops i hi
    obtain ⟨b, rfl, hr⟩ := hv.read hi
    refine ⟨o, b, none, rfl, fun H' f => ?_⟩
    obtain ⟨b', hb', hr'⟩ := (hv.fr f).read hi
    cases hb'
    rw [hr' _ _ (by omega), ho]) h3.pr (k4.get u2) (k4.get u7) q14
  simp only at hds v7 h5
  subst hds
  have e32 : run (exec T (m + 4)) (m + 4) none c_wicketlaw12_LedgerPlays_S32 ⟨t3, H3, []⟩ = some (.normal, ⟨t5, H5, []⟩) := by
    rw [c_wicketlaw12_LedgerPlays_S32, run_seq, e4, seqK_normal, run_block, run_loop, e5]; rfl
  obtain ⟨H6, e6, f6⟩ := same_ok (m := m + 1) (w := 0) hT.toPaT wf h5 (by omega) ⟨0, 0, 0, 0⟩ (by omega) (by omega)
  obtain ⟨H7, e7, f7⟩ := same_ok (m := m + 1) (w := 1) hT.toPaT wf (h5.heap wf f6) (by omega) ⟨0, 0, 0, 0⟩ (by omega) (by omega)
  have e6' : exec T (m + 4) (.fn k_wicketlaw12_pair_same) [.pointer (some ⟨H.next + 2, 0, none⟩), .int .i64 0, .agg ⟨[.int .i64 0, .int .i64 0, .int .u64 0, .int .i64 0]⟩] H5 = some (.bool true, H6) := e6
  have e7' : exec T (m + 4) (.fn k_wicketlaw12_pair_same) [.pointer (some ⟨H.next + 2, 0, none⟩), .int .i64 1, .agg ⟨[.int .i64 0, .int .i64 0, .int .u64 0, .int .i64 0]⟩] H6 = some (.bool true, H7) := e7
  obtain ⟨t8, e8, y6⟩ : ∃ t8, run (exec T (m + 4)) (m + 4) none c_wicketlaw12_LedgerPlays_S33 ⟨t5, H5, []⟩ = some (.normal, ⟨t8, H7, []⟩) ∧ t8.get 6 = some (.bool true) := by
    simp (maxSteps := 1000000) (disch := first | omega | (simp; omega) | (simp; done) | fail) [c_wicketlaw12_LedgerPlays_S33, v7, e6', e7']
  refine ⟨H7, ?_⟩
  rw [exec_fn hT.law, run_pre3, e1, seqK_normal, run_seq, e24, seqK_normal, run_seq, e32, seqK_normal, run_seq, e8, seqK_normal]
  simp [y6, endOf, takeAll, results?, resOf, endVal]
end Go.Proofs.Ytnkhlohphaomlaa
