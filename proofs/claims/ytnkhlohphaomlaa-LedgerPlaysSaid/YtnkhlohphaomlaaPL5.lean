/- LedgerPlays: what the document's ledger does. -/
import Derived.Test.YtnkhlohphaomlaaPL4
namespace Go.Proofs.Ytnkhlohphaomlaa
open Go
set_option linter.unusedVariables false
set_option linter.unusedSimpArgs false
variable {T : Nat → Option AFun} {H : Heap} {m : Nat} {t : Int}

theorem Sl.storeN {b n c i es : Nat} {sp : Option Nat} {cs : List Value} {v : Value} (h : Sl H es (.slice (some ⟨b, 0, sp⟩) n c) n cs) (wf : WF H) (hi : i < n * es) :
    ∃ H', writeCells H b i [v] = some H' ∧ Sl H' es (.slice (some ⟨b, 0, sp⟩) n c) n (cs.set i v) ∧ Fr H H' [b] := by
  cases h with
  | @full _ _ _ _ _ rest hb hl hr =>
    have hlen : i + [v].length ≤ (cs ++ rest).length := by simp; omega
    refine ⟨_, writeCells_of hb hlen, ?_, Fr.put wf (by rw [hb]; simp) (by simp)⟩
    refine .full (rest := rest) ?_ (by simpa using hl) (by simpa using hr)
    rw [Heap.get_put, if_pos rfl, writeAt_eq _ _ _ hlen]
    congr 2
    rw [List.take_append_of_le_length (by omega), List.drop_append_of_le_length (by simp; omega), List.set_eq_take_append_cons_drop, if_pos (by omega)]
    simp
theorem flat_set : ∀ {ps : List Part} {j : Nat} {a b c d : Int}, ps[j]? = some (a, b, c) → (ps.flatMap part).set (j * 3 + 2) (.int .i64 d) = (ps.set j (a, b, d)).flatMap part := by
  intro ps
  induction ps with
  | nil => intro j a b c d h; simp at h
  | cons p ps ih =>
    intro j a b c d h
    obtain ⟨x, y, z⟩ := p
    cases j with
    | zero => simp at h; obtain ⟨rfl, rfl, rfl⟩ := h; simp [part]
    | succ j =>
      have := ih (d := d) (by simpa using h)
      rw [List.set_cons_succ, List.flatMap_cons, List.flatMap_cons, ← this]
      rw [show (j + 1) * 3 + 2 = (j * 3 + 2) + 1 + 1 + 1 by omega]
      rfl
theorem flat_take : ∀ {ps : List Part} {j : Nat}, (ps.flatMap part).take (j * 3) = (ps.take j).flatMap part := by
  intro ps
  induction ps with
  | nil => intro j; simp
  | cons p ps ih =>
    intro j
    cases j with
    | zero => simp
    | succ j =>
      rw [List.take_succ_cons, List.flatMap_cons, List.flatMap_cons, ← ih]
      rw [show (j + 1) * 3 = (j * 3) + 1 + 1 + 1 by omega]
      rfl
theorem flat_drop : ∀ {ps : List Part} {j : Nat}, (ps.flatMap part).drop (j * 3) = (ps.drop j).flatMap part := by
  intro ps
  induction ps with
  | nil => intro j; simp
  | cons p ps ih =>
    intro j
    cases j with
    | zero => simp
    | succ j =>
      rw [List.drop_succ_cons, List.flatMap_cons, ← ih]
      rw [show (j + 1) * 3 = (j * 3) + 1 + 1 + 1 by omega]
      rfl
theorem slice_to3 {es n c i b : Nat} {sp : Option Nat} {k : IntKind} (h : i ≤ c) : sliceK H es none (some (.int k (i : Int))) none (.slice (some ⟨b, 0, sp⟩) n c) = some (.slice (some ⟨b, 0, sp⟩) i c, H) := by
  simp [sliceK, natIn_int h]
theorem slice_from3 {es n c i b : Nat} {sp : Option Nat} {k : IntKind} (h : i ≤ n) (hc : n ≤ c) : sliceK H es (some (.int k (i : Int))) none none (.slice (some ⟨b, 0, sp⟩) n c) = some (.slice (some ⟨b, i * es, sp⟩) (n - i) (c - i), H) := by
  simp [sliceK, natIn_int h, ble_false, Nat.ble_eq_true_of_le hc]

/-- The document's ledger, as it stands. -/
structure Rf (H : Heap) (r : Nat) (s : Value) (cap mark : Int) (g : Gs) (N : Nat) : Prop where
  ex : ∃ rec gone ps, Ro false H r cap mark rec gone s ps ∧ kvOf ps = g.kv ∧ rec - gone = g.used ∧ 0 ≤ gone ∧ rec ≤ N ∧ ps.length ≤ N ∧ ∀ p ∈ ps, 0 ≤ p.2.2 ∧ p.2.2 ≤ p.2.1 ∧ p.2.1 ≤ 64

section
variable {r : Nat} {cap mark n : Int} {s : Value} {g : Gs} {N : Nat}
theorem Rf.fr {H' : Heap} {fp : List Nat} (h : Rf H r s cap mark g N) (f : Fr H H' fp) (h1 : r ∉ fp) (h2 : ∀ b ∈ blk s, b ∉ fp) : Rf H' r s cap mark g N := by
  obtain ⟨rec, gone, ps, a, rest⟩ := h.ex
  exact ⟨rec, gone, ps, a.fr f h1 h2, rest⟩
theorem Rf.later (h : Rf H r s cap mark g N) : Rf H r s cap mark g (N + 1) := by
  obtain ⟨rec, gone, ps, a, b, c, d, e, f, g⟩ := h.ex
  exact ⟨rec, gone, ps, a, b, c, d, by omega, by omega, g⟩

theorem rres (hT : RfT T) (h : Rf H r s cap mark g N) (hg : Gd cap g) (wf : WF H) (hN : N ≤ 900) (hm : 1000 ≤ m) :
    ∃ H' s', exec T (m + 3) (.fn k_wicketref12_Ledger_Reserve) [.pointer (some ⟨r, 0, none⟩), .int .u64 t, .int .i64 n] H = some (.int .i64 (gRes cap t n g).1, H') ∧ Rf H' r s' cap mark (gRes cap t n g).2 (N + 1) ∧ Fr H H' (r :: blk s) ∧ ∀ b ∈ blk s', b ∈ blk s ∨ H.next ≤ b := by
  obtain ⟨rec, gone, ps, a, b, c, d, e, f, k⟩ := h.ex
  have hc := hg.hc; have hu := hg.hu; have hle := hg.hle
  have hp := tot_nonneg hg.nn
  have hk : ∀ p ∈ ps, 0 ≤ p.2.2 ∧ p.2.2 ≤ p.2.1 ∧ p.2.1 ≤ 1000 := fun p hp => by have := k p hp; omega
  by_cases h1 : t = 0
  · refine ⟨H, s, ?_, ?_, Fr.refl wf _, fun _ h => .inl h⟩
    · rw [exec_fn hT.reserve]; simp [gRes, h1, endOf, takeAll, results?, resOf, endVal]
    · simp only [gRes, h1, true_or, if_true]; exact h.later
  by_cases h2 : n < 1
  · refine ⟨H, s, ?_, ?_, Fr.refl wf _, fun _ h => .inl h⟩
    · rw [exec_fn hT.reserve]; simp [gRes, h1, h2, endOf, takeAll, results?, resOf, endVal]
    · simp only [gRes, h2, or_true, if_true]; exact h.later
  have h12 : ¬ (t = 0 ∨ n < 1) := by simp [h1, h2]
  have e1 := rat_ok (m := m + 1) (t := t) hT a (by omega) (by omega)
  rw [b] at e1
  cases hx : fidx t g.kv 0 with
  | some q =>
    obtain ⟨j, bb⟩ := q
    have hat : atOf t g.kv = j := by simp [atOf, hx]
    rw [hat] at e1
    have hj0 : (0 : Int) ≤ j := by omega
    refine ⟨H, s, ?_, ?_, Fr.refl wf _, fun _ h => .inl h⟩
    · rw [exec_fn hT.reserve]; simp [gRes, h1, h2, hx, e1, hj0, endOf, takeAll, results?, resOf, endVal]
    · simp only [gRes, h12, if_false, hx, Option.isSome_some, if_true]; exact h.later
  | none =>
    have hat : atOf t g.kv = -1 := by simp [atOf, hx]
    rw [hat] at e1
    have e2 := rfits_ok (m := m) (n := n) hT a (by omega) (by omega) (by omega) (by omega) hk (by rw [b]; omega) (by rw [b]; exact hp) (by omega) (by omega)
    rw [b, c] at e2
    by_cases h3 : cap - g.used - tot g.kv < n
    · have ed : decide (1 ≤ n ∧ n ≤ cap - g.used - tot g.kv) = false := by rw [decide_eq_false_iff_not]; omega
      rw [ed] at e2
      refine ⟨H, s, ?_, ?_, Fr.refl wf _, fun _ h => .inl h⟩
      · rw [exec_fn hT.reserve]; simp [gRes, h1, h2, hx, h3, e1, e2, endOf, takeAll, results?, resOf, endVal]
      · simp only [gRes, h12, if_false, hx, h3, if_true, Option.isSome_none, Bool.false_eq_true]; exact h.later
    · have ed : decide (1 ≤ n ∧ n ≤ cap - g.used - tot g.kv) = true := by rw [decide_eq_true_eq]; omega
      rw [ed] at e2
      obtain ⟨s', H1, ea, ga, fa, ba, _⟩ := a.sl.append1 (new := part (t, n, 0)) wf (by decide) rfl (bytes := 24) (by omega)
      have ea' : appendK (H.new (.cells [.int .u64 t, .int .i64 n, .int .i64 0] false 3)) 24 3 s (.slice (some ⟨H.next, 0, some 0⟩) 1 1) = some (s', H1) := ea
      have hr1 := fa.keep _ _ a.at_ a.nb
      have rs : readCells H r 4 1 = some [s] := by rw [readCells_of a.at_ (by simp)]; rfl
      have hrl : r < H.next := wf.lt a.at_
      have nb' : r ∉ blk s' := fun hh => by
        rcases ba _ hh with h5 | h5
        · exact a.nb h5
        · omega
      obtain ⟨a0, c0, hs⟩ := a.sl.form
      obtain ⟨a1, c1, hs'⟩ := ga.form
      have hw : writeCells H1 r 4 [s'] = some (H1.put r (.cells [.int .i64 cap, .int .i64 mark, .int .i64 rec, .int .i64 gone, s'] false 0)) := by
        rw [writeCells_of hr1 (by simp)]; simp [writeAt]
      have f2 : Fr H1 (H1.put r (.cells [.int .i64 cap, .int .i64 mark, .int .i64 rec, .int .i64 gone, s'] false 0)) [r] := Fr.put fa.wf (by rw [hr1]; simp) (by simp)
      refine ⟨H1.put r (.cells [.int .i64 cap, .int .i64 mark, .int .i64 rec, .int .i64 gone, s'] false 0), s', ?_, ⟨rec, gone, ps ++ [(t, n, 0)], ⟨by simp, ?_⟩, ?_, ?_, d, by omega, by simp; omega, ?_⟩, ?_, ba⟩
      · rw [exec_fn hT.reserve]
        subst hs hs'
        simp (maxSteps := 1000000) [gRes, h1, h2, hx, h3, e1, e2, rs, writeAt, ea', storeK_ptr, hw, endOf, takeAll, results?, resOf, endVal]
      · have := ga.frq f2 nb'
        simpa [part] using this
      · simp only [gRes, h12, if_false, hx, h3, Option.isSome_none, Bool.false_eq_true]
        rw [← b]; simp [kvOf]
      · simp only [gRes, h12, if_false, hx, h3, Option.isSome_none, Bool.false_eq_true]; exact c
      · intro p hp
        rcases List.mem_append.1 hp with h5 | h5
        · exact k p h5
        · simp only [List.mem_singleton] at h5; subst h5; simp only; omega
      · refine fa.trans wf f2 (fun b hb => .inl (List.mem_cons_of_mem _ hb)) (by simp)

theorem rapp (hT : RfT T) (h : Rf H r s cap mark g N) (hg : Gd cap g) (wf : WF H) (hN : N ≤ 900) (hm : 1000 ≤ m) :
    ∃ H' s', exec T (m + 3) (.fn k_wicketref12_Ledger_Append) [.pointer (some ⟨r, 0, none⟩), .int .u64 t] H = some (.int .i64 (gApp t g).1, H') ∧ Rf H' r s' cap mark (gApp t g).2 (N + 1) ∧ Fr H H' (r :: blk s) ∧ ∀ b ∈ blk s', b ∈ blk s ∨ H.next ≤ b := by
  obtain ⟨rec, gone, ps, a, b, c, d, e, f, k⟩ := h.ex
  have hc := hg.hc; have hu := hg.hu; have hle := hg.hle
  have e1 := rat_ok (m := m + 1) (t := t) hT a (by omega) (by omega)
  rw [b] at e1
  have rs : readCells H r 4 1 = some [s] := by rw [readCells_of a.at_ (by simp)]; rfl
  unfold gApp
  cases hx : fidx t g.kv 0 with
  | none =>
    have hat : atOf t g.kv = -1 := by simp [atOf, hx]
    rw [hat] at e1
    refine ⟨H, s, ?_, h.later, Fr.refl wf _, fun _ h => .inl h⟩
    rw [exec_fn hT.append]; simp [e1, endOf, takeAll, results?, resOf, endVal]
  | some q =>
    obtain ⟨j, bb⟩ := q
    have hat : atOf t g.kv = j := by simp [atOf, hx]
    rw [hat] at e1
    have hj := fidx_mem hx
    have hj' := hj
    rw [← b] at hj'
    have hjl : j < ps.length := by have := (List.getElem?_eq_some_iff.1 hj').1; simpa [kvOf] using this
    obtain ⟨bk, sp, c', hv, x0, x1, x2⟩ := a.sl.toRd.part hjl
    have hjv := (List.getElem?_eq_some_iff.1 hj').2
    simp only [kvOf, List.getElem_map, Prod.mk.injEq] at hjv
    obtain ⟨q1, q2⟩ := hjv
    have hq := k _ (List.getElem_mem hjl)
    have hj0 : ¬ (j : Int) < 0 := by omega
    have hjI : (j : Int) < ps.length := by omega
    by_cases hb : bb = 0
    · have he : ps[j].2.2 = ps[j].2.1 := by omega
      simp only [hb, if_true]
      refine ⟨H, s, ?_, h.later, Fr.refl wf _, fun _ h => .inl h⟩
      subst hv
      rw [he] at x2
      rw [exec_fn hT.append]; simp (maxSteps := 1000000) (disch := first | omega | (simp; omega) | (simp; done) | fail) [e1, rs, hj0, hjI, idxK_of, x1, x2, endOf, takeAll, results?, resOf, endVal]
    · have he : ¬ ps[j].2.2 = ps[j].2.1 := by omega
      simp only [hb, if_false]
      subst hv
      obtain ⟨H1, w1, g1, f1⟩ := a.sl.storeN (i := j * 3 + 2) (v := .int .i64 (ps[j].2.2 + 1)) wf (by omega)
      have nbk : r ≠ bk := fun hh => a.nb (by simp [blk, hh])
      have hr1 := f1.keep _ _ a.at_ (by simpa using nbk)
      have wa : IntKind.i64.wrap (ps[j].2.2 + 1) = ps[j].2.2 + 1 := wrap_i64 (by omega) (by omega)
      have wb : IntKind.i64.wrap (rec + 1) = rec + 1 := wrap_i64 (by omega) (by omega)
      have hw : writeCells H1 r 2 [.int .i64 (rec + 1)] = some (H1.put r (.cells [.int .i64 cap, .int .i64 mark, .int .i64 (rec + 1), .int .i64 gone, .slice (some ⟨bk, 0, sp⟩) ps.length c'] false 0)) := by
        rw [writeCells_of hr1 (by simp)]; simp [writeAt]
      have rr : readCells H1 r 2 1 = some [.int .i64 rec] := by rw [readCells_of hr1 (by simp)]; rfl
      have f2 : Fr H1 (H1.put r (.cells [.int .i64 cap, .int .i64 mark, .int .i64 (rec + 1), .int .i64 gone, .slice (some ⟨bk, 0, sp⟩) ps.length c'] false 0)) [r] := Fr.put f1.wf (by rw [hr1]; simp) (by simp)
      have hfl := flat_set (ps := ps) (j := j) (d := ps[j].2.2 + 1) (List.getElem?_eq_getElem hjl)
      refine ⟨H1.put r (.cells [.int .i64 cap, .int .i64 mark, .int .i64 (rec + 1), .int .i64 gone, .slice (some ⟨bk, 0, sp⟩) ps.length c'] false 0), .slice (some ⟨bk, 0, sp⟩) ps.length c', ?_, ⟨rec + 1, gone, ps.set j (ps[j].1, ps[j].2.1, ps[j].2.2 + 1), ⟨by simp, ?_⟩, ?_, by show rec + 1 - gone = g.used + 1; omega, d, by omega, by simp; omega, ?_⟩, ?_, fun _ h => .inl h⟩
      · rw [exec_fn hT.append]
        simp (maxSteps := 1000000) (disch := first | omega | (simp; omega) | (simp; done) | fail) [e1, rs, hj0, hjI, idxK_of, x1, x2, he, wa, wb, storeK_ptr, w1, hw, rr, endOf, takeAll, results?, resOf, endVal]
      · have := g1.frq f2 a.nb
        rw [hfl] at this
        rw [List.length_set]; exact this
      · show kvOf _ = g.kv.set j (t, bb - 1)
        rw [← b, kvOf, List.map_set, ← q1]
        congr 2
        show ps[j].2.1 - (ps[j].2.2 + 1) = bb - 1
        omega
      · intro p hp
        rcases List.mem_or_eq_of_mem_set hp with h5 | h5
        · exact k p h5
        · rw [h5]; show 0 ≤ ps[j].2.2 + 1 ∧ ps[j].2.2 + 1 ≤ ps[j].2.1 ∧ ps[j].2.1 ≤ 64; omega
      · refine f1.trans wf f2 (fun b hb => .inl ?_) (by simp)
        simp only [List.mem_singleton] at hb; subst hb; simp [blk]

theorem rfre (hT : RfT T) (h : Rf H r s cap mark g N) (hg : Gd cap g) (wf : WF H) (hN : N ≤ 900) :
    ∃ H' s', exec T (m + 3) (.fn k_wicketref12_Ledger_Free) [.pointer (some ⟨r, 0, none⟩), .int .i64 n] H = some (.int .i64 (gFre n g).1, H') ∧ Rf H' r s' cap mark (gFre n g).2 (N + 1) ∧ Fr H H' (r :: blk s) ∧ ∀ b ∈ blk s', b ∈ blk s ∨ H.next ≤ b := by
  obtain ⟨rec, gone, ps, a, b, c, d, e, f, k⟩ := h.ex
  have hc := hg.hc; have hu := hg.hu; have hle := hg.hle
  have e1 := rused_ok (m := m + 1) hT a (by omega) (by omega)
  rw [c] at e1
  unfold gFre
  by_cases h1 : n < 0
  · simp only [h1, true_or, if_true]
    refine ⟨H, s, ?_, h.later, Fr.refl wf _, fun _ h => .inl h⟩
    rw [exec_fn hT.free]; simp [h1, endOf, takeAll, results?, resOf, endVal]
  by_cases h2 : g.used < n
  · simp only [h2, or_true, if_true]
    refine ⟨H, s, ?_, h.later, Fr.refl wf _, fun _ h => .inl h⟩
    rw [exec_fn hT.free]; simp [h1, h2, e1, endOf, takeAll, results?, resOf, endVal]
  · have h12 : ¬ (n < 0 ∨ g.used < n) := by simp [h1, h2]
    simp only [h12, if_false]
    have wa : IntKind.i64.wrap (gone + n) = gone + n := wrap_i64 (by omega) (by omega)
    have rr : readCells H r 3 1 = some [.int .i64 gone] := by rw [readCells_of a.at_ (by simp)]; rfl
    have hw : writeCells H r 3 [.int .i64 (gone + n)] = some (H.put r (.cells [.int .i64 cap, .int .i64 mark, .int .i64 rec, .int .i64 (gone + n), s] false 0)) := by
      rw [writeCells_of a.at_ (by simp)]; simp [writeAt]
    have f2 : Fr H (H.put r (.cells [.int .i64 cap, .int .i64 mark, .int .i64 rec, .int .i64 (gone + n), s] false 0)) [r] := Fr.put wf (by rw [a.at_]; simp) (by simp)
    refine ⟨H.put r (.cells [.int .i64 cap, .int .i64 mark, .int .i64 rec, .int .i64 (gone + n), s] false 0), s, ?_, ⟨rec, gone + n, ps, ⟨by simp, a.sl.frq f2 a.nb⟩, b, by show rec - (gone + n) = g.used - n; omega, by omega, by omega, by omega, k⟩, f2.trans wf (Fr.refl f2.wf []) (by simp) (by simp), fun _ h => .inl h⟩
    rw [exec_fn hT.free]; simp [h1, h2, e1, rr, wa, storeK_ptr, hw, endOf, takeAll, results?, resOf, endVal]
end
end Go.Proofs.Ytnkhlohphaomlaa
