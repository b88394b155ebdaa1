/- LedgerPlays: Close, New, Copy; what the program's ledger tells. -/
import Derived.Test.YtnkhlohphaomlaaPL5
import Derived.Test.YtnkhlohphaomlaaPrim2
namespace Go.Proofs.Ytnkhlohphaomlaa
open Go
set_option linter.unusedVariables false
set_option linter.unusedSimpArgs false
variable {T : Nat → Option AFun} {H : Heap} {m : Nat} {t : Int}
theorem part_len : ∀ {ps : List Part}, (ps.flatMap part).length = ps.length * 3 := by
  intro ps
  induction ps with
  | nil => rfl
  | cons p ps ih => rw [List.flatMap_cons, List.length_append, ih, List.length_cons]; simp [part]; omega
section
variable {r : Nat} {cap mark n : Int} {s : Value} {g : Gs} {N : Nat}

theorem rclo (hT : RfT T) (h : Rf H r s cap mark g N) (hg : Gd cap g) (wf : WF H) (hN : N ≤ 900) (hm : 1000 ≤ m) :
    ∃ H' s', exec T (m + 3) (.fn k_wicketref12_Ledger_Close) [.pointer (some ⟨r, 0, none⟩), .int .u64 t] H = some (.int .i64 (gClo t g).1, H') ∧ Rf H' r s' cap mark (gClo t g).2 (N + 1) ∧ Fr H H' (r :: blk s) ∧ ∀ b ∈ blk s', b ∈ blk s ∨ H.next ≤ b := by
  obtain ⟨rec, gone, ps, a, b, c, d, e, f, k⟩ := h.ex
  have e1 := rat_ok (m := m + 1) (t := t) hT a (by omega) (by omega)
  rw [b] at e1
  unfold gClo
  cases hx : fidx t g.kv 0 with
  | none =>
    have hat : atOf t g.kv = -1 := by simp [atOf, hx]
    rw [hat] at e1
    refine ⟨H, s, ?_, h.later, Fr.refl wf _, fun _ h => .inl h⟩
    rw [exec_fn hT.close]; simp [e1, endOf, takeAll, results?, resOf, endVal]
  | some q =>
    obtain ⟨j, bb⟩ := q
    have hat : atOf t g.kv = j := by simp [atOf, hx]
    rw [hat] at e1
    have hj' := fidx_mem hx
    rw [← b] at hj'
    have hjl : j < ps.length := by have := (List.getElem?_eq_some_iff.1 hj').1; simpa [kvOf] using this
    obtain ⟨bk, sp, c', hv⟩ := a.sl.ne_nil (by omega)
    have hcap : ps.length ≤ c' := by have := a.sl.toRd.cap (by decide); rw [hv] at this; simpa [capOf] using this
    have hj0 : ¬ (j : Int) < 0 := by omega
    have hrl : r < H.next := wf.lt a.at_
    subst hv
    have hbl : bk < H.next := a.sl.lt wf bk (by simp [blk])
    have nbk : bk ≠ r := fun hh => a.nb (by simp [blk, hh])
    -- an empty row of its own
    have f1 := Fr.new (o := .cells [] false 3) wf []
    have hr1 := f1.keep _ _ a.at_ (by simp)
    have f2 : Fr (H.new (.cells [] false 3)) ((H.new (.cells [] false 3)).put r (.cells [.int .i64 cap, .int .i64 mark, .int .i64 rec, .int .i64 gone, .slice (some ⟨bk, 0, sp⟩) ps.length c'] true 0)) [r] := Fr.put f1.wf (by rw [hr1]; simp) (by simp)
    have s0 : Sl ((H.new (.cells [] false 3)).put r (.cells [.int .i64 cap, .int .i64 mark, .int .i64 rec, .int .i64 gone, .slice (some ⟨bk, 0, sp⟩) ps.length c'] true 0)) 3 (.slice (some ⟨H.next, 0, some 0⟩) 0 0) 0 [] :=
      .full (rest := []) (by rw [Heap.get_put, if_neg (by omega)]; simp) rfl rfl
    have a2 := (a.sl.fr f1 (by simp)).frq f2 a.nb
    have src1 : srcCells ((H.new (.cells [] false 3)).put r (.cells [.int .i64 cap, .int .i64 mark, .int .i64 rec, .int .i64 gone, .slice (some ⟨bk, 0, sp⟩) ps.length c'] true 0)) (some ⟨bk, 0, sp⟩) (j * 3) = some ((ps.take j).flatMap part) := by
      show readCells _ bk 0 (j * 3) = _
      rw [a2.read (by omega), List.drop_zero, flat_take]
    obtain ⟨s1, H2, ea, g2, f3, b2, _⟩ := s0.appendS (c := c') src1 (by rw [part_len]; simp; omega) f2.wf (by decide) (bytes := 24) (by omega)
    simp only [Nat.zero_add, List.nil_append] at g2
    have n2 : H.next + 1 ≤ H2.next := f3.le
    have ns1 : ∀ x ∈ blk s1, H.next ≤ x := fun x hx => by
      rcases b2 x hx with h5 | h5
      · simp [blk] at h5; omega
      · have : H.next + 1 ≤ x := h5; omega
    have nr1 : r ∉ blk s1 := fun hh => by have := ns1 _ hh; omega
    -- back in reach
    have f4 : Fr H2 (H2.put r (.cells [.int .i64 cap, .int .i64 mark, .int .i64 rec, .int .i64 gone, .slice (some ⟨bk, 0, sp⟩) ps.length c'] false 0)) [r] := Fr.put' f3.wf (by omega) (by simp)
    have g3 := g2.frq f4 nr1
    have a3 := (a2.frq f3 (by simp [blk]; omega)).frq f4 a.nb
    have src2 : srcCells (H2.put r (.cells [.int .i64 cap, .int .i64 mark, .int .i64 rec, .int .i64 gone, .slice (some ⟨bk, 0, sp⟩) ps.length c'] false 0)) (some ⟨bk, (j + 1) * 3, sp⟩) ((ps.length - (j + 1)) * 3) = some ((ps.drop (j + 1)).flatMap part) := by
      show readCells _ bk ((j + 1) * 3) _ = _
      rw [a3.read (by omega), flat_drop, List.take_of_length_le (by rw [part_len]; simp)]
    obtain ⟨s2, H4, eb, g4, f5, b4, _⟩ := g3.appendS (c := c' - (j + 1)) src2 (by rw [part_len]; simp) f4.wf (by decide) (bytes := 24) (by omega)
    have ns2 : ∀ x ∈ blk s2, H.next ≤ x := fun x hx => by
      rcases b4 x hx with h5 | h5
      · exact ns1 x h5
      · have : H2.next ≤ x := h5; omega
    have nr2 : r ∉ blk s2 := fun hh => by have := ns2 _ hh; omega
    have hr4 := f5.keep r (.cells [.int .i64 cap, .int .i64 mark, .int .i64 rec, .int .i64 gone, .slice (some ⟨bk, 0, sp⟩) ps.length c'] false 0) (by simp) nr1
    have hw : writeCells H4 r 4 [s2] = some (H4.put r (.cells [.int .i64 cap, .int .i64 mark, .int .i64 rec, .int .i64 gone, s2] false 0)) := by
      rw [writeCells_of hr4 (by simp)]; simp [writeAt]
    have f6 : Fr H4 (H4.put r (.cells [.int .i64 cap, .int .i64 mark, .int .i64 rec, .int .i64 gone, s2] false 0)) [r] := Fr.put f5.wf (by rw [hr4]; simp) (by simp)
    have g6 := g4.frq f6 nr2
    -- what the region does
    have hA : (H.new (.cells [] false 3)).get H.next = some (.cells [] false 3) := by simp
    have hq : H.next < (H.new (.cells [] false 3)).next := by simp
    have rsd : readCells ((H.new (.cells [] false 3)).drop H.next) r 4 1 = some [.slice (some ⟨bk, 0, sp⟩) ps.length c'] := by
      rw [readCells_of (((Fr.drop (fp := [H.next]) f1.wf (by simp)).keep _ _ hr1 (by simp; omega))) (by simp)]; rfl
    have sl1 := @slice_to3 ((H.new (.cells [] false 3)).drop H.next) 3 ps.length c' j bk sp .i64 (by omega)
    have sl2 := @slice_from3 ((H.new (.cells [] false 3)).drop H.next) 3 ps.length c' (j + 1) bk sp .i64 (by omega) hcap
    have w1 : IntKind.i64.wrap ((j : Int) + 1) = ((j + 1 : Nat) : Int) := by rw [wrap_i64 (by omega) (by omega)]; rfl
    obtain ⟨a5, c5, hs2⟩ := g4.form
    refine ⟨H4.put r (.cells [.int .i64 cap, .int .i64 mark, .int .i64 rec, .int .i64 gone, s2] false 0), s2, ?_, ⟨rec, gone, ps.eraseIdx j, ⟨by simp, ?_⟩, ?_, c, d, by omega, ?_, fun p hp => k p (List.mem_of_mem_eraseIdx hp)⟩, ?_, fun x hx => .inr (ns2 x hx)⟩
    · rw [exec_fn hT.close]
      subst hs2
      simp (maxSteps := 1000000) (disch := first | omega | (simp; omega) | (simp; done) | fail) [-Int.natCast_add, e1, hj0, hA, drop_put hA, doperK_h hq, doperK_r, roAt_cells hr1, hr1, rsd, sl1, sl2, w1, ea, eb, storeK_ptr, hw, endOf, takeAll, results?, resOf, endVal]
    · have e3 : (ps.eraseIdx j).length = j + (ps.length - (j + 1)) := by rw [List.length_eraseIdx, if_pos hjl]; omega
      have e4 : (ps.eraseIdx j).flatMap part = (ps.take j).flatMap part ++ (ps.drop (j + 1)).flatMap part := by
        rw [List.eraseIdx_eq_take_drop_succ, List.flatMap_append]
      rw [e3, e4]; exact g6
    · show kvOf _ = g.kv.eraseIdx j
      rw [← b, kvOf, kvOf, ← map_eraseIdx]
    · rw [List.length_eraseIdx, if_pos hjl]; omega
    · refine ⟨f6.wf, fun x o hx hn => ?_, by have := f5.le; have h1 : H2.next ≤ H4.next := f5.le; show H.next ≤ H4.next; omega⟩
      simp only [List.mem_cons, not_or] at hn
      have hxl : x < H.next := wf.lt hx
      refine f6.keep _ _ (f5.keep _ _ (f4.keep _ _ (f3.keep _ _ (f2.keep _ _ (f1.keep _ _ hx (by simp)) (by simpa using hn.1)) (by simp [blk]; omega)) (by simpa using hn.1)) (fun hh => by have := ns1 _ hh; omega)) (by simpa using hn.1)

theorem rnew_bad (hT : RfT T) (hbad : cap < 2 ∨ 64 < cap ∨ mark < 1 ∨ cap < mark) : exec T (m + 1) (.fn k_wicketref12_New) [.int .i64 cap, .int .i64 mark] H = some (.tuple #[.pointer none, .int .i64 2], H) := by
  rw [exec_fn hT.new]
  by_cases h1 : cap < 2
  · simp [h1, endOf, takeAll, results?, resOf, endVal]
  by_cases h2 : 64 < cap
  · simp [h1, h2, endOf, takeAll, results?, resOf, endVal]
  by_cases h3 : mark < 1
  · simp [h1, h2, h3, endOf, takeAll, results?, resOf, endVal]
  have h4 : cap < mark := by omega
  simp [h1, h2, h3, h4, endOf, takeAll, results?, resOf, endVal]
theorem rnew_ok (hT : RfT T) (wf : WF H) (h : 2 ≤ cap ∧ cap ≤ 64) (h' : 1 ≤ mark ∧ mark ≤ cap) :
    ∃ H', exec T (m + 1) (.fn k_wicketref12_New) [.int .i64 cap, .int .i64 mark] H = some (.tuple #[.pointer (some ⟨H.next, 0, none⟩), .int .i64 0], H') ∧ Rf H' H.next (.slice none 0 0) cap mark ⟨0, []⟩ 0 ∧ Fr H H' [] := by
  have h1 : ¬ cap < 2 := by omega
  have h2 : ¬ 64 < cap := by omega
  have h3 : ¬ mark < 1 := by omega
  have h4 : ¬ cap < mark := by omega
  refine ⟨H.new (.cells [.int .i64 cap, .int .i64 mark, .int .i64 0, .int .i64 0, .slice none 0 0] false 0), ?_, ⟨0, 0, [], ⟨by simp, .empty⟩, rfl, by simp, by omega, by simp, by simp, by simp⟩, Fr.new wf []⟩
  rw [exec_fn hT.new]
  simp [h1, h2, h3, h4, writeAt, boxK_agg, endOf, takeAll, results?, resOf, endVal]
theorem rcopy_ok (hT : RfT T) (h : Rf H r s cap mark g N) (wf : WF H) (hN : N ≤ 900) :
    ∃ H' r' s', exec T (m + 1) (.fn k_wicketref12_Ledger_Copy) [.pointer (some ⟨r, 0, none⟩)] H = some (.pointer (some ⟨r', 0, none⟩), H') ∧ Rf H' r' s' cap mark g N ∧ Fr H H' [] ∧ H.next ≤ r' ∧ (∀ b ∈ blk s', H.next ≤ b) := by
  obtain ⟨rec, gone, ps, a, b, c, d, e, f, k⟩ := h.ex
  have rl : readCells H r 0 5 = some [.int .i64 cap, .int .i64 mark, .int .i64 rec, .int .i64 gone, s] := by rw [readCells_of a.at_ (by simp)]; rfl
  have f1 := Fr.new (o := .cells [.int .i64 0, .int .i64 0, .int .i64 0, .int .i64 0, .slice none 0 0] false 0) wf []
  obtain ⟨a0, c0, hs⟩ := a.sl.form
  subst hs
  have st : storeK (H.new (.cells [.int .i64 0, .int .i64 0, .int .i64 0, .int .i64 0, .slice none 0 0] false 0)) 5 (.agg ⟨[.int .i64 cap, .int .i64 mark, .int .i64 rec, .int .i64 gone, .slice a0 ps.length c0]⟩) (.pointer (some ⟨H.next, 0, none⟩)) = some (undef, H.new (.cells [.int .i64 cap, .int .i64 mark, .int .i64 rec, .int .i64 gone, .slice a0 ps.length c0] false 0)) := by
    rw [storeK_ptr (by simp) (by simp), writeCells_of (cs := [.int .i64 0, .int .i64 0, .int .i64 0, .int .i64 0, .slice none 0 0]) (es := 0) (by simp) (by simp)]
    simp [writeAt, new_put]
  have f2 := Fr.new (o := .cells [.int .i64 cap, .int .i64 mark, .int .i64 rec, .int .i64 gone, .slice a0 ps.length c0] false 0) wf []
  have f3 := Fr.new (o := .cells [] false 3) f2.wf []
  have f23 := f2.step wf f3 (by simp)
  have rs : readCells ((H.new (.cells [.int .i64 cap, .int .i64 mark, .int .i64 rec, .int .i64 gone, .slice a0 ps.length c0] false 0)).new (.cells [] false 3)) r 4 1 = some [.slice a0 ps.length c0] := by
    rw [readCells_of (f23.keep _ _ a.at_ (by simp)) (by simp)]; rfl
  have s0 : Sl ((H.new (.cells [.int .i64 cap, .int .i64 mark, .int .i64 rec, .int .i64 gone, .slice a0 ps.length c0] false 0)).new (.cells [] false 3)) 3 (.slice (some ⟨H.next + 1, 0, some 0⟩) 0 0) 0 [] := .full (rest := []) (by simp) rfl rfl
  obtain ⟨s', H4, ea, g4, f4, b4, _⟩ := s0.appendR (a.sl.fr f23 (by simp)).toRd f3.wf (by decide) (bytes := 24) (by omega)
  simp only [Nat.zero_add, List.nil_append] at g4
  have n1 : ∀ x ∈ blk s', H.next + 1 ≤ x := fun x hx => by
    rcases b4 x hx with h5 | h5
    · simp [blk] at h5; omega
    · have : H.next + 2 ≤ x := h5; omega
  have hr4 := f4.keep H.next (.cells [.int .i64 cap, .int .i64 mark, .int .i64 rec, .int .i64 gone, .slice a0 ps.length c0] false 0) (by simp) (by simp [blk])
  have hw : writeCells H4 H.next 4 [s'] = some (H4.put H.next (.cells [.int .i64 cap, .int .i64 mark, .int .i64 rec, .int .i64 gone, s'] false 0)) := by
    rw [writeCells_of hr4 (by simp)]; simp [writeAt]
  have f5 : Fr H4 (H4.put H.next (.cells [.int .i64 cap, .int .i64 mark, .int .i64 rec, .int .i64 gone, s'] false 0)) [H.next] := Fr.put f4.wf (by rw [hr4]; simp) (by simp)
  have nn : H.next ∉ blk s' := fun hh => by have := n1 _ hh; omega
  obtain ⟨a5, c5, hs'⟩ := g4.form
  refine ⟨H4.put H.next (.cells [.int .i64 cap, .int .i64 mark, .int .i64 rec, .int .i64 gone, s'] false 0), H.next, s', ?_, ⟨rec, gone, ps, ⟨by simp, g4.frq f5 nn⟩, b, c, d, e, f, k⟩, (f23.step wf f4 (by simp [blk])).step wf f5 (by simp), Nat.le_refl _, fun x hx => by have := n1 x hx; omega⟩
  rw [exec_fn hT.copy]
  subst hs'
  simp (maxSteps := 1000000) [rl, st, rs, ea, storeK_ptr, hw, endOf, takeAll, results?, resOf, endVal]
end

structure LpT (T : Nat → Option AFun) : Prop extends LdT T where
  left : T k_ledger_Ledger_Left = some c_ledger_Ledger_Left
  marked : T k_ledger_Ledger_Marked = some c_ledger_Ledger_Marked
  copy : T k_ledger_Ledger_Copy = some c_ledger_Ledger_Copy
  clone : ∀ n args H, exec T (n + 1) (.fn k_maps_Clone_map_uint64_int_uint64_int) args H = cloneM args H

section
variable {l mb : Nat} {cap mark used res : Int} {kv : List (Int × Int)}
theorem lnew_bad (hT : LpT T) (hbad : cap < 2 ∨ 64 < cap ∨ mark < 1 ∨ cap < mark) : exec T (m + 1) (.fn k_ledger_New) [.int .i64 cap, .int .i64 mark] H = some (.tuple #[.pointer none, .int .i64 2], H) := by
  rw [exec_fn hT.new]
  by_cases h1 : cap < 2
  · simp [h1, endOf, takeAll, results?, resOf, endVal]
  by_cases h2 : 64 < cap
  · simp [h1, h2, endOf, takeAll, results?, resOf, endVal]
  by_cases h3 : mark < 1
  · simp [h1, h2, h3, endOf, takeAll, results?, resOf, endVal]
  have h4 : cap < mark := by omega
  simp [h1, h2, h3, h4, endOf, takeAll, results?, resOf, endVal]
theorem lnew_any (hT : LpT T) (wf : WF H) (h : 2 ≤ cap ∧ cap ≤ 64) (h' : 1 ≤ mark ∧ mark ≤ cap) :
    ∃ H', exec T (m + 1) (.fn k_ledger_New) [.int .i64 cap, .int .i64 mark] H = some (.tuple #[.pointer (some ⟨H.next + 1, 0, none⟩), .int .i64 0], H') ∧ Ld H' (H.next + 1) H.next cap mark 0 0 [] ∧ Fr H H' [] := by
  have h1 : ¬ cap < 2 := by omega
  have h2 : ¬ 64 < cap := by omega
  have h3 : ¬ mark < 1 := by omega
  have h4 : ¬ cap < mark := by omega
  have f1 := Fr.new (o := .map []) wf []
  have f2 := Fr.new (o := .cells [.int .i64 cap, .int .i64 mark, .int .i64 0, .int .i64 0, .map (some H.next)] false 0) f1.wf []
  refine ⟨(H.new (.map [])).new (.cells [.int .i64 cap, .int .i64 mark, .int .i64 0, .int .i64 0, .map (some H.next)] false 0), ?_, ⟨by simp, by simp [kvs]⟩, f1.step wf f2 (by simp)⟩
  rw [exec_fn hT.new]
  simp [h1, h2, h3, h4, writeAt, boxK_agg, endOf, takeAll, results?, resOf, endVal]
theorem lleft_ok (hT : LpT T) (h : Ld H l mb cap mark used res kv) :
    exec T (m + 1) (.fn k_ledger_Ledger_Left) [.pointer (some ⟨l, 0, none⟩), .int .u64 t] H = some (.tuple (match fidx t kv 0 with | some (_, b) => #[.int .i64 b, .bool true] | none => #[.int .i64 0, .bool false]), H) := by
  have rs : readCells H l 4 1 = some [.map (some mb)] := by rw [readCells_of h.at_ (by simp)]; rfl
  rw [exec_fn hT.left]
  cases hx : fidx t kv 0 with
  | none =>
    have el := lookupK_none (H := H) (k := .u64) (z := .int .i64 0) (ok := true) (t := t) h.mp (by rw [findKv_kvs, hx]; rfl)
    simp [rs, el, endOf, takeAll, results?, resOf, endVal]
  | some q =>
    obtain ⟨j, b⟩ := q
    have el := lookupK_some (H := H) (k := .u64) (z := .int .i64 0) (ok := true) (t := t) h.mp (by rw [findKv_kvs, hx]; rfl)
    simp [rs, el, endOf, takeAll, results?, resOf, endVal]
theorem lmarked_ok (hT : LpT T) (h : Ld H l mb cap mark used res kv) : exec T (m + 1) (.fn k_ledger_Ledger_Marked) [.pointer (some ⟨l, 0, none⟩)] H = some (.bool (decide (mark ≤ used)), H) := by
  rw [exec_fn hT.marked]
  simp [readCells_of h.at_, endOf, takeAll, results?, resOf, endVal]
theorem lcopy_ok (hT : LpT T) (h : Ld H l mb cap mark used res kv) (wf : WF H) :
    ∃ H' l' mb', exec T (m + 2) (.fn k_ledger_Ledger_Copy) [.pointer (some ⟨l, 0, none⟩)] H = some (.pointer (some ⟨l', 0, none⟩), H') ∧ Ld H' l' mb' cap mark used res kv ∧ Fr H H' [] ∧ H.next ≤ l' ∧ H.next ≤ mb' := by
  have rl : readCells H l 0 5 = some [.int .i64 cap, .int .i64 mark, .int .i64 used, .int .i64 res, .map (some mb)] := by rw [readCells_of h.at_ (by simp)]; rfl
  have st : storeK (H.new (.cells [.int .i64 0, .int .i64 0, .int .i64 0, .int .i64 0, .map none] false 0)) 5 (.agg ⟨[.int .i64 cap, .int .i64 mark, .int .i64 used, .int .i64 res, .map (some mb)]⟩) (.pointer (some ⟨H.next, 0, none⟩)) = some (undef, H.new (.cells [.int .i64 cap, .int .i64 mark, .int .i64 used, .int .i64 res, .map (some mb)] false 0)) := by
    rw [storeK_ptr (by simp) (by simp), writeCells_of (cs := [.int .i64 0, .int .i64 0, .int .i64 0, .int .i64 0, .map none]) (es := 0) (by simp) (by simp)]
    simp [writeAt, new_put]
  have f2 := Fr.new (o := .cells [.int .i64 cap, .int .i64 mark, .int .i64 used, .int .i64 res, .map (some mb)] false 0) wf []
  have rs : readCells (H.new (.cells [.int .i64 cap, .int .i64 mark, .int .i64 used, .int .i64 res, .map (some mb)] false 0)) l 4 1 = some [.map (some mb)] := by
    rw [readCells_of (f2.keep _ _ h.at_ (by simp)) (by simp)]; rfl
  have hm2 := f2.keep _ _ h.mp (by simp)
  have ec : cloneM [.map (some mb)] (H.new (.cells [.int .i64 cap, .int .i64 mark, .int .i64 used, .int .i64 res, .map (some mb)] false 0)) = some (.map (some (H.next + 1)), (H.new (.cells [.int .i64 cap, .int .i64 mark, .int .i64 used, .int .i64 res, .map (some mb)] false 0)).new (.map (kvs kv))) := by
    simp only [cloneM, hm2]; rfl
  have f3 := Fr.new (o := .map (kvs kv)) f2.wf []
  have hw : writeCells ((H.new (.cells [.int .i64 cap, .int .i64 mark, .int .i64 used, .int .i64 res, .map (some mb)] false 0)).new (.map (kvs kv))) H.next 4 [.map (some (H.next + 1))] = some (((H.new (.cells [.int .i64 cap, .int .i64 mark, .int .i64 used, .int .i64 res, .map (some mb)] false 0)).new (.map (kvs kv))).put H.next (.cells [.int .i64 cap, .int .i64 mark, .int .i64 used, .int .i64 res, .map (some (H.next + 1))] false 0)) := by
    rw [writeCells_of (cs := [.int .i64 cap, .int .i64 mark, .int .i64 used, .int .i64 res, .map (some mb)]) (es := 0) (by simp) (by simp)]; simp [writeAt]
  have f4 : Fr ((H.new (.cells [.int .i64 cap, .int .i64 mark, .int .i64 used, .int .i64 res, .map (some mb)] false 0)).new (.map (kvs kv))) (((H.new (.cells [.int .i64 cap, .int .i64 mark, .int .i64 used, .int .i64 res, .map (some mb)] false 0)).new (.map (kvs kv))).put H.next (.cells [.int .i64 cap, .int .i64 mark, .int .i64 used, .int .i64 res, .map (some (H.next + 1))] false 0)) [H.next] := Fr.put f3.wf (by simp) (by simp)
  refine ⟨_, H.next, H.next + 1, ?_, ⟨by simp, by simp⟩, (f2.step wf f3 (by simp)).step wf f4 (by simp), Nat.le_refl _, by omega⟩
  rw [exec_fn hT.copy]
  simp (maxSteps := 1000000) [rl, st, rs, hT.clone, ec, storeK_ptr, hw, endOf, takeAll, results?, resOf, endVal]
end
end Go.Proofs.Ytnkhlohphaomlaa
