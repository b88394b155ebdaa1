import Derived.Test.YtnkhlohphaomlaaPL
namespace Go.Proofs.Ytnkhlohphaomlaa
open Go
set_option linter.unusedVariables false
set_option linter.unusedSimpArgs false
variable {T : Nat → Option AFun} {H : Heap} {m : Nat} {l mb : Nat} {cap mark used res : Int} {kv : List (Int × Int)} {t n : Int}

theorem Ld.fr {H' : Heap} {fp : List Nat} (h : Ld H l mb cap mark used res kv) (f : Fr H H' fp) (h1 : l ∉ fp) (h2 : mb ∉ fp) : Ld H' l mb cap mark used res kv := ⟨f.keep _ _ h.at_ h1, f.keep _ _ h.mp h2⟩

theorem lreserve_bad (hT : LdT T) (h : Ld H l mb cap mark used res kv) (hc : 0 ≤ cap ∧ cap ≤ 64) (hu : 0 ≤ used ∧ used ≤ 64) (hr : 0 ≤ res ∧ res ≤ 64) (hbad : t = 0 ∨ n < 1 ∨ (fidx t kv 0).isSome = true ∨ cap - used - res < n) :
    exec T (m + 2) (.fn k_ledger_Ledger_Reserve) [.pointer (some ⟨l, 0, none⟩), .int .u64 t, .int .i64 n] H = some (.int .i64 (if t = 0 ∨ n < 1 then 2 else if (fidx t kv 0).isSome = true then 110 else 120), H) := by
  rw [exec_fn hT.reserve]
  by_cases h1 : t = 0
  · simp [h1, endOf, takeAll, results?, resOf, endVal]
  by_cases h2 : n < 1
  · simp [h1, h2, endOf, takeAll, results?, resOf, endVal]
  have hh := lhas_ok (m := m) (t := t) hT h
  have hf := lfits_ok (m := m) (n := n) hT h hc hu hr
  cases hx : (fidx t kv 0).isSome with
  | true => rw [hx] at hh; simp [h1, h2, hh, endOf, takeAll, results?, resOf, endVal]
  | false =>
    rw [hx] at hh
    rw [hx] at hbad
    have hb' : cap - used - res < n := by
      rcases hbad with h' | h' | h' | h'
      · exact absurd h' h1
      · exact absurd h' h2
      · cases h'
      · exact h'
    have e2 : decide (1 ≤ n ∧ n ≤ cap - used - res) = false := by rw [decide_eq_false_iff_not]; omega
    rw [e2] at hf
    simp [h1, h2, hh, hf, endOf, takeAll, results?, resOf, endVal]

theorem lreserve_ok (hT : LdT T) (h : Ld H l mb cap mark used res kv) (wf : WF H) (hc : 0 ≤ cap ∧ cap ≤ 64) (hu : 0 ≤ used ∧ used ≤ 64) (hr : 0 ≤ res ∧ res ≤ 64) (h1 : t ≠ 0) (h2 : 1 ≤ n) (h3 : fidx t kv 0 = none) (h4 : n ≤ cap - used - res) :
    ∃ H', exec T (m + 2) (.fn k_ledger_Ledger_Reserve) [.pointer (some ⟨l, 0, none⟩), .int .u64 t, .int .i64 n] H = some (.int .i64 0, H') ∧ Ld H' l mb cap mark used (res + n) (kv ++ [(t, n)]) ∧ Fr H H' [l, mb] := by
  have hh := lhas_ok (m := m) (t := t) hT h
  have hf := lfits_ok (m := m) (n := n) hT h hc hu hr
  have e2 : decide (1 ≤ n ∧ n ≤ cap - used - res) = true := by rw [decide_eq_true_eq]; omega
  rw [e2] at hf
  rw [h3] at hh
  have e1 : ¬ n < 1 := by omega
  have w1 : IntKind.i64.wrap (res + n) = res + n := wrap_i64 (by omega) (by omega)
  have hne := h.ne
  have em := mapUpdateK_none (H := H) (k := .u64) (t := t) (v := .int .i64 n) h.mp (by rw [findKv_kvs, h3]; rfl) rfl
  have f1 := Fr.put (r := mb) (o := .map (kvs kv ++ [(.int .u64 t, .int .i64 n)])) (fp := [mb]) wf (by rw [h.mp]; simp) (by simp)
  have q1 := f1.keep _ _ h.at_ (by simpa using hne)
  have f2 := Fr.put (r := l) (o := .cells [.int .i64 cap, .int .i64 mark, .int .i64 used, .int .i64 (res + n), .map (some mb)] false 0) (fp := [l]) f1.wf (by rw [q1]; simp) (by simp)
  refine ⟨(H.put mb (.map (kvs kv ++ [(.int .u64 t, .int .i64 n)]))).put l (.cells [.int .i64 cap, .int .i64 mark, .int .i64 used, .int .i64 (res + n), .map (some mb)] false 0), ?_, ⟨by simp, f2.keep _ _ (by simp [kvs]) (by simpa using hne.symm)⟩, f1.trans wf f2 (by simp) (by simp)⟩
  rw [exec_fn hT.reserve]
  simp [h1, e1, hh, hf, readCells_of h.at_, em, readCells_of q1, w1, storeK_ptr, writeCells_of q1, writeAt, endOf, takeAll, results?, resOf, endVal]

theorem lappend_none (hT : LdT T) (h : Ld H l mb cap mark used res kv) (h3 : fidx t kv 0 = none) :
    exec T (m + 2) (.fn k_ledger_Ledger_Append) [.pointer (some ⟨l, 0, none⟩), .int .u64 t] H = some (.int .i64 110, H) := by
  have hh := lhas_ok (m := m) (t := t) hT h
  rw [exec_fn hT.append]
  rw [h3] at hh
  simp [hh, endOf, takeAll, results?, resOf, endVal]
theorem lappend_full (hT : LdT T) (h : Ld H l mb cap mark used res kv) {i : Nat} (h3 : fidx t kv 0 = some (i, 0)) :
    exec T (m + 2) (.fn k_ledger_Ledger_Append) [.pointer (some ⟨l, 0, none⟩), .int .u64 t] H = some (.int .i64 120, H) := by
  have hh := lhas_ok (m := m) (t := t) hT h
  rw [exec_fn hT.append]
  rw [h3] at hh
  have el := lookupK_some (H := H) (k := .u64) (z := .int .i64 0) (ok := false) (t := t) h.mp (by rw [findKv_kvs, h3]; rfl)
  simp [hh, readCells_of h.at_, el, endOf, takeAll, results?, resOf, endVal]

theorem lappend_ok (hT : LdT T) (h : Ld H l mb cap mark used res kv) (wf : WF H) (hu : 0 ≤ used ∧ used ≤ 64) (hr : 0 ≤ res ∧ res ≤ 64) {i : Nat} {b : Int} (h3 : fidx t kv 0 = some (i, b)) (hb : 0 < b) (hb2 : b ≤ 64) :
    ∃ H', exec T (m + 2) (.fn k_ledger_Ledger_Append) [.pointer (some ⟨l, 0, none⟩), .int .u64 t] H = some (.int .i64 0, H') ∧ Ld H' l mb cap mark (used + 1) (res - 1) (kv.set i (t, b - 1)) ∧ Fr H H' [l, mb] := by
  have hh := lhas_ok (m := m) (t := t) hT h
  rw [h3] at hh
  have w1 : IntKind.i64.wrap (res - 1) = res - 1 := wrap_i64 (by omega) (by omega)
  have w2 : IntKind.i64.wrap (used + 1) = used + 1 := wrap_i64 (by omega) (by omega)
  have w3 : IntKind.i64.wrap (b - 1) = b - 1 := wrap_i64 (by omega) (by omega)
  have hb0 : ¬ b = 0 := by omega
  have hne := h.ne
  have el := lookupK_some (H := H) (k := .u64) (z := .int .i64 0) (ok := false) (t := t) h.mp (by rw [findKv_kvs, h3]; rfl)
  have em := mapUpdateK_some (H := H) (k := .u64) (t := t) (v := .int .i64 (b - 1)) h.mp (by rw [findKv_kvs, h3]; rfl) rfl
  have f1 := Fr.put (r := mb) (o := .map ((kvs kv).set i (.int .u64 t, .int .i64 (b - 1)))) (fp := [mb]) wf (by rw [h.mp]; simp) (by simp)
  have q1 := f1.keep _ _ h.at_ (by simpa using hne)
  have f2 := Fr.put (r := l) (o := .cells [.int .i64 cap, .int .i64 mark, .int .i64 used, .int .i64 (res - 1), .map (some mb)] false 0) (fp := [l]) f1.wf (by rw [q1]; simp) (by simp)
  have q2 : ((H.put mb (.map ((kvs kv).set i (.int .u64 t, .int .i64 (b - 1))))).put l (.cells [.int .i64 cap, .int .i64 mark, .int .i64 used, .int .i64 (res - 1), .map (some mb)] false 0)).get l = some (.cells [.int .i64 cap, .int .i64 mark, .int .i64 used, .int .i64 (res - 1), .map (some mb)] false 0) := by simp
  have f3 := Fr.put (r := l) (o := .cells [.int .i64 cap, .int .i64 mark, .int .i64 (used + 1), .int .i64 (res - 1), .map (some mb)] false 0) (fp := [l]) f2.wf (by rw [q2]; simp) (by simp)
  refine ⟨_, ?_, ⟨?_, f3.keep _ _ (f2.keep _ _ (by simp [kvs, List.map_set]) (by simpa using hne.symm)) (by simpa using hne.symm)⟩, (f1.trans wf f2 (c := [l, mb]) (by simp) (by simp)).trans wf f3 (by simp) (by simp)⟩
  · rw [exec_fn hT.append]
    simp [hh, readCells_of h.at_, el, hb0, w3, em, readCells_of q1, w1, storeK_ptr, writeCells_of q1, writeAt, readCells_of q2, w2, writeCells_put, endOf, takeAll, results?, resOf, endVal]
  · simp

theorem map_eraseIdx {α β : Type} (f : α → β) : ∀ (l : List α) (i : Nat), (l.map f).eraseIdx i = (l.eraseIdx i).map f := by
  intro l
  induction l with
  | nil => intro i; rfl
  | cons x l ih => intro i; cases i with
    | zero => rfl
    | succ i => simp [ih]
theorem lclose_bad (hT : LdT T) (h : Ld H l mb cap mark used res kv) (h3 : fidx t kv 0 = none) :
    exec T (m + 2) (.fn k_ledger_Ledger_Close) [.pointer (some ⟨l, 0, none⟩), .int .u64 t] H = some (.int .i64 110, H) := by
  have hh := lhas_ok (m := m) (t := t) hT h
  rw [h3] at hh
  rw [exec_fn hT.close]
  simp [hh, endOf, takeAll, results?, resOf, endVal]

theorem lclose_ok (hT : LdT T) (h : Ld H l mb cap mark used res kv) (wf : WF H) (hr : 0 ≤ res ∧ res ≤ 64) {i : Nat} {b : Int} (h3 : fidx t kv 0 = some (i, b)) (hb : 0 ≤ b) (hb2 : b ≤ 64) :
    ∃ H', exec T (m + 2) (.fn k_ledger_Ledger_Close) [.pointer (some ⟨l, 0, none⟩), .int .u64 t] H = some (.int .i64 0, H') ∧ Ld H' l mb cap mark used (res - b) (kv.eraseIdx i) ∧ Fr H H' [l, mb] := by
  have hh := lhas_ok (m := m) (t := t) hT h
  rw [h3] at hh
  have w1 : IntKind.i64.wrap (res - b) = res - b := wrap_i64 (by omega) (by omega)
  have hne := h.ne
  have el := lookupK_some (H := H) (k := .u64) (z := .int .i64 0) (ok := false) (t := t) h.mp (by rw [findKv_kvs, h3]; rfl)
  have f1 := Fr.put (r := l) (o := .cells [.int .i64 cap, .int .i64 mark, .int .i64 used, .int .i64 (res - b), .map (some mb)] false 0) (fp := [l]) wf (by rw [h.at_]; simp) (by simp)
  have q1 := f1.keep _ _ h.mp (by simpa using hne.symm)
  have q2 : (H.put l (.cells [.int .i64 cap, .int .i64 mark, .int .i64 used, .int .i64 (res - b), .map (some mb)] false 0)).get l = some (.cells [.int .i64 cap, .int .i64 mark, .int .i64 used, .int .i64 (res - b), .map (some mb)] false 0) := by simp
  have ed := deleteK_some (H := H.put l (.cells [.int .i64 cap, .int .i64 mark, .int .i64 used, .int .i64 (res - b), .map (some mb)] false 0)) (k := .u64) (t := t) q1 (by rw [findKv_kvs, h3]; rfl)
  have f2 := Fr.put (r := mb) (o := .map ((kvs kv).eraseIdx i)) (fp := [mb]) f1.wf (by rw [q1]; simp) (by simp)
  refine ⟨_, ?_, ⟨f2.keep _ _ q2 (by simpa using hne), ?_⟩, f1.trans wf f2 (by simp) (by simp)⟩
  · rw [exec_fn hT.close]
    simp (maxSteps := 1000000) [hh, readCells_of h.at_, el, w1, storeK_ptr, writeCells_of h.at_, writeAt, readCells_of q2, ed, endOf, takeAll, results?, resOf, endVal]
  · simp [kvs, map_eraseIdx]

theorem lfree_bad (hT : LdT T) (h : Ld H l mb cap mark used res kv) (hbad : n < 0 ∨ used < n) :
    exec T (m + 1) (.fn k_ledger_Ledger_Free) [.pointer (some ⟨l, 0, none⟩), .int .i64 n] H = some (.int .i64 2, H) := by
  rw [exec_fn hT.free]
  by_cases h1 : n < 0
  · simp [h1, endOf, takeAll, results?, resOf, endVal]
  · have h2 : used < n := by omega
    simp [h1, h2, readCells_of h.at_, endOf, takeAll, results?, resOf, endVal]

theorem lfree_ok (hT : LdT T) (h : Ld H l mb cap mark used res kv) (wf : WF H) (hu : 0 ≤ used ∧ used ≤ 64) (h1 : 0 ≤ n) (h2 : n ≤ used) :
    ∃ H', exec T (m + 1) (.fn k_ledger_Ledger_Free) [.pointer (some ⟨l, 0, none⟩), .int .i64 n] H = some (.int .i64 0, H') ∧ Ld H' l mb cap mark (used - n) res kv ∧ Fr H H' [l, mb] := by
  have e1 : ¬ n < 0 := by omega
  have e2 : ¬ used < n := by omega
  have w1 : IntKind.i64.wrap (used - n) = used - n := wrap_i64 (by omega) (by omega)
  have hne := h.ne
  have f1 := Fr.put (r := l) (o := .cells [.int .i64 cap, .int .i64 mark, .int .i64 (used - n), .int .i64 res, .map (some mb)] false 0) (fp := [l, mb]) wf (by rw [h.at_]; simp) (by simp)
  refine ⟨_, ?_, ⟨by simp, (Fr.put (r := l) (o := .cells [.int .i64 cap, .int .i64 mark, .int .i64 (used - n), .int .i64 res, .map (some mb)] false 0) (fp := [l]) wf (by rw [h.at_]; simp) (by simp)).keep _ _ h.mp (by simpa using hne.symm)⟩, f1⟩
  rw [exec_fn hT.free]
  simp [e1, e2, readCells_of h.at_, w1, storeK_ptr, writeCells_of h.at_, writeAt, endOf, takeAll, results?, resOf, endVal]
end Go.Proofs.Ytnkhlohphaomlaa
