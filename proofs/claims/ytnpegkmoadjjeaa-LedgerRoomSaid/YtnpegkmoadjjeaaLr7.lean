/- LedgerRoom: the kinds of steps. -/
import Derived.Test.YtnpegkmoadjjeaaLr6
namespace Go.Proofs.Ytnpegkmoadjjeaa
open Go
set_option linter.unusedVariables false
set_option linter.unusedSimpArgs false
variable {T : Nat → Option AFun} {H : Heap} {m : Nat}

theorem tot_set : ∀ {kv : List (Int × Int)} {i : Nat} {p q : Int × Int}, kv[i]? = some p → tot (kv.set i q) = tot kv - p.2 + q.2 := by
  intro kv
  induction kv with
  | nil => intro i p q h; simp at h
  | cons a kv ih =>
    intro i p q h
    cases i with
    | zero => simp at h; subst h; simp [tot]; omega
    | succ i =>
      have := ih (i := i) (q := q) (by simpa using h)
      simp only [tot, List.set_cons_succ, List.map_cons, List.sum_cons] at this ⊢
      omega
theorem tot_erase : ∀ {kv : List (Int × Int)} {i : Nat} {p : Int × Int}, kv[i]? = some p → tot (kv.eraseIdx i) = tot kv - p.2 := by
  intro kv
  induction kv with
  | nil => intro i p h; simp at h
  | cons a kv ih =>
    intro i p h
    cases i with
    | zero => simp at h; subst h; simp [tot]; omega
    | succ i =>
      have := ih (i := i) (by simpa using h)
      simp only [tot, List.eraseIdx_cons_succ, List.map_cons, List.sum_cons] at this ⊢
      omega
theorem map_set {α β : Type} (f : α → β) {l : List α} {i : Nat} {x : α} : (l.set i x).map f = (l.map f).set i (f x) := by simp
theorem set_same {α : Type} : ∀ {l : List α} {i : Nat} {x : α}, l[i]? = some x → l.set i x = l := by
  intro l
  induction l with
  | nil => intro i x h; simp at h
  | cons a l ih => intro i x h; cases i with
    | zero => simp at h; subst h; rfl
    | succ i => rw [List.set_cons_succ, ih (by simpa using h)]

/-- A cell of a slice is written. -/
theorem Sl.store {b n c i : Nat} {sp : Option Nat} {cs : List Value} {v : Value} (h : Sl H 1 (.slice (some ⟨b, 0, sp⟩) n c) n cs) (wf : WF H) (hi : i < n) :
    ∃ H', writeCells H b i [v] = some H' ∧ Sl H' 1 (.slice (some ⟨b, 0, sp⟩) n c) n (cs.set i v) ∧ Fr H H' [b] := by
  cases h with
  | @full _ _ _ _ _ rest hb hl hr =>
    have hlen : i + [v].length ≤ (cs ++ rest).length := by simp; omega
    refine ⟨_, writeCells_of hb hlen, ?_, Fr.put wf (by rw [hb]; simp) (by simp)⟩
    refine .full (rest := rest) ?_ (by simpa using hl) (by simpa using hr)
    rw [Heap.get_put, if_pos rfl, writeAt_eq _ _ _ hlen]
    congr 2
    rw [List.take_append_of_le_length (by omega), List.drop_append_of_le_length (by simp; omega), List.set_eq_take_append_cons_drop, if_pos (by omega)]
    simp

section
variable {H0 : Heap} {l mb : Nat} {c : Int} {v1 : Value} {i k : Nat} {kv : List (Int × Int)} {used : Int} {st sl : Value} {tm : Tr Value} {ds : List Nat} {box : Nat} {o : Op4} {nn : Nat} {rd : Option Nat}

theorem Room.ns (h : Room H0 l mb c v1 i k kv used st sl tm H) : l ∉ blk st ∧ l ∉ blk sl ∧ mb ∉ blk st ∧ mb ∉ blk sl :=
  ⟨h.sst.notin h.ld.at_ (by decide), h.ssl.notin h.ld.at_ (by decide), h.sst.not h.ld.mp (by intro xs ro e; cases e), h.ssl.not h.ld.mp (by intro xs ro e; cases e)⟩
theorem Room.sl2 {H' : Heap} (h : Room H0 l mb c v1 i k kv used st sl tm H) (f : Fr H H' [l, mb]) :
    Sl H' 1 st kv.length (iz .u64 (kv.map (·.1))) ∧ Sl H' 1 sl kv.length (iz .i64 (kv.map (·.2))) := by
  obtain ⟨n1, n2, n3, n4⟩ := h.ns
  constructor
  · exact h.sst.fr f (by intro b hb; simp only [List.mem_cons, List.not_mem_nil, or_false, not_or]; exact ⟨fun e => n1 (e ▸ hb), fun e => n3 (e ▸ hb)⟩)
  · exact h.ssl.fr f (by intro b hb; simp only [List.mem_cons, List.not_mem_nil, or_false, not_or]; exact ⟨fun e => n2 (e ▸ hb), fun e => n4 (e ▸ hb)⟩)
theorem Seen.fr {H' : Heap} {mark res u : Int} {kv' : List (Int × Int)} {cc : Int} (h : Seen box o kv tm H) (hl : Ld H l mb cc mark u res kv') (f : Fr H H' [l, mb]) : Seen box o kv tm H' := by
  refine ⟨f.keep _ _ h.hb ?_, h.r12, h.r13, h.r14⟩
  simp only [List.mem_cons, List.not_mem_nil, or_false, not_or]
  constructor
  · rintro rfl
    have e := hl.at_
    rw [h.hb] at e
    injection e with e
    injection e with e1
    simp [Op4.cells] at e1
  · rintro rfl
    have e := hl.mp
    rw [h.hb] at e
    cases e
theorem Seen.regs {tm' : Tr Value} (h : Seen box o kv tm H) (hk : Keeps 16 tm tm') : Seen box o kv tm' H := ⟨h.hb, hk.get h.r12, hk.get h.r13, hk.get h.r14⟩

/-- 'may' of Reserve. -/
theorem may1 (s : Seen box o kv tm H) {c used : Int} (r5 : tm.get 5 = some (.int .i64 c)) (r10 : tm.get 10 = some (.int .i64 used)) (hc : 2 ≤ c ∧ c ≤ 64) (hu : 0 ≤ used) (hp : 0 ≤ tot kv) (hle : used + tot kv ≤ c) :
    ∃ t', run (exec T m) nn rd c_wicketlaw12_LedgerRoom_S28 ⟨tm, H, ds⟩ = some (.normal, ⟨t', H, ds⟩) ∧ Keeps 17 tm t' ∧ t'.get 17 = some (.bool (decide (o.ticket ≠ 0 ∧ 1 ≤ o.n ∧ atOf o.ticket kv < 0 ∧ o.n ≤ c - used - tot kv))) := by
  have r12 := s.r12; have r13 := s.r13; have r14 := s.r14
  have q2 := s.tk; have q3 := s.num
  have w1 : IntKind.i64.wrap (c - used) = c - used := wrap_i64 (by omega) (by omega)
  have w2 : IntKind.i64.wrap (c - used - tot kv) = c - used - tot kv := wrap_i64 (by omega) (by omega)
  by_cases h1 : o.ticket = 0
  · simp (maxSteps := 1000000) (disch := first | omega | (simp; omega) | (simp; done) | fail) [c_wicketlaw12_LedgerRoom_S28, r5, r10, r12, r13, r14, q2, q3, w1, w2, h1]
  by_cases h2 : 1 ≤ o.n
  · by_cases h3 : atOf o.ticket kv < 0
    · by_cases h4 : o.n ≤ c - used - tot kv
      · simp (maxSteps := 1000000) (disch := first | omega | (simp; omega) | (simp; done) | fail) [c_wicketlaw12_LedgerRoom_S28, r5, r10, r12, r13, r14, q2, q3, w1, w2, h1, h2, h3, h4]
      · simp (maxSteps := 1000000) (disch := first | omega | (simp; omega) | (simp; done) | fail) [c_wicketlaw12_LedgerRoom_S28, r5, r10, r12, r13, r14, q2, q3, w1, w2, h1, h2, h3, h4]
    · simp (maxSteps := 1000000) (disch := first | omega | (simp; omega) | (simp; done) | fail) [c_wicketlaw12_LedgerRoom_S28, r5, r10, r12, r13, r14, q2, q3, w1, w2, h1, h2, h3]
  · simp (maxSteps := 1000000) (disch := first | omega | (simp; omega) | (simp; done) | fail) [c_wicketlaw12_LedgerRoom_S28, r5, r10, r12, r13, r14, q2, q3, w1, w2, h1, h2]
end
end Go.Proofs.Ytnpegkmoadjjeaa
