/- The disk's functions that SectorLoads comes to. -/
import Derived.Test.YtndpmlncjoglcaaSeCode
import Derived.Test.YtndpmlncjoglcaaSl
namespace Go.Proofs.Ytndpmlncjoglcaa
open Go
set_option linter.unusedVariables false
set_option linter.unusedSimpArgs false

variable {T : Nat → Option AFun} {H H' : Heap} {m n : Nat} {v s : Value} {L : List Int}

theorem readCells_fr {fp : List Nat} {b o k : Nat} {x : List Value} (f : Fr H H' fp) (hb : b ∉ fp) (h : readCells H b o k = some x) : readCells H' b o k = some x := by
  unfold readCells at h ⊢
  cases hg : H.get b with
  | none => rw [hg] at h; cases h
  | some ob => rw [hg] at h; rw [f.keep _ _ hg hb]; exact h
theorem Rd.fr {es : Nat} {cs : List Value} (h : Rd H es v n cs) (f : Fr H H' []) : Rd H' es v n cs := by
  refine ⟨h.form, fun i hi => ?_, ?_, h.len, h.cap⟩
  · obtain ⟨b, sp, c, e, hr⟩ := h.read i hi
    exact ⟨b, sp, c, e, fun o k hk => readCells_fr f (by simp) (hr o k hk)⟩
  · obtain ⟨b, c, e, hs⟩ := h.src
    refine ⟨b, c, e, ?_⟩
    cases b with
    | none => exact hs
    | some q => exact readCells_fr f (by simp) hs

theorem own_ok (hT : T k_wicketlaw04_own = some c_wicketlaw04_own) {cs : List Value} (h : Rd H 1 v n cs) (wf : WF H) (hbig : n ≤ 1000000) :
    ∃ s' H', exec T (m + 1) (.fn k_wicketlaw04_own) [v] H = some (s', H') ∧ Sl H' 1 s' n cs ∧ Fr H H' [] ∧ (∀ b ∈ blk s', H.next ≤ b) ∧ capOf s' ≤ n := by
  have f1 := Fr.new (o := .cells [] false 1) wf []
  have h0 : Sl (H.new (.cells [] false 1)) 1 (.slice (some ⟨H.next, 0, some 0⟩) 0 0) 0 [] := .full (rest := []) (by simp) rfl rfl
  obtain ⟨s', H', e, g1, g2, g3, g4⟩ := h0.appendR (h.fr f1) f1.wf (Nat.le_refl 1) (bytes := 1) (by omega)
  simp only [Nat.zero_add, List.nil_append] at g1 g4
  obtain ⟨a', c', rfl⟩ := g1.form
  refine ⟨_, H', ?_, g1, f1.step wf g2 (by simp [blk]), ?_, by simpa using g4⟩
  · rw [exec_fn hT]
    simp [endOf, takeAll, results?, resOf, endVal, e]
  · intro b hb
    rcases g3 b hb with h1 | h1
    · simp [blk] at h1; omega
    · simp at h1; omega

/-- A slice with two marks behind it. -/
structure Mk (H : Heap) (v : Value) (n : Nat) (cs : List Value) : Prop where
  ex : ∃ b sp c rest, v = .slice (some ⟨b, 0, sp⟩) n c ∧ H.get b = some (.cells (cs ++ (.int .u8 90 :: .int .u8 90 :: rest)) false 1) ∧ cs.length = n ∧ n + 2 + rest.length = c
theorem Mk.fr {cs : List Value} (h : Mk H v n cs) (f : Fr H H' []) : Mk H' v n cs := by
  obtain ⟨b, sp, c, rest, e, hb, hl, hc⟩ := h.ex
  exact ⟨b, sp, c, rest, e, f.keep _ _ hb (by simp), hl, hc⟩
theorem Mk.toRd {cs : List Value} (h : Mk H v n cs) : Rd H 1 v n cs := by
  obtain ⟨b, sp, c, rest, rfl, hb, hl, hc⟩ := h.ex
  refine ⟨⟨_, _, rfl⟩, fun i hi => ⟨b, sp, c, rfl, fun o k hk => ?_⟩, ⟨_, _, rfl, ?_⟩, by omega, fun _ => by simp; omega⟩
  · rw [readCells_of hb (by simp; omega), List.drop_append_of_le_length (by omega), List.take_append_of_le_length (by simp; omega)]
  · show readCells H b 0 (n * 1) = _
    rw [readCells_of hb (by simp; omega)]
    simp [← hl]

theorem marked_ok (hO : T k_wicketlaw04_own = some c_wicketlaw04_own) (hT : T k_wicketlaw04_marked = some c_wicketlaw04_marked) {cs : List Value} (h : Rd H 1 v n cs) (wf : WF H) (hbig : n ≤ 900000) :
    ∃ s' H', exec T (m + 2) (.fn k_wicketlaw04_marked) [v] H = some (s', H') ∧ Mk H' s' n cs ∧ Fr H H' [] := by
  obtain ⟨s1, H1, e1, g1, f1, b1, c1⟩ := own_ok (m := m) hO h wf (by omega)
  have f2 := Fr.new (o := .cells [.int .u8 90, .int .u8 90] false 1) f1.wf []
  have g2 := g1.fr f2 (by simp)
  have y2 : Sl (H1.new (.cells [.int .u8 90, .int .u8 90] false 1)) 1 (.slice (some ⟨H1.next, 0, some 0⟩) 2 2) 2 [.int .u8 90, .int .u8 90] := .full (rest := []) (by simp) rfl rfl
  obtain ⟨s3, H3, e3, g3, f3, b3, c3⟩ := g2.appendR y2.toRd f2.wf (Nat.le_refl 1) (bytes := 1) (by omega)
  obtain ⟨b, sp, c, rfl⟩ := g3.ne_nil (by omega)
  have hf := (f1.step wf f2 (by simp)).step wf f3 b1
  cases g3 with
  | @full _ _ _ _ _ rest hb hl hr =>
    obtain ⟨a0, c0, rfl⟩ := h.form
    refine ⟨.slice (some ⟨b, 0, sp⟩) n c, H3, ?_, ⟨b, sp, c, rest, rfl, by rw [List.append_assoc] at hb; exact hb, by simp at hl; omega, by simp at hl hr; omega⟩, hf⟩
    rw [exec_fn hT]
    simp (disch := first | omega | (simp; omega) | (simp; done) | fail) [e1, writeAt, e3, endOf, takeAll, results?, resOf, endVal, goInt, sliceK, natIn_of]

theorem u8s_iz : ∀ L : List Int, u8s (iz .u8 L) = some L := by
  intro L
  induction L with
  | nil => rfl
  | cons x L ih => simp only [iz_cons, u8s, ih]
theorem toStr_ok (h : Rd H 1 v n (iz .u8 L)) : toStrK H v = some (.string (strOfInts L), H) := by
  obtain ⟨b, c, rfl, hs⟩ := h.src
  cases b with
  | none =>
    simp only [srcCells, Option.some.injEq] at hs
    have : L = [] := by
      cases L with
      | nil => rfl
      | cons x L => simp at hs
    subst this; rfl
  | some q =>
    simp only [srcCells, Nat.mul_one] at hs
    simp only [toStrK, hs, Option.bind_some, u8s_iz, Option.map_some]

theorem held_ok (hT : T k_wicketlaw04_held = some c_wicketlaw04_held) {w : Value} (h : Mk H v n (iz .u8 L)) (hw : Rd H 1 w n (iz .u8 L)) (hbig : n ≤ 900000) :
    exec T (m + 1) (.fn k_wicketlaw04_held) [v, w] H = some (.bool true, H) := by
  have hr := h.toRd
  obtain ⟨b, sp, c, rest, rfl, hb, hl, hc⟩ := h.ex
  obtain ⟨a0, c0, rfl⟩ := hw.form
  have hstr1 : toStrK H (.slice (some ⟨b, 0, sp⟩) n c) = _ := toStr_ok hr
  have hstr2 := toStr_ok hw
  have hw1 : IntKind.i64.wrap ((n : Int) + 2) = (n + 2 : Nat) := by rw [wrap_i64 (by omega) (by omega)]; omega
  have hw2 : IntKind.i64.wrap ((n : Int) + 1) = (n + 1 : Nat) := by rw [wrap_i64 (by omega) (by omega)]; omega
  have q1 : readCells H b n 1 = some [.int .u8 90] := by
    rw [readCells_of hb (by simp at hl ⊢; omega)]
    simp at hl
    simp [← hl]
  have q2 : readCells H b (n + 1) 1 = some [.int .u8 90] := by
    rw [readCells_of hb (by simp at hl ⊢; omega)]
    simp at hl
    simp [← hl, List.drop_append, List.drop_eq_nil_of_le]
  rw [exec_fn hT]
  simp (maxSteps := 1000000) (disch := first | omega | (simp; omega) | (simp; done) | fail) [endOf, takeAll, results?, resOf, endVal, goInt, sliceK, natIn_of, hw1, hw2, hstr1, hstr2, idxK_of, q1, q2]

theorem len_ok (hT : T k_sector_Disk_Len = some c_sector_Disk_Len) {d : Nat} {a : Option Addr} {c : Nat} {x : Value} (hd : H.get d = some (.cells [.slice a n c, x] false 0)) :
    exec T (m + 1) (.fn k_sector_Disk_Len) [.pointer (some ⟨d, 0, none⟩)] H = some (.int .i64 n, H) := by
  rw [exec_fn hT]
  simp [readCells_of hd, endOf, takeAll, results?, resOf, endVal, goInt]

theorem waiting_ok (hT : T k_sector_Disk_Waiting = some c_sector_Disk_Waiting) {d : Nat} {x : Value} (hd : H.get d = some (.cells [x, .slice none 0 0] false 0)) :
    exec T (m + 2) (.fn k_sector_Disk_Waiting) [.pointer (some ⟨d, 0, none⟩)] H = some (.slice none 0 0, H) := by
  rw [exec_fn hT]
  simp [readCells_of hd, endOf, takeAll, results?, resOf, endVal, goInt, run_loop, loopN_succ, c_sector_Disk_Waiting_L0]
end Go.Proofs.Ytndpmlncjoglcaa
