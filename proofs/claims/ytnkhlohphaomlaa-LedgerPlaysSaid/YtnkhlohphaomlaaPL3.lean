/- LedgerRoom: the loop over the tickets. -/
import Derived.Test.YtnkhlohphaomlaaPL2
import Derived.Test.YtnkhlohphaomlaaLp
import Derived.Test.YtnkhlohphaomlaaDr
namespace Go.Proofs.Ytnkhlohphaomlaa
open Go
set_option linter.unusedVariables false
set_option linter.unusedSimpArgs false
variable {T : Nat → Option AFun} {H : Heap} {m : Nat} {kv : List (Int × Int)} {t : Int}

def tot (kv : List (Int × Int)) : Int := (kv.map (·.2)).sum
@[simp] theorem tot_nil : tot [] = 0 := rfl
theorem tot_append {A B : List (Int × Int)} : tot (A ++ B) = tot A + tot B := by simp [tot, List.sum_append]
@[simp] theorem tot_cons {p : Int × Int} {A : List (Int × Int)} : tot (p :: A) = p.2 + tot A := by simp [tot]
theorem tot_nonneg : ∀ {kv : List (Int × Int)}, (∀ p ∈ kv, 0 ≤ p.2) → 0 ≤ tot kv := by
  intro kv
  induction kv with
  | nil => intro _; simp
  | cons p kv ih =>
    intro h
    have h1 := h p (List.mem_cons_self ..)
    have h2 := ih fun q hq => h q (List.mem_cons_of_mem _ hq)
    simp; omega
theorem le_tot : ∀ {kv : List (Int × Int)}, (∀ p ∈ kv, 0 ≤ p.2) → ∀ p ∈ kv, p.2 ≤ tot kv := by
  intro kv
  induction kv with
  | nil => intro _ p hp; cases hp
  | cons q kv ih =>
    intro h p hp
    have h1 := h q (List.mem_cons_self ..)
    have h2 := tot_nonneg (kv := kv) fun r hr => h r (List.mem_cons_of_mem _ hr)
    rcases List.mem_cons.1 hp with rfl | h3
    · simp; omega
    · have := ih (fun r hr => h r (List.mem_cons_of_mem _ hr)) p h3
      simp; omega

theorem fidx_none : ∀ {kv : List (Int × Int)} {i : Nat}, fidx t kv i = none ↔ ∀ p ∈ kv, p.1 ≠ t := by
  intro kv
  induction kv with
  | nil => intro i; simp [fidx]
  | cons p kv ih =>
    obtain ⟨a, b⟩ := p
    intro i
    by_cases h : a = t
    · simp [fidx, h]
    · simp [fidx, h, ih]
theorem fidx_at : ∀ {kv : List (Int × Int)} {i : Nat} {j : Nat} {b : Int}, fidx t kv i = some (j, b) → i ≤ j ∧ kv[j - i]? = some (t, b) := by
  intro kv
  induction kv with
  | nil => intro i j b h; cases h
  | cons p kv ih =>
    obtain ⟨a, b'⟩ := p
    intro i j b h
    by_cases h1 : a = t
    · simp only [fidx, h1, if_true, Option.some.injEq, Prod.mk.injEq] at h
      obtain ⟨rfl, rfl⟩ := h
      simp [h1]
    · simp only [fidx, h1, if_false] at h
      obtain ⟨g1, g2⟩ := ih h
      refine ⟨by omega, ?_⟩
      rw [show j - i = (j - (i + 1)) + 1 by omega, List.getElem?_cons_succ]; exact g2
theorem fidx_append : ∀ {kv : List (Int × Int)} {i : Nat} {p : Int × Int}, fidx t (kv ++ [p]) i = (match fidx t kv i with | some x => some x | none => if p.1 = t then some (i + kv.length, p.2) else none) := by
  intro kv
  induction kv with
  | nil => intro i p; obtain ⟨a, b⟩ := p; simp [fidx]
  | cons q kv ih =>
    obtain ⟨a, b⟩ := q
    intro i p
    by_cases h : a = t
    · simp [fidx, h]
    · simp only [List.cons_append, fidx, h, if_false, ih, List.length_cons]
      rw [show i + 1 + kv.length = i + (kv.length + 1) by omega]

/-- Where a ticket stands; -1: nowhere. -/
def atOf (t : Int) (kv : List (Int × Int)) : Int := match fidx t kv 0 with
  | some (i, _) => i
  | none => -1

theorem atOf_step {j : Nat} {p : Int × Int} (hn : (kv.map (·.1)).Nodup) (hp : kv[j]? = some p) : atOf t (kv.take (j + 1)) = if p.1 = t then (j : Int) else atOf t (kv.take j) := by
  have hlt : j < kv.length := (List.getElem?_eq_some_iff.1 hp).1
  rw [List.take_add_one, hp]
  simp only [Option.toList_some, atOf, fidx_append]
  by_cases h : p.1 = t
  · have hnone : fidx t (kv.take j) 0 = none := by
      rw [fidx_none]
      intro q hq heq
      obtain ⟨a, ha⟩ := List.getElem?_of_mem hq
      rw [List.getElem?_take] at ha
      split at ha
      · rename_i haj
        have h1 : (kv.map (·.1))[a]? = some t := by rw [List.getElem?_map, ha]; simp [heq]
        have h2 : (kv.map (·.1))[j]? = some t := by rw [List.getElem?_map, hp]; simp [h]
        have g1 := (List.getElem?_eq_some_iff.1 h1)
        have g2 := (List.getElem?_eq_some_iff.1 h2)
        exact (List.pairwise_iff_getElem.1 hn) a j g1.1 g2.1 haj (g1.2.trans g2.2.symm)
      · cases ha
    rw [hnone]
    simp only [h, if_true, List.length_take]
    congr 1; omega
  · simp only [h, if_false]
    cases fidx t (kv.take j) 0 with
    | none => rfl
    | some x => rfl

theorem tot_set : ∀ {kv : List (Int × Int)} {i : Nat} {p q : Int × Int}, kv[i]? = some p → tot (kv.set i q) = tot kv - p.2 + q.2 := by
  intro kv
  induction kv with
  | nil => intro i p q h; simp at h
  | cons a kv ih =>
    intro i p q h
    cases i with
    | zero => simp at h; subst h; simp [tot]; omega
    | succ i =>
      have := ih (i := i) (q := q) (by simpa using h)
      simp only [tot, List.set_cons_succ, List.map_cons, List.sum_cons] at this ⊢
      omega
theorem tot_erase : ∀ {kv : List (Int × Int)} {i : Nat} {p : Int × Int}, kv[i]? = some p → tot (kv.eraseIdx i) = tot kv - p.2 := by
  intro kv
  induction kv with
  | nil => intro i p h; simp at h
  | cons a kv ih =>
    intro i p h
    cases i with
    | zero => simp at h; subst h; simp [tot]; omega
    | succ i =>
      have := ih (i := i) (by simpa using h)
      simp only [tot, List.eraseIdx_cons_succ, List.map_cons, List.sum_cons] at this ⊢
      omega
theorem map_set {α β : Type} (f : α → β) {l : List α} {i : Nat} {x : α} : (l.set i x).map f = (l.map f).set i (f x) := by simp

/-- What a ledger is. -/
structure Gs where
  used : Int
  kv : List (Int × Int)
def gRes (cap t n : Int) (g : Gs) : Int × Gs := if t = 0 ∨ n < 1 then (2, g) else if (fidx t g.kv 0).isSome = true then (110, g) else if cap - g.used - tot g.kv < n then (120, g) else (0, ⟨g.used, g.kv ++ [(t, n)]⟩)
def gApp (t : Int) (g : Gs) : Int × Gs := match fidx t g.kv 0 with
  | none => (110, g)
  | some (i, b) => if b = 0 then (120, g) else (0, ⟨g.used + 1, g.kv.set i (t, b - 1)⟩)
def gClo (t : Int) (g : Gs) : Int × Gs := match fidx t g.kv 0 with
  | none => (110, g)
  | some (i, _) => (0, ⟨g.used, g.kv.eraseIdx i⟩)
def gFre (n : Int) (g : Gs) : Int × Gs := if n < 0 ∨ g.used < n then (2, g) else (0, ⟨g.used - n, g.kv⟩)

structure Gd (cap : Int) (g : Gs) : Prop where
  hc : 2 ≤ cap ∧ cap ≤ 64
  nodup : (g.kv.map (·.1)).Nodup
  nn : ∀ p ∈ g.kv, 0 ≤ p.2
  hu : 0 ≤ g.used
  hle : g.used + tot g.kv ≤ cap

theorem fidx_mem {kv : List (Int × Int)} {t b : Int} {j : Nat} (h : fidx t kv 0 = some (j, b)) : kv[j]? = some (t, b) := by
  have := (fidx_at h).2; simpa using this

theorem Gd.res {cap t n : Int} {g : Gs} (h : Gd cap g) : Gd cap (gRes cap t n g).2 := by
  unfold gRes
  split
  · exact h
  split
  · exact h
  split
  · exact h
  rename_i h1 h2 h3
  have hf : fidx t g.kv 0 = none := by
    cases hx : fidx t g.kv 0 with
    | none => rfl
    | some p => rw [hx] at h2; exact absurd rfl h2
  have et : tot (g.kv ++ [(t, n)]) = tot g.kv + n := by simp [tot_append]
  refine ⟨h.hc, ?_, fun p hp => ?_, h.hu, ?_⟩
  · rw [List.map_append, List.map_cons, List.map_nil]
    have := fidx_none.1 hf
    refine List.nodup_append.2 ⟨h.nodup, by simp, ?_⟩
    intro a ha b hb
    simp only [List.mem_singleton] at hb
    obtain ⟨p, hp, rfl⟩ := List.mem_map.1 ha
    rw [hb]; exact this p hp
  · rcases List.mem_append.1 hp with h5 | h5
    · exact h.nn p h5
    · simp only [List.mem_singleton] at h5; subst h5; show 0 ≤ n; omega
  · show g.used + tot (g.kv ++ [(t, n)]) ≤ cap
    rw [et]; omega
theorem Gd.app {cap t : Int} {g : Gs} (h : Gd cap g) : Gd cap (gApp t g).2 := by
  unfold gApp
  split
  · exact h
  rename_i i b hx
  split
  · exact h
  rename_i hb
  have hj := fidx_mem hx
  have hb0 := h.nn _ (List.mem_of_getElem? hj)
  simp only at hb0
  have hle := h.hle
  have hu := h.hu
  have et : tot (g.kv.set i (t, b - 1)) = tot g.kv - 1 := by rw [tot_set hj]; simp; omega
  have e1 : (g.kv.set i (t, b - 1)).map (·.1) = g.kv.map (·.1) := by rw [map_set]; exact set_at_same (by simp [hj])
  refine ⟨h.hc, by rw [e1]; exact h.nodup, fun p hp => ?_, by show 0 ≤ g.used + 1; omega, ?_⟩
  · rcases List.mem_or_eq_of_mem_set hp with h5 | h5
    · exact h.nn p h5
    · rw [h5]; show 0 ≤ b - 1; omega
  · show g.used + 1 + tot (g.kv.set i (t, b - 1)) ≤ cap
    rw [et]; omega
theorem Gd.clo {cap t : Int} {g : Gs} (h : Gd cap g) : Gd cap (gClo t g).2 := by
  unfold gClo
  split
  · exact h
  rename_i i b hx
  have hj := fidx_mem hx
  have hb0 := h.nn _ (List.mem_of_getElem? hj)
  simp only at hb0
  have hle := h.hle
  have et : tot (g.kv.eraseIdx i) = tot g.kv - b := tot_erase hj
  refine ⟨h.hc, by rw [← map_eraseIdx]; exact h.nodup.sublist (List.eraseIdx_sublist _ _), fun p hp => h.nn p (List.mem_of_mem_eraseIdx hp), h.hu, ?_⟩
  show g.used + tot (g.kv.eraseIdx i) ≤ cap
  rw [et]; omega
theorem Gd.fre {cap n : Int} {g : Gs} (h : Gd cap g) : Gd cap (gFre n g).2 := by
  unfold gFre
  split
  · exact h
  rename_i h1
  have hle := h.hle
  have hu := h.hu
  exact ⟨h.hc, h.nodup, h.nn, by show 0 ≤ g.used - n; omega, by show g.used - n + tot g.kv ≤ cap; omega⟩

section
variable {l mb : Nat} {cap mark n : Int} {g : Gs}
theorem lres (hT : LdT T) (h : Ld H l mb cap mark g.used (tot g.kv) g.kv) (hg : Gd cap g) (wf : WF H) :
    ∃ H', exec T (m + 2) (.fn k_ledger_Ledger_Reserve) [.pointer (some ⟨l, 0, none⟩), .int .u64 t, .int .i64 n] H = some (.int .i64 (gRes cap t n g).1, H') ∧ Ld H' l mb cap mark (gRes cap t n g).2.used (tot (gRes cap t n g).2.kv) (gRes cap t n g).2.kv ∧ Fr H H' [l, mb] := by
  have hc := hg.hc; have hu := hg.hu; have hle := hg.hle
  have hp := tot_nonneg hg.nn
  by_cases hbad : t = 0 ∨ n < 1 ∨ (fidx t g.kv 0).isSome = true ∨ cap - g.used - tot g.kv < n
  · have e := lreserve_bad (m := m) hT h (by omega) (by omega) (by omega) hbad
    refine ⟨H, ?_, ?_, Fr.refl wf _⟩
    · rw [e]; unfold gRes
      by_cases h1 : t = 0 ∨ n < 1
      · simp [h1]
      · by_cases h2 : (fidx t g.kv 0).isSome = true
        · simp [h1, h2]
        · have h3 : cap - g.used - tot g.kv < n := by
            rcases hbad with h' | h' | h' | h'
            · exact absurd (.inl h') h1
            · exact absurd (.inr h') h1
            · exact absurd h' h2
            · exact h'
          simp [h1, h2, h3]
    · have : (gRes cap t n g).2 = g := by
        unfold gRes
        by_cases h1 : t = 0 ∨ n < 1
        · simp [h1]
        · by_cases h2 : (fidx t g.kv 0).isSome = true
          · simp [h1, h2]
          · have h3 : cap - g.used - tot g.kv < n := by
              rcases hbad with h' | h' | h' | h'
              · exact absurd (.inl h') h1
              · exact absurd (.inr h') h1
              · exact absurd h' h2
              · exact h'
            simp [h1, h2, h3]
      rw [this]; exact h
  · have hf : fidx t g.kv 0 = none := by
      cases hx : fidx t g.kv 0 with
      | none => rfl
      | some p => rw [hx] at hbad; simp at hbad
    simp only [not_or] at hbad
    obtain ⟨h1, h2, h3, h4⟩ := hbad
    have er : gRes cap t n g = (0, ⟨g.used, g.kv ++ [(t, n)]⟩) := by
      unfold gRes; rw [if_neg (by omega), if_neg h3, if_neg h4]
    obtain ⟨H', e, l1, f⟩ := lreserve_ok (m := m) (t := t) (n := n) hT h wf (by omega) (by omega) (by omega) h1 (by omega) hf (by omega)
    rw [er]
    refine ⟨H', e, ?_, f⟩
    have et : tot (g.kv ++ [(t, n)]) = tot g.kv + n := by simp [tot_append]
    simp only [et]; exact l1
theorem lapp (hT : LdT T) (h : Ld H l mb cap mark g.used (tot g.kv) g.kv) (hg : Gd cap g) (wf : WF H) :
    ∃ H', exec T (m + 2) (.fn k_ledger_Ledger_Append) [.pointer (some ⟨l, 0, none⟩), .int .u64 t] H = some (.int .i64 (gApp t g).1, H') ∧ Ld H' l mb cap mark (gApp t g).2.used (tot (gApp t g).2.kv) (gApp t g).2.kv ∧ Fr H H' [l, mb] := by
  have hc := hg.hc; have hu := hg.hu; have hle := hg.hle
  have hp := tot_nonneg hg.nn
  unfold gApp
  cases hx : fidx t g.kv 0 with
  | none => exact ⟨H, lappend_none hT h hx, h, Fr.refl wf _⟩
  | some p =>
    obtain ⟨i, b⟩ := p
    by_cases hb : b = 0
    · subst hb; exact ⟨H, lappend_full hT h hx, h, Fr.refl wf _⟩
    · have hj := fidx_mem hx
      have hb0 := hg.nn _ (List.mem_of_getElem? hj)
      have hbt := le_tot hg.nn _ (List.mem_of_getElem? hj)
      simp only at hb0 hbt
      obtain ⟨H', e, l1, f⟩ := lappend_ok (m := m) hT h wf (by omega) (by omega) hx (by omega) (by omega)
      simp only [hb, if_false]
      refine ⟨H', e, ?_, f⟩
      have et : tot (g.kv.set i (t, b - 1)) = tot g.kv - 1 := by rw [tot_set hj]; simp; omega
      rw [et]; exact l1
theorem lclo (hT : LdT T) (h : Ld H l mb cap mark g.used (tot g.kv) g.kv) (hg : Gd cap g) (wf : WF H) :
    ∃ H', exec T (m + 2) (.fn k_ledger_Ledger_Close) [.pointer (some ⟨l, 0, none⟩), .int .u64 t] H = some (.int .i64 (gClo t g).1, H') ∧ Ld H' l mb cap mark (gClo t g).2.used (tot (gClo t g).2.kv) (gClo t g).2.kv ∧ Fr H H' [l, mb] := by
  have hc := hg.hc; have hu := hg.hu; have hle := hg.hle
  have hp := tot_nonneg hg.nn
  unfold gClo
  cases hx : fidx t g.kv 0 with
  | none => exact ⟨H, lclose_bad hT h hx, h, Fr.refl wf _⟩
  | some p =>
    obtain ⟨i, b⟩ := p
    have hj := fidx_mem hx
    have hb0 := hg.nn _ (List.mem_of_getElem? hj)
    have hbt := le_tot hg.nn _ (List.mem_of_getElem? hj)
    simp only at hb0 hbt
    obtain ⟨H', e, l1, f⟩ := lclose_ok (m := m) hT h wf (by omega) hx (by omega) (by omega)
    refine ⟨H', e, ?_, f⟩
    simp only [tot_erase hj]; exact l1
theorem lfre (hT : LdT T) (h : Ld H l mb cap mark g.used (tot g.kv) g.kv) (hg : Gd cap g) (wf : WF H) :
    ∃ H', exec T (m + 1) (.fn k_ledger_Ledger_Free) [.pointer (some ⟨l, 0, none⟩), .int .i64 n] H = some (.int .i64 (gFre n g).1, H') ∧ Ld H' l mb cap mark (gFre n g).2.used (tot (gFre n g).2.kv) (gFre n g).2.kv ∧ Fr H H' [l, mb] := by
  have hc := hg.hc; have hu := hg.hu; have hle := hg.hle
  have hp := tot_nonneg hg.nn
  unfold gFre
  by_cases hb : n < 0 ∨ g.used < n
  · rw [if_pos hb]; exact ⟨H, lfree_bad hT h hb, h, Fr.refl wf _⟩
  · rw [if_neg hb]; exact lfree_ok hT h wf (by omega) (by omega) (by omega)
end
end Go.Proofs.Ytnkhlohphaomlaa
