/- LedgerRoom: the loop over the tickets. -/
import Derived.Test.YtnpegkmoadjjeaaLr2
namespace Go.Proofs.Ytnpegkmoadjjeaa
open Go
set_option linter.unusedVariables false
set_option linter.unusedSimpArgs false
variable {T : Nat → Option AFun} {H : Heap} {m : Nat} {kv : List (Int × Int)} {t : Int}

def tot (kv : List (Int × Int)) : Int := (kv.map (·.2)).sum
@[simp] theorem tot_nil : tot [] = 0 := rfl
theorem tot_append {A B : List (Int × Int)} : tot (A ++ B) = tot A + tot B := by simp [tot, List.sum_append]
@[simp] theorem tot_cons {p : Int × Int} {A : List (Int × Int)} : tot (p :: A) = p.2 + tot A := by simp [tot]
theorem tot_nonneg : ∀ {kv : List (Int × Int)}, (∀ p ∈ kv, 0 ≤ p.2) → 0 ≤ tot kv := by
  intro kv
  induction kv with
  | nil => intro _; simp
  | cons p kv ih =>
    intro h
    have h1 := h p (List.mem_cons_self ..)
    have h2 := ih fun q hq => h q (List.mem_cons_of_mem _ hq)
    simp; omega
theorem le_tot : ∀ {kv : List (Int × Int)}, (∀ p ∈ kv, 0 ≤ p.2) → ∀ p ∈ kv, p.2 ≤ tot kv := by
  intro kv
  induction kv with
  | nil => intro _ p hp; cases hp
  | cons q kv ih =>
    intro h p hp
    have h1 := h q (List.mem_cons_self ..)
    have h2 := tot_nonneg (kv := kv) fun r hr => h r (List.mem_cons_of_mem _ hr)
    rcases List.mem_cons.1 hp with rfl | h3
    · simp; omega
    · have := ih (fun r hr => h r (List.mem_cons_of_mem _ hr)) p h3
      simp; omega

theorem fidx_none : ∀ {kv : List (Int × Int)} {i : Nat}, fidx t kv i = none ↔ ∀ p ∈ kv, p.1 ≠ t := by
  intro kv
  induction kv with
  | nil => intro i; simp [fidx]
  | cons p kv ih =>
    obtain ⟨a, b⟩ := p
    intro i
    by_cases h : a = t
    · simp [fidx, h]
    · simp [fidx, h, ih]
theorem fidx_at : ∀ {kv : List (Int × Int)} {i : Nat} {j : Nat} {b : Int}, fidx t kv i = some (j, b) → i ≤ j ∧ kv[j - i]? = some (t, b) := by
  intro kv
  induction kv with
  | nil => intro i j b h; cases h
  | cons p kv ih =>
    obtain ⟨a, b'⟩ := p
    intro i j b h
    by_cases h1 : a = t
    · simp only [fidx, h1, if_true, Option.some.injEq, Prod.mk.injEq] at h
      obtain ⟨rfl, rfl⟩ := h
      simp [h1]
    · simp only [fidx, h1, if_false] at h
      obtain ⟨g1, g2⟩ := ih h
      refine ⟨by omega, ?_⟩
      rw [show j - i = (j - (i + 1)) + 1 by omega, List.getElem?_cons_succ]; exact g2
theorem fidx_append : ∀ {kv : List (Int × Int)} {i : Nat} {p : Int × Int}, fidx t (kv ++ [p]) i = (match fidx t kv i with | some x => some x | none => if p.1 = t then some (i + kv.length, p.2) else none) := by
  intro kv
  induction kv with
  | nil => intro i p; obtain ⟨a, b⟩ := p; simp [fidx]
  | cons q kv ih =>
    obtain ⟨a, b⟩ := q
    intro i p
    by_cases h : a = t
    · simp [fidx, h]
    · simp only [List.cons_append, fidx, h, if_false, ih, List.length_cons]
      rw [show i + 1 + kv.length = i + (kv.length + 1) by omega]

/-- Where a ticket stands; -1: nowhere. -/
def atOf (t : Int) (kv : List (Int × Int)) : Int := match fidx t kv 0 with
  | some (i, _) => i
  | none => -1

theorem atOf_step {j : Nat} {p : Int × Int} (hn : (kv.map (·.1)).Nodup) (hp : kv[j]? = some p) : atOf t (kv.take (j + 1)) = if p.1 = t then (j : Int) else atOf t (kv.take j) := by
  have hlt : j < kv.length := (List.getElem?_eq_some_iff.1 hp).1
  rw [List.take_add_one, hp]
  simp only [Option.toList_some, atOf, fidx_append]
  by_cases h : p.1 = t
  · have hnone : fidx t (kv.take j) 0 = none := by
      rw [fidx_none]
      intro q hq heq
      obtain ⟨a, ha⟩ := List.getElem?_of_mem hq
      rw [List.getElem?_take] at ha
      split at ha
      · rename_i haj
        have h1 : (kv.map (·.1))[a]? = some t := by rw [List.getElem?_map, ha]; simp [heq]
        have h2 : (kv.map (·.1))[j]? = some t := by rw [List.getElem?_map, hp]; simp [h]
        have g1 := (List.getElem?_eq_some_iff.1 h1)
        have g2 := (List.getElem?_eq_some_iff.1 h2)
        exact (List.pairwise_iff_getElem.1 hn) a j g1.1 g2.1 haj (g1.2.trans g2.2.symm)
      · cases ha
    rw [hnone]
    simp only [h, if_true, List.length_take]
    congr 1; omega
  · simp only [h, if_false]
    cases fidx t (kv.take j) 0 with
    | none => rfl
    | some x => rfl

/-- The inner loop. -/
theorem scan_ok {st sl : Value} {box : Nat} {cs : List Value} (hs : Rd H 1 st kv.length (iz .u64 (kv.map (·.1)))) (hl : Rd H 1 sl kv.length (iz .i64 (kv.map (·.2)))) (hb : H.get box = some (.cells cs false 0)) {k0 k1 k3 : Value} (hcs : cs = [k0, k1, .int .u64 t, k3])
    (hn : (kv.map (·.1)).Nodup) (hnn : ∀ p ∈ kv, 0 ≤ p.2) (htot : tot kv ≤ 64) (hm : kv.length < m) (hk : kv.length ≤ 1000) {tm : Tr Value} {ds : List Nat} (t8 : tm.get 8 = some st) (t9 : tm.get 9 = some sl) (t12 : tm.get 12 = some (.pointer (some ⟨box, 0, none⟩)))
    (t13 : tm.get 13 = some (.int .i64 (-1))) (t14 : tm.get 14 = some (.int .i64 0)) (t15 : tm.get 15 = some (.int .i64 0)) :
    ∃ e s', loopN (run (exec T m) m none c_wicketlaw12_LedgerRoom_L20) m ⟨tm, H, ds⟩ = some (e, s') ∧ e = .exit 2 ∧ s'.h = H ∧ s'.ds = ds ∧ KeepsB 15 [13, 14] tm s'.tm ∧ s'.tm.get 13 = some (.int .i64 (atOf t kv)) ∧ s'.tm.get 14 = some (.int .i64 (tot kv)) := by
  subst hcs
  obtain ⟨a1, c1, rfl⟩ := hs.form
  obtain ⟨a2, c2, rfl⟩ := hl.form
  refine Exists.elim (loopN_inv (f := run (exec T m) m none c_wicketlaw12_LedgerRoom_L20) (I := fun q s => ∃ j : Nat, q = kv.length - j ∧ j ≤ kv.length ∧ s.h = H ∧ s.ds = ds ∧ KeepsB 15 [13, 14] tm s.tm ∧ s.tm.get 13 = some (.int .i64 (atOf t (kv.take j))) ∧ s.tm.get 14 = some (.int .i64 (tot (kv.take j))) ∧ s.tm.get 15 = some (.int .i64 j))
    (Q := fun e s' => e = .exit 2 ∧ s'.h = H ∧ s'.ds = ds ∧ KeepsB 15 [13, 14] tm s'.tm ∧ s'.tm.get 13 = some (.int .i64 (atOf t kv)) ∧ s'.tm.get 14 = some (.int .i64 (tot kv))) ?_ kv.length _ m ⟨0, by omega, by omega, rfl, rfl, by simp, t13, t14, t15⟩ hm) (fun e ⟨s', h1, _, h2⟩ => ⟨e, s', h1, h2⟩)
  rintro q ⟨tm1, H1, ds1⟩ ⟨j, hq, hj, hH, hds, kk, u13, u14, u15⟩
  simp only at hH hds kk u13 u14 u15
  subst hH hds
  have u8 := kk.get t8
  have u9 := kk.get t9
  have u12 := kk.get t12
  by_cases hlt : j < kv.length
  · have hlt' : (j : Int) < kv.length := by omega
    obtain ⟨p, hp⟩ : ∃ p, kv[j]? = some p := ⟨kv[j], by simp [hlt]⟩
    obtain ⟨b1, sp1, x1, e1, r1⟩ := hs.read j hlt
    obtain ⟨b2, sp2, x2, e2, r2⟩ := hl.read j hlt
    cases e1; cases e2
    have r1 := r1 j 1 (by omega)
    have r2 := r2 j 1 (by omega)
    rw [iz_at (x := p.1) (by rw [List.getElem?_map, hp]; rfl)] at r1
    rw [iz_at (x := p.2) (by rw [List.getElem?_map, hp]; rfl)] at r2
    have hw : IntKind.i64.wrap ((j : Int) + 1) = (j + 1 : Nat) := by rw [wrap_i64 (by omega) (by omega)]; omega
    have hsum : tot (kv.take (j + 1)) = tot (kv.take j) + p.2 := by rw [List.take_add_one, hp]; simp [tot_append]
    have hpos := tot_nonneg (kv := kv.take j) fun x hx => hnn x (List.mem_of_mem_take hx)
    have hple := hnn p (List.mem_of_getElem? hp)
    have hdrop : tot kv = tot (kv.take (j + 1)) + tot (kv.drop (j + 1)) := by rw [← tot_append, List.take_append_drop]
    have hpos2 := tot_nonneg (kv := kv.drop (j + 1)) fun x hx => hnn x (List.mem_of_mem_drop hx)
    have hw2 : IntKind.i64.wrap (tot (kv.take j) + p.2) = tot (kv.take (j + 1)) := by rw [wrap_i64 (by omega) (by omega), hsum]
    have hst := atOf_step (t := t) hn hp
    by_cases hpt : p.1 = t
    · rw [if_pos hpt] at hst
      obtain ⟨t2, f2, g1, g13, g14, g15⟩ : ∃ t2, run (exec T m) m none c_wicketlaw12_LedgerRoom_L20 ⟨tm1, H1, ds1⟩ = some (.normal, ⟨t2, H1, ds1⟩) ∧ KeepsB 15 [13, 14] tm1 t2 ∧ t2.get 13 = some (.int .i64 j) ∧ t2.get 14 = some (.int .i64 (tot (kv.take (j + 1)))) ∧ t2.get 15 = some (.int .i64 (j + 1 : Nat)) := by
        simp (maxSteps := 1000000) (disch := first | omega | (simp; omega) | (simp; done) | fail) [c_wicketlaw12_LedgerRoom_L20, c_wicketlaw12_LedgerRoom_S15, c_wicketlaw12_LedgerRoom_S16, c_wicketlaw12_LedgerRoom_S17, c_wicketlaw12_LedgerRoom_S18, c_wicketlaw12_LedgerRoom_S19, u8, u9, u12, u13, u14, u15, goInt, hlt', idxK_of, r1, r2, readCells_of hb, hpt, hw, hw2]
      exact ⟨.normal, _, f2, .inl ⟨rfl, kv.length - j - 1, by omega, j + 1, by omega, by omega, rfl, rfl, fun k h1 h2 => (g1 k h1 h2).trans (kk k h1 h2), by rw [hst]; exact g13, g14, g15⟩⟩
    · rw [if_neg hpt] at hst
      obtain ⟨t2, f2, g1, g13, g14, g15⟩ : ∃ t2, run (exec T m) m none c_wicketlaw12_LedgerRoom_L20 ⟨tm1, H1, ds1⟩ = some (.normal, ⟨t2, H1, ds1⟩) ∧ KeepsB 15 [13, 14] tm1 t2 ∧ t2.get 13 = some (.int .i64 (atOf t (kv.take j))) ∧ t2.get 14 = some (.int .i64 (tot (kv.take (j + 1)))) ∧ t2.get 15 = some (.int .i64 (j + 1 : Nat)) := by
        simp (maxSteps := 1000000) (disch := first | omega | (simp; omega) | (simp; done) | fail) [c_wicketlaw12_LedgerRoom_L20, c_wicketlaw12_LedgerRoom_S15, c_wicketlaw12_LedgerRoom_S16, c_wicketlaw12_LedgerRoom_S17, c_wicketlaw12_LedgerRoom_S18, c_wicketlaw12_LedgerRoom_S19, u8, u9, u12, u13, u14, u15, goInt, hlt', idxK_of, r1, r2, readCells_of hb, hpt, hw, hw2]
      exact ⟨.normal, _, f2, .inl ⟨rfl, kv.length - j - 1, by omega, j + 1, by omega, by omega, rfl, rfl, fun k h1 h2 => (g1 k h1 h2).trans (kk k h1 h2), by rw [hst]; exact g13, g14, g15⟩⟩
  · obtain rfl : j = kv.length := by omega
    rw [List.take_of_length_le (Nat.le_refl _)] at u13 u14
    obtain ⟨t2, f2, g1, g13, g14⟩ : ∃ t2, run (exec T m) m none c_wicketlaw12_LedgerRoom_L20 ⟨tm1, H1, ds1⟩ = some (.exit 2, ⟨t2, H1, ds1⟩) ∧ KeepsB 15 [13, 14] tm1 t2 ∧ t2.get 13 = some (.int .i64 (atOf t kv)) ∧ t2.get 14 = some (.int .i64 (tot kv)) := by
      simp [c_wicketlaw12_LedgerRoom_L20, c_wicketlaw12_LedgerRoom_S15, c_wicketlaw12_LedgerRoom_S16, u8, u13, u14, u15, goInt]
    exact ⟨.exit 2, _, f2, .inr ⟨by simp, rfl, rfl, rfl, fun k h1 h2 => (g1 k h1 h2).trans (kk k h1 h2), g13, g14⟩⟩
end Go.Proofs.Ytnpegkmoadjjeaa
