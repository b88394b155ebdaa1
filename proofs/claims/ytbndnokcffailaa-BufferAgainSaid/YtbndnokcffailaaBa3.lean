/- Buffers: the methods. -/
import Derived.Test.YtbndnokcffailaaBa2
namespace Go.Proofs.Ytbndnokcffailaa
open Go
set_option linter.unusedVariables false
set_option linter.unusedSimpArgs false
variable {T : Nat → Option AFun} {H : Heap} {m : Nat} {v : Value} {L : List Int} {t : Int}

def bvs (kv : List (Int × List Int)) : List (Value × Value) := kv.map fun p => (.int .i64 p.1, .agg ⟨iz .u8 p.2⟩)
def vidx (t : Int) : List (Int × List Int) → Nat → Option (Nat × List Int)
  | [], _ => none
  | (a, b) :: r, i => if a = t then some (i, b) else vidx t r (i + 1)
def getV (t : Int) (kv : List (Int × List Int)) : Option (List Int) := (vidx t kv 0).map (·.2)
def putV (t : Int) (w : List Int) (kv : List (Int × List Int)) : List (Int × List Int) := match vidx t kv 0 with
  | some (i, _) => kv.set i (t, w)
  | none => kv ++ [(t, w)]
def zero32 : List Int := List.replicate 32 0

theorem findKv_bvs {t : Int} : ∀ (kv : List (Int × List Int)) (i : Nat), findKv .i64 t (bvs kv) i = some ((vidx t kv i).map fun p => (p.1, .agg ⟨iz .u8 p.2⟩)) := by
  intro kv
  induction kv with
  | nil => intro i; rfl
  | cons p kv ih =>
    obtain ⟨a, b⟩ := p
    intro i
    by_cases h : a = t
    · subst h
      simp [bvs, findKv, vidx]
    · have hb : (a == t) = false := by simpa using h
      simp only [bvs, List.map_cons, findKv, if_true, hb, cond_false, vidx, h, if_false]
      exact ih (i + 1)
theorem vidx_none : ∀ {kv : List (Int × List Int)} {i : Nat}, vidx t kv i = none ↔ ∀ p ∈ kv, p.1 ≠ t := by
  intro kv
  induction kv with
  | nil => intro i; simp [vidx]
  | cons p kv ih =>
    obtain ⟨a, b⟩ := p
    intro i
    by_cases h : a = t
    · simp [vidx, h]
    · simp [vidx, h, ih]
theorem vidx_at : ∀ {kv : List (Int × List Int)} {i : Nat} {j : Nat} {b : List Int}, vidx t kv i = some (j, b) → i ≤ j ∧ kv[j - i]? = some (t, b) := by
  intro kv
  induction kv with
  | nil => intro i j b h; simp [vidx] at h
  | cons p kv ih =>
    obtain ⟨a, c⟩ := p
    intro i j b h
    by_cases ha : a = t
    · simp only [vidx, ha, if_true, Option.some.injEq, Prod.mk.injEq] at h
      obtain ⟨rfl, rfl⟩ := h
      exact ⟨Nat.le_refl _, by simp [ha]⟩
    · simp only [vidx, ha, if_false] at h
      obtain ⟨h1, h2⟩ := ih h
      refine ⟨by omega, ?_⟩
      rw [show j - i = (j - (i + 1)) + 1 by omega, List.getElem?_cons_succ, h2]

structure Kv (L : List Int) (kv : List (Int × List Int)) : Prop where
  nodup : (kv.map (·.1)).Nodup
  sub : ∀ p ∈ kv, p.1 ∈ L
  len : ∀ p ∈ kv, p.2.length = 32
theorem Kv.get_iff {kv : List (Int × List Int)} (h : (kv.map (·.1)).Nodup) {w : List Int} : getV t kv = some w ↔ (t, w) ∈ kv := by
  induction kv with
  | nil => simp [getV, vidx]
  | cons p kv ih =>
    obtain ⟨a, b⟩ := p
    have hs : ∀ i, (vidx t kv i).map (·.2) = (vidx t kv 0).map (·.2) := by
      have : ∀ (kv : List (Int × List Int)) i j, (vidx t kv i).map (·.2) = (vidx t kv j).map (·.2) := by
        intro kv
        induction kv with
        | nil => intro i j; rfl
        | cons q kv ih =>
          obtain ⟨c, d⟩ := q
          intro i j
          by_cases hc : c = t
          · simp [vidx, hc]
          · simp only [vidx, hc, if_false]; exact ih _ _
      exact fun i => this kv i 0
    simp only [List.map_cons, List.nodup_cons] at h
    by_cases ha : a = t
    · subst ha
      simp only [getV, vidx, if_true, Option.map_some, Option.some.injEq, List.mem_cons, Prod.mk.injEq, true_and]
      constructor
      · rintro rfl; exact .inl rfl
      · rintro (rfl | h1)
        · rfl
        · exact absurd (List.mem_map.2 ⟨_, h1, rfl⟩) h.1
    · have := ih h.2
      simp only [getV] at this ⊢
      simp only [vidx, ha, if_false, hs, this, List.mem_cons, Prod.mk.injEq]
      constructor
      · exact .inr
      · rintro (⟨h1, _⟩ | h1)
        · exact absurd h1.symm ha
        · exact h1
theorem getV_none {kv : List (Int × List Int)} : getV t kv = none ↔ ∀ p ∈ kv, p.1 ≠ t := by
  rw [getV, Option.map_eq_none_iff]; exact vidx_none
theorem putV_keys {kv : List (Int × List Int)} {w : List Int} : (putV t w kv).map (·.1) = if getV t kv = none then kv.map (·.1) ++ [t] else kv.map (·.1) := by
  unfold putV getV
  cases hx : vidx t kv 0 with
  | none => simp
  | some p =>
    obtain ⟨i, b⟩ := p
    obtain ⟨_, h⟩ := vidx_at hx
    simp only [Nat.sub_zero] at h
    simp only [Option.map_some, reduceCtorEq, if_false, List.map_set]
    have h' : (kv.map (·.1))[i]? = some t := by simp [h]
    exact set_at_same h'
theorem Kv.put {kv : List (Int × List Int)} {w : List Int} (h : Kv L kv) (ht : t ∈ L) (hw : w.length = 32) : Kv L (putV t w kv) ∧ getV t (putV t w kv) = some w := by
  have hn : ((putV t w kv).map (·.1)).Nodup := by
    rw [putV_keys]
    split
    · rename_i h1
      rw [getV_none] at h1
      refine List.nodup_append.2 ⟨h.nodup, by simp, ?_⟩
      intro a ha b hb
      simp only [List.mem_singleton] at hb
      obtain ⟨p, hp, rfl⟩ := List.mem_map.1 ha
      rw [hb]; exact h1 p hp
    · exact h.nodup
  have hm : (t, w) ∈ putV t w kv ∧ ∀ p ∈ putV t w kv, p ∈ kv ∨ p = (t, w) := by
    unfold putV
    cases hx : vidx t kv 0 with
    | none => simp
    | some p =>
      obtain ⟨i, b⟩ := p
      obtain ⟨_, h1⟩ := vidx_at hx
      simp only [Nat.sub_zero] at h1
      have hl := (List.getElem?_eq_some_iff.1 h1).1
      exact ⟨List.mem_set hl _, fun p hp => List.mem_or_eq_of_mem_set hp⟩
  refine ⟨⟨hn, fun p hp => ?_, fun p hp => ?_⟩, (Kv.get_iff hn).2 hm.1⟩
  · rcases hm.2 p hp with h1 | rfl
    · exact h.sub p h1
    · exact ht
  · rcases hm.2 p hp with h1 | rfl
    · exact h.len p h1
    · exact hw

structure Bf (H : Heap) (l mb : Nat) (s : Value) (L : List Int) (kv : List (Int × List Int)) : Prop where
  at_ : H.get l = some (.cells [s, .map (some mb)] false 0)
  mp : H.get mb = some (.map (bvs kv))
  sl : Sl H 1 s L.length (iz .i64 L)
theorem Bf.ne {l mb : Nat} {s : Value} {kv : List (Int × List Int)} (h : Bf H l mb s L kv) : l ≠ mb := by
  rintro rfl; have := h.at_; rw [h.mp] at this; cases this
theorem Bf.ns {l mb : Nat} {s : Value} {kv : List (Int × List Int)} (h : Bf H l mb s L kv) : l ∉ blk s ∧ mb ∉ blk s :=
  ⟨h.sl.notin h.at_ (by decide), h.sl.not h.mp (by intro xs ro e; cases e)⟩
theorem Bf.fr {H' : Heap} {l mb : Nat} {s : Value} {kv : List (Int × List Int)} {fp : List Nat} (h : Bf H l mb s L kv) (f : Fr H H' fp) (h1 : l ∉ fp) (h2 : mb ∉ fp) (h3 : ∀ b ∈ blk s, b ∉ fp) : Bf H' l mb s L kv :=
  ⟨f.keep _ _ h.at_ h1, f.keep _ _ h.mp h2, h.sl.fr f h3⟩

structure BaT (T : Nat → Option AFun) : Prop extends FoT T where
  new : T k_buffer_New = some c_buffer_New
  is_ : T k_blocks_Is = some c_blocks_Is
  clone : T k_slices_Clone_int_int = some c_slices_Clone_int_int
  refused : T k_buffer_Buffer_refused = some c_buffer_Buffer_refused
  write : T k_buffer_Buffer_Write = some c_buffer_Buffer_Write
  read : T k_buffer_Buffer_Read = some c_buffer_Buffer_Read
  images : T k_buffer_Buffer_Images = some c_buffer_Buffer_Images
  len : T k_buffer_Buffer_Len = some c_buffer_Buffer_Len
  same : T k_wicketref16_Same = some c_wicketref16_Same
  rhas : T k_wicketref05_Has = some c_wicketref05_Has

theorem bnew_bad (hT : BaT T) (h : Rd H 1 v L.length (iz .i64 L)) (hm : 20 ≤ m) (hb : L.length ≤ maxLen) (hbad : ¬ Good L) :
    exec T (m + 2) (.fn k_buffer_New) [v] H = some (.tuple #[.pointer none, .int .i64 53], H) := by
  have e1 := is_ok (m := m) hT.is_ h hm hb
  rw [isB_false hbad] at e1
  rw [exec_fn hT.new]
  obtain ⟨a, c, rfl⟩ := h.form
  simp [e1, endOf, takeAll, results?, resOf, endVal]
theorem bnew_ok (hT : BaT T) (h : Rd H 1 v L.length (iz .i64 L)) (wf : WF H) (hm : 20 ≤ m) (hg : Good L) :
    ∃ l mb s H', exec T (m + 2) (.fn k_buffer_New) [v] H = some (.tuple #[.pointer (some ⟨l, 0, none⟩), .int .i64 0], H') ∧ Bf H' l mb s L [] ∧ Fr H H' [] ∧ H.next ≤ l ∧ H.next ≤ mb ∧ (∀ b ∈ blk s, H.next ≤ b) := by
  have hl := hg.2.1
  have e1 := is_ok (m := m) hT.is_ h hm (by have : (16 : Nat) ≤ maxLen := by decide
                                            omega)
  rw [isB_true hg] at e1
  obtain ⟨s, H1, e2, g2, f2, b2, _⟩ := clone_ok (m := m) hT.clone h wf (by have := hg.1; omega) (by omega)
  obtain ⟨a, c, rfl⟩ := h.form
  obtain ⟨a', c', rfl⟩ := g2.form
  have f3 := Fr.new (o := .map []) f2.wf []
  have f4 := Fr.new (o := .cells [.slice a' L.length c', .map (some H1.next)] false 0) f3.wf []
  have hne : H1.next + 1 ≠ H1.next := by omega
  refine ⟨H1.next + 1, H1.next, .slice a' L.length c', (H1.new (.map [])).new (.cells [.slice a' L.length c', .map (some H1.next)] false 0), ?_, ⟨by simp, by simp [bvs], (g2.fr f3 (by simp)).fr f4 (by simp)⟩, (f2.step wf f3 (by simp)).step wf f4 (by simp), ?_, f2.le, b2⟩
  · rw [exec_fn hT.new]
    simp [e1, e2, writeAt, boxK_agg, endOf, takeAll, results?, resOf, endVal]
  · have := f2.le; omega
section
variable {l mb : Nat} {s : Value} {kv : List (Int × List Int)}
theorem refused_ok (hT : BaT T) (h : Bf H l mb s L kv) (hl : L.length ≤ 16) (hm : 20 ≤ m) :
    exec T (m + 4) (.fn k_buffer_Buffer_refused) [.pointer (some ⟨l, 0, none⟩), .int .i64 t] H = some (.int .i64 (if t ∈ L then 0 else 160), H) := by
  have e1 := has_ok (m := m) (t := t) hT.toFoT h.sl.toRd (by omega) (by omega)
  obtain ⟨a, c, hs⟩ := h.sl.form
  have e2 := readCells_of (off := 0) (m := 1) h.at_ (by simp)
  subst hs
  rw [exec_fn hT.refused]
  by_cases ht : t ∈ L
  · simp [e2, e1, ht, endOf, takeAll, results?, resOf, endVal]
  · simp [e2, e1, ht, endOf, takeAll, results?, resOf, endVal]
theorem blen_ok (hT : BaT T) (h : Bf H l mb s L kv) : exec T (m + 1) (.fn k_buffer_Buffer_Len) [.pointer (some ⟨l, 0, none⟩)] H = some (.int .i64 kv.length, H) := by
  have e2 := readCells_of (off := 1) (m := 1) h.at_ (by simp)
  rw [exec_fn hT.len]
  simp [e2, lenMK_some h.mp, bvs, goInt, endOf, takeAll, results?, resOf, endVal]
end
end Go.Proofs.Ytbndnokcffailaa
