import Derived.Test.YtkfdikcnpaechaaPSort
import Derived.Test.YtkfdikcnpaechaaLBlocksOne
import Derived.Test.YtkfdikcnpaechaaS58
/- Lists that rise, without doubles. -/
namespace Go.Proofs.Ytkfdikcnpaechaa
open Go
set_option linter.unusedVariables false
set_option linter.unusedSimpArgs false

theorem lt_ext {A B : List Int} (hA : A.Pairwise (· < ·)) (hB : B.Pairwise (· < ·)) (h : ∀ x, x ∈ A ↔ x ∈ B) : A = B := by
  have nd : ∀ {L : List Int}, L.Pairwise (· < ·) → L.Nodup := fun hL => hL.imp fun h e => by omega
  exact List.Perm.eq_of_pairwise (le := fun a b : Int => a < b) (fun a b _ _ h1 h2 => by omega) hA hB ((List.perm_ext_iff_of_nodup (nd hA) (nd hB)).2 h)
/-- What stands behind p, without what is as the one ahead. -/
def cf (p : Int) : List Int → List Int
  | [] => []
  | x :: t => if x = p then cf p t else x :: cf x t
def compact : List Int → List Int
  | [] => []
  | x :: t => x :: cf x t
theorem cf_mem {x : Int} : ∀ {t : List Int} {p : Int}, x ∈ p :: cf p t ↔ x ∈ p :: t := by
  intro t
  induction t with
  | nil => intro p; rfl
  | cons y t ih =>
    intro p
    unfold cf
    by_cases h : y = p
    · subst h
      rw [if_pos rfl, ih]
      simp
    · rw [if_neg h, List.mem_cons, ih, List.mem_cons (l := y :: t)]
theorem compact_mem {x : Int} {L : List Int} : x ∈ compact L ↔ x ∈ L := by
  cases L with
  | nil => rfl
  | cons y t => exact cf_mem
theorem cf_lt : ∀ {t : List Int} {p : Int}, (p :: t).Pairwise (· ≤ ·) → (p :: cf p t).Pairwise (· < ·) := by
  intro t
  induction t with
  | nil => intro p _; exact List.pairwise_singleton _ _
  | cons y t ih =>
    intro p h
    rw [List.pairwise_cons] at h
    have hy := h.1 y (List.mem_cons_self ..)
    unfold cf
    by_cases e : y = p
    · subst e
      rw [if_pos rfl]
      exact ih h.2
    · rw [if_neg e]
      have h2 := ih h.2
      rw [List.pairwise_cons]
      refine ⟨fun a ha => ?_, h2⟩
      rw [List.pairwise_cons] at h2
      rcases List.mem_cons.1 ha with rfl | ha
      · omega
      · have := h2.1 a ha; omega
theorem compact_lt {L : List Int} (h : L.Pairwise (· ≤ ·)) : (compact L).Pairwise (· < ·) := by
  cases L with
  | nil => exact .nil
  | cons y t => exact cf_lt h
/-- The one form. -/
def form (L : List Int) : List Int := compact (isort L)
theorem form_lt {L : List Int} : (form L).Pairwise (· < ·) := compact_lt isort_sorted
theorem form_mem {x : Int} {L : List Int} : x ∈ form L ↔ x ∈ L := by rw [form, compact_mem, isort_perm.mem_iff]
theorem form_of {L M : List Int} (hM : M.Pairwise (· < ·)) (h : ∀ x, x ∈ M ↔ x ∈ L) : form L = M := lt_ext form_lt hM fun x => by rw [form_mem, h]
theorem form_nil {L : List Int} : form L = [] ↔ L = [] := by
  constructor
  · intro h
    cases L with
    | nil => rfl
    | cons x t => have : x ∈ form (x :: t) := form_mem.2 (List.mem_cons_self ..); rw [h] at this; cases this
  · rintro rfl; rfl
theorem cf_len : ∀ {t : List Int} {p : Int}, (cf p t).length ≤ t.length := by
  intro t
  induction t with
  | nil => intro p; exact Nat.le_refl _
  | cons y t ih =>
    intro p
    unfold cf
    by_cases h : y = p
    · rw [if_pos h]; exact Nat.le_succ_of_le ih
    · rw [if_neg h]; exact Nat.succ_le_succ ih
theorem compact_len {L : List Int} : (compact L).length ≤ L.length := by
  cases L with
  | nil => exact Nat.le_refl _
  | cons y t => exact Nat.succ_le_succ cf_len
theorem form_len {L : List Int} : (form L).length ≤ L.length := by rw [form]; exact Nat.le_trans compact_len (Nat.le_of_eq isort_length)
theorem lt_first {L : List Int} (h : L.Pairwise (· < ·)) {i j : Nat} (hij : i < j) (hj : j < L.length) : L[i] < L[j] := (List.pairwise_iff_getElem.1 h) i j (by omega) hj hij
end Go.Proofs.Ytkfdikcnpaechaa

/- Copies, sorted and without doubles. -/
namespace Go.Proofs.Ytkfdikcnpaechaa
open Go
set_option linter.unusedVariables false
set_option linter.unusedSimpArgs false
section
variable {n m c b off i j : Nat} {sp : Option Nat} {s u : Value} {L X Y : List Int} {t z : Int} {h : Heap} {G F A B : Ch} {cs pre rest : List Value}
theorem wrap_pred {j : Nat} (h1 : 1 ≤ j) (hj : j < 4611686018427387904) : IntKind.i64.wrap ((j : Int) - 1) = ((j - 1 : Nat) : Int) := by
  rw [wrap_i64 (by omega) (by omega)]; omega
theorem ix1 (hi : i < m) : ixB 1 (.slice (some ⟨b, off, sp⟩) m c) (i : Int) = some ⟨b, off + i, none⟩ := by
  show (bif Nat.blt i m then _ else none) = _
  rw [show Nat.blt i m = true from Nat.ble_eq_true_of_le hi, Nat.mul_one]; rfl
/-- A list of integers as it stands in a block. -/
abbrev Blk (pre : List Value) (X : List Int) (rest : List Value) : AObj := .cells (pre ++ (iz .i64 X ++ rest)) false 1
theorem blk_at (hp : pre.length = off) (hi : i < X.length) : (pre ++ (iz .i64 X ++ rest))[off + i]? = some (.int .i64 X[i]) := by
  rw [List.getElem?_append_right (by omega), List.getElem?_append_left (by rw [iz_length]; omega)]
  simp [iz, hp, hi]
theorem blk_ld {o : Nat} (hp : pre.length = off) (ho : Own h ((b, Blk pre X rest) :: F)) (hi : i < X.length) (ho2 : o = off + i) : ldT (.int .i64) h (some ⟨b, o, none⟩) = some X[i] := by
  rw [ldT_of ho.head, ho2, blk_at hp hi]; rfl
theorem blk_st {o : Nat} (hp : pre.length = off) (ho : Own h ((b, Blk pre X rest) :: F)) (hi : i < X.length) (ho2 : o = off + i) : ∃ h', stB 1 (.int .i64 z) h (some ⟨b, o, none⟩) = some h' ∧ Own h' ((b, Blk pre (X.set i z) rest) :: F) := by
  refine ⟨_, stB1_of ho.head rfl rfl (by rw [ho2]; simp; omega), ?_⟩
  have e : (pre ++ (iz .i64 X ++ rest)).set o (.int .i64 z) = pre ++ (iz .i64 (X.set i z) ++ rest) := by
    rw [ho2, List.set_append_right _ _ (by omega), List.set_append_left _ _ (by rw [iz_length]; omega), hp, Nat.add_sub_cancel_left, iz_set]
  rw [e]
  exact ho.put _
theorem blk_slc (hp : pre.length = off) (hk : i ≤ X.length) (hc : i ≤ c) (hc2 : c ≤ X.length + rest.length) : Slc 1 (.slice (some ⟨b, off, sp⟩) i c) i (iz .i64 (X.take i)) [(b, Blk pre X rest)] := by
  have e : pre ++ (iz .i64 X ++ rest) = pre ++ (iz .i64 (X.take i) ++ (iz .i64 (X.drop i) ++ rest)) := by rw [← List.append_assoc (iz .i64 (X.take i)), ← iz_append, List.take_append_drop]
  show Slc 1 _ i _ [(b, .cells (pre ++ (iz .i64 X ++ rest)) false 1)]
  rw [e]
  exact .mk' hp (by rw [iz_length, List.length_take]; omega) ⟨fun _ => hc, by simp; omega⟩
/-- A list of integers of one's own, as it stands. -/
theorem slc_blk (hs : Slc 1 s L.length (iz .i64 L) A) : (s = .slice none 0 0 ∧ L = [] ∧ A = []) ∨ ∃ b off sp c pre rest, s = .slice (some ⟨b, off, sp⟩) L.length c ∧ A = [(b, Blk pre L rest)] ∧ pre.length = off ∧ L.length ≤ c ∧ c ≤ L.length + rest.length := by
  generalize hcs : iz .i64 L = cs at hs
  generalize hm : L.length = m at hs
  cases hs with
  | nil => exact .inl ⟨rfl, List.eq_nil_of_length_eq_zero hm, rfl⟩
  | @mk' b off sp _ c pre _ rest hp hl hr =>
    subst hcs
    exact .inr ⟨b, off, sp, c, pre, rest, rfl, rfl, hp, by have := hr.1 (Nat.le_refl _); omega, by have := hr.2; rw [iz_length] at this; omega⟩
theorem sliceK_hm {es : Nat} {k k' : IntKind} (hj : j ≤ m) (hm : m ≤ c) : sliceK h es none (some (.int k (j : Int))) (some (.int k' (m : Int))) (.slice (some ⟨b, off, sp⟩) n c) = some (.slice (some ⟨b, off, some 0⟩) j m, h) := by
  simp [sliceK, natIn_int hj, natIn_int hm]
theorem cloneI_ok (hr : Sow 1 s m cs G) (ho : Own h (G ++ F)) (hlen : m * 8 ≤ 140737488355328) :
    ∃ s' h' A', f_slices_Clone_int_int n s h = some ((s', ()), h') ∧ Slc 1 s' m cs A' ∧ Own h' (A' ++ (G ++ F)) := by
  obtain ⟨a, c, hf, hsrc⟩ := (hr.rds ho).src
  have hcl := (hr.rds ho).len
  subst hf
  cases a with
  | none =>
    have h1 : (some [] : Option (List Value)) = some cs := hsrc
    have h2 := Option.some.inj h1
    subst h2
    obtain rfl : m = 0 := by simpa using hcl.symm
    exact ⟨.slice none 0 0, h, [], by simp [f_slices_Clone_int_int, eqVals_slice_nil], .nil, ho⟩
  | some b =>
    have hs : Slc 1 (.slice (some ⟨h.next, 0, some 0⟩) 0 0) 0 [] [(h.next, .cells ([] ++ ([] ++ [])) false 1)] := .mk rfl rfl rfl
    have o1 := ho.new (.cells [] false 1)
    obtain ⟨s', h', A', e1, e2, e3⟩ := hr.app hs (F := F) (h := h.new (.cells [] false 1)) (o1.to fun x => by simp only [cnt_append, cnt_cons, cnt_nil, List.nil_append, List.append_nil]; omega) (by decide) (bytes := 8) (by omega)
    refine ⟨s', h', A', ?_, by simpa using e2, e3⟩
    have := e2.notT
    simp [f_slices_Clone_int_int, eqVals_slice_nil, e1, this]
theorem sort_ok (hs : Slc 1 s L.length (iz .i64 L) A) (ho : Own h (A ++ F)) (hl : L.length < 4611686018427387904) :
    ∃ h' A', f_slices_Sort_int_int n s h = some ((), h') ∧ Slc 1 s L.length (iz .i64 (isort L)) A' ∧ Own h' (A' ++ F) := by
  rcases slc_blk hs with ⟨rfl, rfl, rfl⟩ | ⟨b, off, sp, c, pre, rest, rfl, rfl, hp, h1, h2⟩
  · exact ⟨h, [], rfl, .nil, ho⟩
  · by_cases h0 : L.length = 0
    · obtain rfl := List.eq_nil_of_length_eq_zero h0
      exact ⟨h, _, rfl, hs, ho⟩
    · subst hp
      have hg : h.get b = some (Blk pre L rest) := ho.head
      have hr : readCells h b pre.length L.length = some (L.map (.int .i64)) := by
        rw [readCells_of hg (by simp), List.drop_left]
        congr 1
        rw [List.take_append_of_le_length (by simp), List.take_of_length_le (by simp)]; try rfl
      have hw : writeCells h b pre.length ((isort L).map (.int .i64)) = some (h.put b (Blk pre (isort L) rest)) := by
        rw [writeCells_of hg (by simp [isort_length]), writeAt_eq _ _ _ (by simp [isort_length]), List.take_left]
        congr 2
        have : (pre ++ (iz .i64 L ++ rest)).drop (pre.length + ((isort L).map (Value.int .i64)).length) = rest := by
          rw [List.length_map, isort_length, ← List.drop_drop, List.drop_left]
          have := List.drop_left (l₁ := iz .i64 L) (l₂ := rest)
          rwa [iz_length] at this
        rw [this, List.append_assoc]; rfl
      have hb0 : Nat.beq L.length 0 = false := by rw [nat_beq_eq]; simp [h0]
      have hbl : Nat.ble L.length 4611686018427387903 = true := Nat.ble_eq_true_of_le (by omega)
      refine ⟨_, [(b, Blk pre (isort L) rest)], by simp only [f_slices_Sort_int_int, sortB, hb0, cond_false, hr, Option.bind_some, intsOf_map, hbl, cond_true, hw, Option.map_some], ?_, Own.put (F := F) ho _⟩
      have := blk_slc (b := b) (sp := sp) (c := c) (rest := rest) (X := isort L) (i := L.length) (pre := pre) rfl (by rw [isort_length]; exact Nat.le_refl _) h1 (by rw [isort_length]; exact h2)
      rwa [List.take_of_length_le (by rw [isort_length]; exact Nat.le_refl _)] at this
theorem cf_skip {p : Int} {t : List Int} : cf p (p :: t) = cf p t := by simp [cf]
theorem cf_put {p x : Int} {t : List Int} (h : x ≠ p) : cf p (x :: t) = x :: cf x t := by simp [cf, h]
/-- What the inner loop has done. -/
structure Ci (L : List Int) (j k2 kk : Nat) (X : List Int) : Prop where
  len : X.length = L.length
  drop : ∀ i, j + k2 - 1 ≤ i → X[i]? = L[i]?
  k : kk ≤ j + k2 - 1
  c : ∀ (hi : j + k2 - 1 < L.length), compact L = X.take kk ++ cf L[j + k2 - 1] (L.drop (j + k2))
theorem Ci.skip {k2 kk : Nat} (h : Ci L j k2 kk X) (h1 : 1 ≤ k2) (hi : j + k2 < L.length) (he : L[j + k2] = L[j + k2 - 1]) : Ci L j (k2 + 1) kk X := by
  refine ⟨h.len, fun i hi => h.drop i (by omega), by have := h.k; omega, fun hi2 => ?_⟩
  have := h.c (by omega)
  rw [List.drop_eq_getElem_cons (by omega), he, cf_skip] at this
  simpa only [← Nat.add_assoc, Nat.add_sub_cancel, he] using this
theorem Ci.put {k2 kk : Nat} (h : Ci L j k2 kk X) (h1 : 1 ≤ k2) (hi : j + k2 < L.length) (he : L[j + k2] ≠ L[j + k2 - 1]) : Ci L j (k2 + 1) (kk + 1) (X.set kk L[j + k2]) := by
  have hk := h.k
  have hl := h.len
  refine ⟨by simp [hl], fun i hi => ?_, by omega, fun hi2 => ?_⟩
  · rw [List.getElem?_set_ne (by omega)]; exact h.drop i (by omega)
  · have := h.c (by omega)
    rw [List.drop_eq_getElem_cons (by omega), cf_put he] at this
    have e : (X.set kk L[j + k2]).take (kk + 1) = X.take kk ++ [L[j + k2]] := by
      rw [take_snoc (by simp; omega), List.take_set_of_le (Nat.le_refl _)]; simp
    rw [e, List.append_assoc]
    simpa only [← Nat.add_assoc, Nat.add_sub_cancel, List.cons_append, List.nil_append] using this
theorem Ci.done {k2 kk : Nat} (h : Ci L j k2 kk X) (h1 : 1 ≤ k2) (hj : j + k2 = L.length) : compact L = X.take kk ∧ kk ≤ X.length := by
  have := h.c (by omega)
  rw [List.drop_eq_nil_of_le (by omega)] at this
  exact ⟨by simpa [cf] using this, by have := h.k; have := h.len; omega⟩
theorem compact_ok (hs : Slc 1 s L.length (iz .i64 L) A) (ho : Own h (A ++ F)) (hn : L.length + 2 ≤ n) (hl : L.length < 4611686018427387904) :
    ∃ s' h' A', f_slices_Compact_int_int n s h = some ((s', ()), h') ∧ Slc 1 s' (compact L).length (iz .i64 (compact L)) A' ∧ Own h' (A' ++ F) := by
  have hlb := hs.lenB
  have hnt := hs.notT
  by_cases h2 : L.length < 2
  · have hc : compact L = L := by
      match L, h2 with
      | [], _ => rfl
      | [x], _ => rfl
    refine ⟨s, h, A, ?_, by rw [hc]; exact hs, ho⟩
    have : ((L.length : Int) < 2) := by omega
    simp only [f_slices_Compact_int_int, hlb, Option.bind_some, this, decide_true, cond_true, hnt, Bool.not_false]
  · rcases slc_blk hs with ⟨_, rfl, _⟩ | ⟨b, off, sp, c, pre, rest, rfl, rfl, hp, c1, c2⟩
    · exact absurd (by simp) h2
    obtain ⟨r, e, s', A', hr, q1, q2⟩ := loopT_up (f := fun a => f_slices_Compact_int_int_L30 n (.slice (some ⟨b, off, sp⟩) L.length c) a.1.1 a.2)
      (fun j' (a : (Int × Unit) × Heap) => ∃ j : Nat, j = j' + 1 ∧ a = (((j : Int), ()), h) ∧ ∀ (hj : j - 1 < L.length), compact L = L.take j ++ cf L[j - 1] (L.drop j))
      (fun r => ∃ s' A', r.1 = (s', ()) ∧ Slc 1 s' (compact L).length (iz .i64 (compact L)) A' ∧ Own r.2 (A' ++ F)) (N := L.length - 1) (k := n) (j := 0) (a := ((1, ()), h)) (by omega) (by omega)
      (⟨1, rfl, rfl, fun hj => by
        match L, h2 with
        | x :: t, _ => simp [compact]⟩)
      (fun j' a hj hi => by
        · obtain ⟨j, hjj, rfl, hc⟩ := hi
          have hj1 : 1 ≤ j := by omega
          have hj : j < L.length := by omega
          have hlt : (j : Int) < (L.length : Int) := by omega
          have e1 := ix1 (b := b) (off := off) (sp := sp) (c := c) hj
          have e2 := blk_ld hp ho hj (rfl : off + j = off + j)
          have w1 := wrap_pred hj1 (by omega : j < 4611686018427387904)
          have e3 := ix1 (b := b) (off := off) (sp := sp) (c := c) (by omega : j - 1 < L.length)
          have e4 := blk_ld hp ho (by omega : j - 1 < L.length) (rfl : off + (j - 1) = off + (j - 1))
          have hcj := hc (by omega)
          rw [List.drop_eq_getElem_cons hj] at hcj
          by_cases he : L[j] = L[j - 1]
          · -- the first double
            refine .inr ?_
            have p9 := sliceK_l (h := h) (es := 1) (k' := .i64) (b := b) (off := off) (sp := sp) (n := L.length) (c := c) (j := j) (by omega) c1
            obtain ⟨r, e, kk, X, r1, r2, r3⟩ := loopT_up (f := fun a => f_slices_Compact_int_int_L23 n (.slice (some ⟨b, off, sp⟩) L.length c) (.slice (some ⟨b, off + j * 1, sp⟩) (L.length - j) (c - j), h) a.1.1 a.1.2.1 a.2)
              (fun k' (a : (Int × Int × Unit) × Heap) => ∃ (k2 : Nat), k2 = k' + 1 ∧ ∃ (kk : Nat) (X : List Int), a.1 = ((kk : Int), ((k2 : Int), ())) ∧ Ci L j k2 kk X ∧ Own a.2 ((b, Blk pre X rest) :: F))
              (fun r => ∃ (kk : Nat) (X : List Int), r.1 = ((kk : Int), ()) ∧ Ci L j (L.length - j) kk X ∧ Own r.2 ((b, Blk pre X rest) :: F)) (N := L.length - j - 1) (k := n) (j := 0) (a := (((j : Int), (1, ())), h)) (by omega) (by omega)
              (⟨1, rfl, j, L, rfl, ⟨rfl, fun _ _ => rfl, by omega, fun hi => by rw [hcj, he, cf_skip]; simp only [show j + 1 - 1 = j by omega, he]⟩, ho⟩)
              (fun k' a hk hi => by
                obtain ⟨⟨v10, v11, _⟩, h12⟩ := a
                · obtain ⟨k2, hkk2, kk, X, e0, hci, o12⟩ := hi
                  have hk1 : 1 ≤ k2 := by omega
                  have hk : k2 < L.length - j := by omega
                  cases e0
                  have o12 : Own h12 _ := o12
                  have hlen := hci.len
                  have hlt2 : (k2 : Int) < ((L.length - j : Nat) : Int) := by omega
                  have g1 := ix1 (b := b) (off := off + j * 1) (sp := sp) (c := c - j) (m := L.length - j) hk
                  have g2 := blk_ld (i := j + k2) (o := off + j * 1 + k2) hp o12 (by omega) (by omega)
                  have w2 := wrap_pred hk1 (by omega : k2 < 4611686018427387904)
                  have g3 := ix1 (b := b) (off := off + j * 1) (sp := sp) (c := c - j) (m := L.length - j) (i := k2 - 1) (by omega)
                  have g4 := blk_ld (i := j + k2 - 1) (o := off + j * 1 + (k2 - 1)) hp o12 (by omega) (by omega)
                  have x1 : X[j + k2]'(by omega) = L[j + k2] := by have := hci.drop (j + k2) (by omega); rw [List.getElem?_eq_getElem (by omega), List.getElem?_eq_getElem (by omega)] at this; exact Option.some.inj this
                  have x2 : X[j + k2 - 1]'(by omega) = L[j + k2 - 1] := by have := hci.drop (j + k2 - 1) (by omega); rw [List.getElem?_eq_getElem (by omega), List.getElem?_eq_getElem (by omega)] at this; exact Option.some.inj this
                  rw [x1] at g2
                  rw [x2] at g4
                  refine .inl ?_
                  by_cases hne : L[j + k2] = L[j + k2 - 1]
                  · exact ⟨(((kk : Int), (((k2 + 1 : Nat) : Int), ())), h12), by simp only [f_slices_Compact_int_int_L23, Go.Proofs.Ytkfdikcnpaechaa.lenB, Option.bind_some, hlt2, decide_true, cond_true, g1, g2, w2, g3, g4, hne, Bool.not_true, cond_false, wrap_succ (show k2 < 4611686018427387904 by omega)], ⟨k2 + 1, by omega, kk, X, rfl, hci.skip hk1 (by omega) hne, o12⟩⟩
                  · have hkk := hci.k
                    have g5 := ix1 (b := b) (off := off) (sp := sp) (c := c) (m := L.length) (i := kk) (by omega)
                    obtain ⟨h21, g6, o21⟩ := blk_st (i := kk) (o := off + kk) (z := L[j + k2]) hp o12 (by omega) rfl
                    exact ⟨((((kk + 1 : Nat) : Int), (((k2 + 1 : Nat) : Int), ())), h21), by simp only [f_slices_Compact_int_int_L23, Go.Proofs.Ytkfdikcnpaechaa.lenB, Option.bind_some, hlt2, decide_true, cond_true, g1, g2, w2, g3, g4, hne, decide_false, Bool.not_false, g5, g6, wrap_succ (show kk < 4611686018427387904 by omega), wrap_succ (show k2 < 4611686018427387904 by omega)], ⟨k2 + 1, by omega, kk + 1, _, rfl, hci.put hk1 (by omega) hne, o21⟩⟩
                )
              (fun a hi => by
                obtain ⟨⟨v10, v11, _⟩, h12⟩ := a
                obtain ⟨k2, hkk2, kk, X, e0, hci, o12⟩ := hi
                have hk2 : k2 = L.length - j := by omega
                rw [hk2] at e0 hci
                cases e0
                have hlt2 : ¬ ((L.length - j : Nat) : Int) < ((L.length - j : Nat) : Int) := by omega
                exact ⟨(((kk : Int), ()), h12), by simp only [f_slices_Compact_int_int_L23, Go.Proofs.Ytkfdikcnpaechaa.lenB, Option.bind_some, hlt2, decide_false, cond_false], kk, X, rfl, hci, o12⟩)
            obtain ⟨⟨v24, _⟩, h24⟩ := r
            cases r1
            have r3 : Own h24 _ := r3
            obtain ⟨d1, d2⟩ := r2.done (by omega) (by omega)
            have hXl := r2.len
            have p25 := sliceK_l (h := h24) (es := 1) (k' := .i64) (b := b) (off := off) (sp := sp) (n := L.length) (c := c) (j := kk) (by omega) c1
            have p26 := clearK_of (zs := [.int .i64 0]) (n := L.length - kk) (c := c - kk) (sp := sp) (off := off + kk * 1) r3.head (by simp; omega)
            have p27 := sliceK_h (h := h24.put b (.cells (writeAt (pre ++ (iz .i64 X ++ rest)) (off + kk * 1) (List.replicate (L.length - kk) [Value.int .i64 0]).flatten) false 1)) (es := 1) (k' := .i64) (b := b) (off := off) (sp := sp) (n := L.length) (c := c) (j := kk) (by omega)
            have hw : writeAt (pre ++ (iz .i64 X ++ rest)) (off + kk * 1) (List.replicate (L.length - kk) [Value.int .i64 0]).flatten = pre ++ (iz .i64 (X.take kk ++ List.replicate (L.length - kk) 0) ++ rest) := by
              have hz : (List.replicate (L.length - kk) [Value.int .i64 0]).flatten = iz .i64 (List.replicate (L.length - kk) 0) := by
                generalize L.length - kk = m
                induction m with
                | zero => rfl
                | succ m ih => rw [List.replicate_succ, List.flatten_cons, ih]; rfl
              rw [hz, Nat.mul_one, ← hp, writeAt_mid (by simp; omega), writeAt_eq _ _ _ (by simp; omega)]
              congr 2
              rw [List.drop_eq_nil_of_le (by simp; omega), List.append_nil, iz_append]
              simp [iz, List.map_take]
            rw [hw] at p26 p27
            refine ⟨((.slice (some ⟨b, off, sp⟩) kk c, ()), h24.put b (Blk pre (X.take kk ++ List.replicate (L.length - kk) 0) rest)), by simp only [f_slices_Compact_int_int_L30, Go.Proofs.Ytkfdikcnpaechaa.lenB, Option.bind_some, hlt, decide_true, cond_true, f_slices_Compact_int_int_C28, e1, e2, w1, e3, e4, he, p9, e, p25, p26, p27, isTuple, Bool.not_false, Option.map_some, thenB_inr], .slice (some ⟨b, off, sp⟩) kk c, [(b, Blk pre (X.take kk ++ List.replicate (L.length - kk) 0) rest)], rfl, ?_, r3.put _⟩
            have hk : (X.take kk).length = kk := by rw [List.length_take]; omega
            have := blk_slc (b := b) (sp := sp) (c := c) (rest := rest) (X := X.take kk ++ List.replicate (L.length - kk) 0) (i := kk) hp (by rw [List.length_append, hk]; omega) (by omega) (by rw [List.length_append, hk, List.length_replicate]; omega)
            rw [List.take_append_of_le_length (by omega), List.take_take, Nat.min_self] at this
            rwa [d1, hk]
          · refine .inl ⟨((((j + 1 : Nat) : Int), ()), h), by simp only [f_slices_Compact_int_int_L30, Go.Proofs.Ytkfdikcnpaechaa.lenB, Option.bind_some, hlt, decide_true, cond_true, f_slices_Compact_int_int_C28, e1, e2, w1, e3, e4, he, decide_false, cond_false, thenB_inl, wrap_succ (show j < 4611686018427387904 by omega)], ⟨j + 1, by omega, rfl, fun hj => ?_⟩⟩
            rw [hcj, cf_put he, take_snoc (by omega), List.append_assoc]
            simp
        )
      (fun a hi => by
        obtain ⟨j, hjj, rfl, hc⟩ := hi
        obtain rfl : j = L.length := by omega
        have hlt : ¬ (L.length : Int) < (L.length : Int) := by omega
        have hcj := hc (by omega)
        rw [List.drop_length, List.take_length] at hcj
        have hcl : compact L = L := by simpa [cf] using hcj
        exact ⟨((.slice (some ⟨b, off, sp⟩) L.length c, ()), h), by simp only [f_slices_Compact_int_int_L30, Go.Proofs.Ytkfdikcnpaechaa.lenB, Option.bind_some, hlt, decide_false, cond_false, isTuple, Bool.not_false, cond_true, Option.map_some], _, _, rfl, by rw [hcl]; exact hs, ho⟩)
    obtain ⟨⟨v, _⟩, h'⟩ := r
    cases hr
    have : ¬ ((L.length : Int) < 2) := by omega
    exact ⟨s', h', A', by simp only [f_slices_Compact_int_int, Go.Proofs.Ytkfdikcnpaechaa.lenB, Option.bind_some, this, decide_false, cond_false, e], q1, q2⟩
theorem clip_ok (hs : Slc 1 s L.length (iz .i64 L) A) : ∃ s', f_slices_Clip_int_int n s h = some ((s', ()), h) ∧ Slc 1 s' L.length (iz .i64 L) A := by
  rcases slc_blk hs with ⟨rfl, rfl, rfl⟩ | ⟨b, off, sp, c, pre, rest, rfl, rfl, hp, c1, c2⟩
  · exact ⟨_, rfl, .nil⟩
  · have e := sliceK_hm (h := h) (es := 1) (k := .i64) (k' := .i64) (b := b) (off := off) (sp := sp) (n := L.length) (c := c) (Nat.le_refl L.length) c1
    refine ⟨.slice (some ⟨b, off, some 0⟩) L.length L.length, by simp only [f_slices_Clip_int_int, Go.Proofs.Ytkfdikcnpaechaa.lenB, Option.bind_some, e, isTuple, Bool.not_false, cond_true], ?_⟩
    have := blk_slc (b := b) (sp := some 0) (c := L.length) (rest := rest) (X := L) (i := L.length) hp (Nat.le_refl _) (Nat.le_refl _) (by omega)
    rwa [List.take_length] at this
theorem rising_ok (hr : Sow 1 s L.length (iz .i64 L) G) (ho : Own h (G ++ F)) (hn : L.length + 2 ≤ n) (hl : L.length * 8 ≤ 140737488355328) :
    ∃ s' h' A', f_blocks_rising n s h = some ((s', ()), h') ∧ Slc 1 s' (form L).length (iz .i64 (form L)) A' ∧ Own h' (A' ++ (G ++ F)) := by
  obtain ⟨s0, h0, A0, e0, y0, o0⟩ := cloneI_ok (n := n) hr ho hl
  obtain ⟨h1, A1, e1, y1, o1⟩ := sort_ok (n := n) y0 o0 (by omega)
  have y1 : Slc 1 s0 (isort L).length (iz .i64 (isort L)) A1 := by rw [isort_length]; exact y1
  obtain ⟨s2, h2, A2, e2, y2, o2⟩ := compact_ok (n := n) y1 o1 (by rw [isort_length]; exact hn) (by rw [isort_length]; omega)
  obtain ⟨s3, e3, y3⟩ := clip_ok (n := n) (h := h2) y2
  exact ⟨s3, h2, A2, by simp only [f_blocks_rising, e0, Option.bind_some, e1, e2, e3, y3.notT, Bool.not_false, cond_true], y3, o2⟩
theorem take_mem_snoc {j : Nat} (hj : j < L.length) : t ∈ L.take (j + 1) ↔ t ∈ L.take j ∨ t = L[j] := by
  rw [take_snoc hj, List.mem_append, List.mem_singleton]
theorem same5_ok (hr : Rds h 1 s L.length (iz .i64 L)) (hr2 : Rds h 1 u L.length (iz .i64 L)) (hn : L.length + 1 ≤ n) (hl : L.length < 4611686018427387904) : f_wicketref05_Same n s u h = some ((true, ()), h) := by
  obtain ⟨r, e, q⟩ := loopT_up (f := fun a => f_wicketref05_Same_L9 n u s a.1.1 a.2)
    (fun j (a : (Int × Unit) × Heap) => a = (((j : Int), ()), h)) (fun r => r = ((true, ()), h)) (N := L.length) (k := n) (j := 0) (a := ((0, ()), h)) (by omega) (by omega) rfl
    (fun j a hj hi => by
      subst hi
      have hlt : (j : Int) < (L.length : Int) := by omega
      obtain ⟨q, e1, e2⟩ := hr.int hj
      obtain ⟨q', e3, e4⟩ := hr2.int hj
      exact .inl ⟨_, by simp only [f_wicketref05_Same_L9, hr.lenB, hlt, decide_true, cond_true, e1, e2, e3, e4, Option.bind_some, Bool.not_true, cond_false, wrap_succ (show j < 4611686018427387904 by omega)], rfl⟩)
    (fun a hi => by
      subst hi
      have hlt : ¬ (L.length : Int) < (L.length : Int) := by omega
      exact ⟨_, by simp only [f_wicketref05_Same_L9, hr.lenB, Option.bind_some, hlt, decide_false, cond_false], rfl⟩)
  simp only [f_wicketref05_Same, hr.lenB, hr2.lenB, Option.bind_some, decide_true, Bool.not_true, cond_false, e, q]

theorem turn_blk (hp : pre.length = off) (ho : Own h ((b, Blk pre L rest) :: F)) (hn : L.length + 2 ≤ n) (hl : L.length < 4611686018427387904) :
    ∃ h' X, f_wicketlaw05_turn n (.slice (some ⟨b, off, sp⟩) L.length c) h = some ((), h') ∧ X.length = L.length ∧ (∀ x ∈ X, x ∈ L) ∧ Own h' ((b, Blk pre X rest) :: F) := by
  have hd : IntKind.i64.wrap (Int.tdiv (L.length : Int) 2) = ((L.length / 2 : Nat) : Int) := by
    rw [show Int.tdiv (L.length : Int) 2 = ((L.length / 2 : Nat) : Int) from rfl, wrap_i64 (by omega) (by omega)]
  obtain ⟨⟨u, h1⟩, e, X, q1, q2, q3⟩ := loopT_up (f := fun a => f_wicketlaw05_turn_L13 n (.slice (some ⟨b, off, sp⟩) L.length c) a.1.1 a.2)
    (fun j (a : (Int × Unit) × Heap) => a.1 = ((j : Int), ()) ∧ ∃ X : List Int, X.length = L.length ∧ (∀ x ∈ X, x ∈ L) ∧ Own a.2 ((b, Blk pre X rest) :: F))
    (fun r => ∃ X : List Int, X.length = L.length ∧ (∀ x ∈ X, x ∈ L) ∧ Own r.2 ((b, Blk pre X rest) :: F)) (N := L.length / 2) (k := n) (j := 0) (a := ((0, ()), h)) (by omega) (by omega) ⟨rfl, L, rfl, fun _ h => h, ho⟩
    (fun j a hj hi => by
      obtain ⟨⟨v, _⟩, h1⟩ := a
      obtain ⟨e0, X, x1, x2, o1⟩ := hi
      cases e0
      have o1 : Own h1 _ := o1
      have hlt : (j : Int) < ((L.length / 2 : Nat) : Int) := by omega
      have w1 := wrap_pred (j := L.length) (by omega) hl
      have w2 : IntKind.i64.wrap (((L.length - 1 : Nat) : Int) - (j : Int)) = ((L.length - 1 - j : Nat) : Int) := by rw [wrap_i64 (by omega) (by omega)]; omega
      have g1 := ix1 (b := b) (off := off) (sp := sp) (c := c) (m := L.length) (i := L.length - 1 - j) (by omega)
      have g2 := blk_ld (i := L.length - 1 - j) hp o1 (by omega) rfl
      have g3 := ix1 (b := b) (off := off) (sp := sp) (c := c) (m := L.length) (i := j) (by omega)
      have g4 := blk_ld (i := j) hp o1 (by omega) rfl
      obtain ⟨h2, g5, o2⟩ := blk_st (i := j) (z := X[L.length - 1 - j]'(by omega)) hp o1 (by omega) rfl
      obtain ⟨h3, g6, o3⟩ := blk_st (i := L.length - 1 - j) (z := X[j]'(by omega)) hp o2 (by simp; omega) rfl
      refine .inl ⟨((((j + 1 : Nat) : Int), ()), h3), by simp only [f_wicketlaw05_turn_L13, Go.Proofs.Ytkfdikcnpaechaa.lenB, Option.bind_some, hd, hlt, decide_true, cond_true, w1, w2, g1, g2, g3, g4, g5, g6, wrap_succ (show j < 4611686018427387904 by omega)], rfl, _, ?_, ?_, o3⟩
      · simp [x1]
      · intro x hx
        rcases List.mem_or_eq_of_mem_set hx with hx | rfl
        · rcases List.mem_or_eq_of_mem_set hx with hx | rfl
          · exact x2 x hx
          · exact x2 _ (List.getElem_mem _)
        · exact x2 _ (List.getElem_mem _))
    (fun a hi => by
      obtain ⟨⟨v, _⟩, h1⟩ := a
      obtain ⟨e0, X, x1, x2, o1⟩ := hi
      cases e0
      have hlt : ¬ ((L.length / 2 : Nat) : Int) < ((L.length / 2 : Nat) : Int) := by omega
      exact ⟨((), h1), by simp only [f_wicketlaw05_turn_L13, Go.Proofs.Ytkfdikcnpaechaa.lenB, Option.bind_some, hd, hlt, decide_false, cond_false], X, x1, x2, o1⟩)
  have q3 : Own h1 _ := q3
  by_cases h0 : L.length = 0
  · have : ¬ (0 : Int) < (L.length : Int) := by omega
    exact ⟨h1, X, by simp only [f_wicketlaw05_turn, e, Option.bind_some, Go.Proofs.Ytkfdikcnpaechaa.lenB, this, decide_false, cond_false], q1, q2, q3⟩
  · have h3 : (0 : Int) < (L.length : Int) := by omega
    have w1 := wrap_pred (j := L.length) (by omega) hl
    have g1 := ix1 (b := b) (off := off) (sp := sp) (c := c) (m := L.length) (i := L.length - 1) (by omega)
    have g2 := blk_ld (i := L.length - 1) hp q3 (by omega) rfl
    have g3 : ixB 1 (.slice (some ⟨b, off, sp⟩) L.length c) 0 = some ⟨b, off + 0, none⟩ := ix1 (i := 0) (by omega)
    obtain ⟨h2, g5, o2⟩ := blk_st (i := 0) (z := X[L.length - 1]'(by omega)) hp q3 (by omega) rfl
    refine ⟨h2, _, by simp only [f_wicketlaw05_turn, e, Option.bind_some, Go.Proofs.Ytkfdikcnpaechaa.lenB, h3, decide_true, cond_true, w1, g1, g2, g3, g5], by simp [q1], fun x hx => ?_, o2⟩
    rcases List.mem_or_eq_of_mem_set hx with hx | rfl
    · exact q2 x hx
    · exact q2 _ (List.getElem_mem _)
end
end Go.Proofs.Ytkfdikcnpaechaa

/- The one form of a declared set, as the program finds it. -/
namespace Go.Proofs.Ytkfdikcnpaechaa
open Go
set_option linter.unusedVariables false
set_option linter.unusedSimpArgs false
/-- Bounds that may not be. -/
def badB (b m : Int) : Bool := decide (b < 1) || (decide (64 < b) || (decide (m < 1) || (decide (16 < m) || decide (b < m))))
/-- What Form answers: the form, the error. -/
def formE (L : List Int) (b m : Int) : List Int × Int :=
  if badB b m = true then ([], 2) else if L = [] then ([], 50) else if ∃ x ∈ L, x < 0 ∨ b ≤ x then ([], 51) else if m < ((form L).length : Int) then ([], 52) else (form L, 0)
theorem formE_len {L : List Int} {b m : Int} : (formE L b m).1.length ≤ L.length := by
  unfold formE
  split
  · exact Nat.zero_le _
  split
  · exact Nat.zero_le _
  split
  · exact Nat.zero_le _
  split
  · exact Nat.zero_le _
  · exact form_len
section
variable {n : Nat} {s u : Value} {L X Y : List Int} {b m t z : Int} {h : Heap} {G F A B : Ch} {cs pre rest : List Value}
theorem guard5 : ((bif (decide (b < 1)) then (some ((true, ()), h)) else (bif (decide (64 < b)) then (some ((true, ()), h)) else (bif (decide (m < 1)) then (some ((true, ()), h)) else (bif (decide (16 < m)) then (some ((true, ()), h)) else (some (((decide (b < m)), ()), h)))))) : Option ((Bool × Unit) × Heap)) = some ((badB b m, ()), h) := by
  unfold badB
  cases decide (b < 1) <;> cases decide (64 < b) <;> cases decide (m < 1) <;> cases decide (16 < m) <;> rfl
theorem form_out (h0 : L ≠ []) (hf : 0 < (form L).length) : ((form L)[0] < 0 ∨ b ≤ (form L)[(form L).length - 1]) ↔ ∃ x ∈ L, x < 0 ∨ b ≤ x := by
  constructor
  · rintro (h | h)
    · exact ⟨_, form_mem.1 (List.getElem_mem _), .inl h⟩
    · exact ⟨_, form_mem.1 (List.getElem_mem _), .inr h⟩
  · rintro ⟨x, hx, h⟩
    obtain ⟨i, hi, rfl⟩ := List.mem_iff_getElem.1 (form_mem.2 hx)
    rcases h with h | h
    · left
      by_cases h1 : i = 0
      · subst h1; exact h
      · have := lt_first (form_lt (L := L)) (by omega : 0 < i) hi; omega
    · right
      by_cases h1 : i = (form L).length - 1
      · subst h1; exact h
      · have := lt_first (form_lt (L := L)) (by omega : i < (form L).length - 1) (by omega); omega
theorem bform_ok (hr : Sow 1 s L.length (iz .i64 L) G) (ho : Own h (G ++ F)) (hn : L.length + 2 ≤ n) (hl : L.length * 8 ≤ 140737488355328) :
    ∃ v h' A', f_blocks_Form n s b m h = some ((v, ((formE L b m).2, ())), h') ∧ Slc 1 v (formE L b m).1.length (iz .i64 (formE L b m).1) A' ∧ Own h' (A' ++ (G ++ F)) := by
  have hlb := (hr.rds ho).lenB
  cases hg : badB b m with
  | true => exact ⟨.slice none 0 0, h, [], by simp only [f_blocks_Form, guard5, Option.bind_some, hg, cond_true, formE, if_true], by simp only [formE, hg, if_true]; exact .nil, ho⟩
  | false =>
    by_cases h0 : L = []
    · subst h0
      exact ⟨.slice none 0 0, h, [], by simp only [f_blocks_Form, guard5, Option.bind_some, hg, cond_false, hlb, show ((([] : List Int).length : Nat) : Int) = 0 from rfl, decide_true, cond_true, formE, hg, if_true, Bool.false_eq_true, if_false], by simp only [formE, hg, Bool.false_eq_true, if_false, if_true]; exact .nil, ho⟩
    · have h1 : ¬ ((L.length : Int) = 0) := by
        have := List.length_pos_iff.2 h0; omega
      obtain ⟨v, h2, A2, e2, y2, o2⟩ := rising_ok (n := n) hr ho hn hl
      have hf : 0 < (form L).length := List.length_pos_iff.2 fun e => h0 (form_nil.1 e)
      obtain ⟨q3, e3, e4⟩ := (y2.rds o2).int (i := 0) hf
      obtain ⟨q6, e6, e7⟩ := (y2.rds o2).int (i := (form L).length - 1) (by omega)
      have hfl := form_len (L := L)
      have w1 := wrap_pred (j := (form L).length) (by omega) (by omega)
      have hout := form_out (b := b) h0 hf
      have e3 : ixB 1 v 0 = some q3 := e3
      have ho2 : Own h2 (G ++ F) := o2.right
      by_cases hx : ∃ x ∈ L, x < 0 ∨ b ≤ x
      · refine ⟨.slice none 0 0, h2, [], ?_, by simp only [formE, hg, h0, hx, Bool.false_eq_true, if_false, if_true]; exact .nil, ho2⟩
        by_cases h3 : (form L)[0] < 0
        · simp only [f_blocks_Form, guard5, Option.bind_some, hg, cond_false, hlb, h1, decide_false, e2, e3, e4, h3, decide_true, cond_true, formE, h0, hx, Bool.false_eq_true, if_false, if_true]
        · have h4 : b ≤ (form L)[(form L).length - 1] := (hout.2 hx).resolve_left h3
          simp only [f_blocks_Form, guard5, Option.bind_some, hg, cond_false, hlb, h1, decide_false, e2, e3, e4, h3, y2.lenB, w1, e6, e7, h4, decide_true, cond_true, formE, h0, hx, Bool.false_eq_true, if_false, if_true]
      · have h3 : ¬ (form L)[0] < 0 := fun h => hx (hout.1 (.inl h))
        have h4 : ¬ b ≤ (form L)[(form L).length - 1] := fun h => hx (hout.1 (.inr h))
        by_cases h5 : m < ((form L).length : Int)
        · exact ⟨.slice none 0 0, h2, [], by simp only [f_blocks_Form, guard5, Option.bind_some, hg, cond_false, hlb, h1, decide_false, e2, e3, e4, h3, y2.lenB, w1, e6, e7, h4, h5, decide_true, cond_true, formE, h0, hx, Bool.false_eq_true, if_false, if_true], by simp only [formE, hg, h0, hx, h5, Bool.false_eq_true, if_false, if_true]; exact .nil, ho2⟩
        · exact ⟨v, h2, A2, by simp only [f_blocks_Form, guard5, Option.bind_some, hg, cond_false, hlb, h1, decide_false, e2, e3, e4, h3, y2.lenB, w1, e6, e7, h4, h5, y2.notT, Bool.not_false, cond_true, formE, h0, hx, Bool.false_eq_true, if_false], by simp only [formE, hg, h0, hx, h5, Bool.false_eq_true, if_false]; exact y2, o2⟩
end
end Go.Proofs.Ytkfdikcnpaechaa

/- Membership, what stands in both, the next one: as the program finds it. -/
namespace Go.Proofs.Ytkfdikcnpaechaa
open Go
set_option linter.unusedVariables false
set_option linter.unusedSimpArgs false
section
variable {n m b off i j c : Nat} {sp : Option Nat} {s u : Value} {L M X Y : List Int} {t z : Int} {h : Heap} {G F A B : Ch} {cs pre rest : List Value} {p : Nat}
def Good (L : List Int) : Prop := 1 ≤ L.length ∧ L.length ≤ 16 ∧ (∀ h : 0 < L.length, 0 ≤ L[0]) ∧ (∀ h : 0 < L.length, L[L.length - 1] < 64) ∧ ∀ j, 1 ≤ j → (h : j < L.length) → L[j - 1] < L[j]
noncomputable def isB (L : List Int) : Bool := by classical exact decide (Good L)
theorem isB_true (h : Good L) : isB L = true := by simp [isB, h]
theorem isB_false (h : ¬ Good L) : isB L = false := by simp [isB, h]
theorem index_ok (hr : Rds h 1 s L.length (iz .i64 L)) (hn : L.length + 1 ≤ n) (hl : L.length < 4611686018427387904) :
    ∃ z : Int, f_slices_Index_int_int n s t h = some ((z, ()), h) ∧ (0 ≤ z ↔ t ∈ L) := by
  obtain ⟨⟨⟨z, _⟩, h'⟩, e, q1, q2⟩ := loopT_up (f := fun a => f_slices_Index_int_int_L5 n t s L.length a.1.1 a.2)
    (fun j (a : (Int × Unit) × Heap) => a = (((j : Int), ()), h) ∧ ¬ t ∈ L.take j) (fun r => r.2 = h ∧ (0 ≤ r.1.1 ↔ t ∈ L)) (N := L.length) (k := n) (j := 0) (a := ((0, ()), h)) (by omega) (by omega) ⟨rfl, by simp⟩
    (fun j a hj hi => by
      obtain ⟨rfl, hi⟩ := hi
      have hlt : (j : Int) < (L.length : Int) := by omega
      obtain ⟨q, e1, e2⟩ := hr.int hj
      by_cases hc : t = L[j]
      · refine .inr ⟨(((j : Int), ()), h), by simp only [f_slices_Index_int_int_L5, hlt, decide_true, cond_true, e1, e2, Option.bind_some, hc], rfl, ?_⟩
        exact ⟨fun _ => hc ▸ List.getElem_mem hj, fun _ => by simp only; omega⟩
      · refine .inl ⟨_, by simp only [f_slices_Index_int_int_L5, hlt, decide_true, cond_true, e1, e2, Option.bind_some, hc, decide_false, cond_false, wrap_succ (show j < 4611686018427387904 by omega)], rfl, ?_⟩
        rw [take_mem_snoc hj]
        exact fun h => h.elim hi hc)
    (fun a hi => by
      obtain ⟨rfl, hi⟩ := hi
      have hlt : ¬ (L.length : Int) < (L.length : Int) := by omega
      rw [List.take_length] at hi
      exact ⟨((-1, ()), h), by simp only [f_slices_Index_int_int_L5, hlt, decide_false, cond_false], rfl, ⟨fun h => by simp only at h; omega, fun h => absurd h hi⟩⟩)
  have q1 : h' = h := q1
  subst q1
  exact ⟨z, by simp only [f_slices_Index_int_int, hr.lenB, Option.bind_some, e], q2⟩
theorem has_ok (hr : Rds h 1 s L.length (iz .i64 L)) (hn : L.length + 1 ≤ n) (hl : L.length < 4611686018427387904) : f_blocks_Has n s t h = some ((decide (t ∈ L), ()), h) := by
  obtain ⟨z, e, hz⟩ := index_ok (n := n) (t := t) hr hn hl
  simp only [f_blocks_Has, f_slices_Contains_int_int, e, Option.bind_some, hz]
def Ris (L : List Int) (j : Nat) : Prop := ∀ i, 1 ≤ i → (h : i < L.length) → i < j → L[i - 1] < L[i]
theorem is_ok (hr : Rds h 1 s L.length (iz .i64 L)) (hn : 100 ≤ n) : f_blocks_Is n s h = some ((isB L, ()), h) := by
  by_cases h1 : (L.length : Int) < 1
  · rw [isB_false (fun g => by have := g.1; omega)]
    simp only [f_blocks_Is, hr.lenB, Option.bind_some, h1, decide_true, cond_true]
  by_cases h2 : 16 < (L.length : Int)
  · rw [isB_false (fun g => by have := g.2.1; omega)]
    simp only [f_blocks_Is, hr.lenB, Option.bind_some, h1, h2, decide_true, decide_false, cond_true, cond_false]
  have hl0 : 0 < L.length := by omega
  obtain ⟨q0, e1, e2⟩ := hr.int hl0
  by_cases h3 : L[0] < 0
  · rw [isB_false (fun g => by have := g.2.2.1 hl0; omega)]
    have e1 : ixB 1 s 0 = some q0 := e1
    simp only [f_blocks_Is, hr.lenB, Option.bind_some, h1, h2, e1, e2, h3, decide_true, decide_false, cond_true, cond_false]
  obtain ⟨q1, e3, e4⟩ := hr.int (i := L.length - 1) (by omega)
  have hw : IntKind.i64.wrap ((L.length : Int) - 1) = ((L.length - 1 : Nat) : Int) := by rw [wrap_i64 (by omega) (by omega)]; omega
  have e1 : ixB 1 s 0 = some q0 := e1
  by_cases h4 : 64 ≤ L[L.length - 1]
  · rw [isB_false (fun g => by have := g.2.2.2.1 hl0; omega)]
    simp only [f_blocks_Is, hr.lenB, Option.bind_some, h1, h2, e1, e2, h3, hw, e3, e4, h4, decide_true, decide_false, cond_true, cond_false]
  obtain ⟨r, e, q⟩ := loopT_up (f := fun a => f_blocks_Is_L15 n s a.1.1 a.2)
    (fun j (a : (Int × Unit) × Heap) => a = ((((j + 1 : Nat) : Int), ()), h) ∧ Ris L (j + 1)) (fun r => r = ((isB L, ()), h)) (N := L.length - 1) (k := n) (j := 0) (a := ((1, ()), h)) (by omega) (by omega) ⟨rfl, fun i h1 _ h2 => by omega⟩
    (fun j a hj hi => by
      obtain ⟨rfl, hi⟩ := hi
      have hlt : ((j + 1 : Nat) : Int) < (L.length : Int) := by omega
      obtain ⟨q, f1, f2⟩ := hr.int (i := j + 1) (by omega)
      obtain ⟨q', f3, f4⟩ := hr.int (i := j) (by omega)
      have hw1 : IntKind.i64.wrap (((j + 1 : Nat) : Int) - 1) = (j : Int) := by rw [wrap_i64 (by omega) (by omega)]; omega
      by_cases hc : L[j + 1] ≤ L[j]
      · refine .inr ⟨((false, ()), h), by simp only [f_blocks_Is_L15, hr.lenB, hlt, decide_true, cond_true, f1, f2, hw1, f3, f4, Option.bind_some, hc], ?_⟩
        rw [isB_false (fun g => by have := g.2.2.2.2 (j + 1) (by omega) (by omega); simp only [Nat.add_sub_cancel] at this; omega)]
      · refine .inl ⟨_, by simp only [f_blocks_Is_L15, hr.lenB, hlt, decide_true, cond_true, f1, f2, hw1, f3, f4, Option.bind_some, hc, decide_false, cond_false, wrap_succ (show j + 1 < 4611686018427387904 by omega)], rfl, fun i g1 g2 g3 => ?_⟩
        by_cases hij : i < j + 1
        · exact hi i g1 g2 hij
        · obtain rfl : i = j + 1 := by omega
          simp only [Nat.add_sub_cancel]; omega)
    (fun a hi => by
      obtain ⟨rfl, hi⟩ := hi
      have he : L.length - 1 + 1 = L.length := by omega
      rw [he] at hi ⊢
      have hlt : ¬ (L.length : Int) < (L.length : Int) := by omega
      refine ⟨((true, ()), h), by simp only [f_blocks_Is_L15, hr.lenB, Option.bind_some, hlt, decide_false, cond_false], ?_⟩
      rw [isB_true ⟨by omega, by omega, fun _ => by omega, fun _ => by omega, fun j g1 g2 => hi j g1 g2 g2⟩])
  simp only [f_blocks_Is, hr.lenB, Option.bind_some, h1, h2, e1, e2, h3, hw, e3, e4, h4, decide_false, cond_false, e, q]
/-- The list's tail is cleared. -/
theorem clear_tail {kk : Nat} (hp : pre.length = off) (ho : Own h ((b, Blk pre X rest) :: F)) (hk : kk ≤ X.length) (c1 : X.length ≤ c) (c2 : c ≤ X.length + rest.length) :
    ∃ h', clearK h [.int .i64 0] (.slice (some ⟨b, off + kk * 1, sp⟩) (X.length - kk) (c - kk)) = some (.tuple #[], h') ∧ Own h' ((b, Blk pre (X.take kk ++ List.replicate (X.length - kk) 0) rest) :: F) ∧
      Slc 1 (.slice (some ⟨b, off, sp⟩) kk c) kk (iz .i64 (X.take kk)) [(b, Blk pre (X.take kk ++ List.replicate (X.length - kk) 0) rest)] := by
  have p26 := clearK_of (zs := [.int .i64 0]) (n := X.length - kk) (c := c - kk) (sp := sp) (off := off + kk * 1) ho.head (by simp; omega)
  have hw : writeAt (pre ++ (iz .i64 X ++ rest)) (off + kk * 1) (List.replicate (X.length - kk) [Value.int .i64 0]).flatten = pre ++ (iz .i64 (X.take kk ++ List.replicate (X.length - kk) 0) ++ rest) := by
    have hz : (List.replicate (X.length - kk) [Value.int .i64 0]).flatten = iz .i64 (List.replicate (X.length - kk) 0) := by
      generalize X.length - kk = m
      induction m with
      | zero => rfl
      | succ m ih => rw [List.replicate_succ, List.flatten_cons, ih]; rfl
    rw [hz, Nat.mul_one, ← hp, writeAt_mid (by simp; omega), writeAt_eq _ _ _ (by simp; omega)]
    congr 2
    rw [List.drop_eq_nil_of_le (by simp; omega), List.append_nil, iz_append]
    simp [iz, List.map_take]
  rw [hw] at p26
  refine ⟨_, p26, ho.put _, ?_⟩
  have hk2 : (X.take kk).length = kk := by rw [List.length_take]; omega
  have := blk_slc (b := b) (sp := sp) (c := c) (rest := rest) (X := X.take kk ++ List.replicate (X.length - kk) 0) (i := kk) hp (by rw [List.length_append, hk2]; omega) (by omega) (by rw [List.length_append, hk2, List.length_replicate]; omega)
  rwa [List.take_append_of_le_length (by omega), List.take_take, Nat.min_self] at this
/-- What is asked of an element that may stay. -/
theorem both1_ok {x : Int} {k : Nat} (ho : Own h ((p, .cells [u] false 0) :: F)) (hr : Rds h 1 u M.length (iz .i64 M)) (hn : M.length + 1 ≤ n) (hl : M.length < 4611686018427387904) : f_blocks_Both_1 n x (some ⟨p, 0, none⟩) h = some ((!decide (x ∈ M), ()), h) := by
  have l : ldT .any h (some ⟨p, 0, none⟩) = some u := by rw [ldT_of ho.head]; rfl
  simp only [f_blocks_Both_1, l, Option.bind_some, has_ok hr hn hl]
/-- What stays. -/
def keepL (L M : List Int) : List Int := L.filter fun x => decide (x ∈ M)
theorem keepL_snoc (hj : j < L.length) : keepL (L.take (j + 1)) M = keepL (L.take j) M ++ (if L[j] ∈ M then [L[j]] else []) := by
  rw [take_snoc hj, keepL, List.filter_append, keepL]
  congr 1
  by_cases h : L[j] ∈ M <;> simp [h]
theorem keepL_all (h : ∀ x ∈ L, x ∈ M) : keepL L M = L := List.filter_eq_self.2 fun x hx => by simp [h x hx]
theorem indexFunc_ok (hr0 : Rds h 1 s L.length (iz .i64 L)) (ho : Own h ((p, .cells [u] false 0) :: F)) (hr : Rds h 1 u M.length (iz .i64 M)) (hn : M.length + 1 ≤ n) (hn2 : L.length + 2 ≤ n) (hl : M.length < 4611686018427387904) (hl2 : L.length < 4611686018427387904) :
    ∃ z : Int, f_slices_IndexFunc_int_int n s (some ⟨p, 0, none⟩, ()) h = some ((z, ()), h) ∧ ((z = -1 ∧ ∀ x ∈ L, x ∈ M) ∨ ∃ (i : Nat) (hi : i < L.length), z = (i : Int) ∧ ¬ L[i] ∈ M ∧ ∀ x ∈ L.take i, x ∈ M) := by
  obtain ⟨r, e, z, rfl, q⟩ := loopT_up (f := fun a => f_slices_IndexFunc_int_int_L6 n (some ⟨p, 0, none⟩, ()) s L.length a.1.1 a.2)
    (fun j (a : (Int × Unit) × Heap) => a = (((j : Int), ()), h) ∧ ∀ x ∈ L.take j, x ∈ M)
    (fun r => ∃ z : Int, r = ((z, ()), h) ∧ ((z = -1 ∧ ∀ x ∈ L, x ∈ M) ∨ ∃ (i : Nat) (hi : i < L.length), z = (i : Int) ∧ ¬ L[i] ∈ M ∧ ∀ x ∈ L.take i, x ∈ M)) (N := L.length) (k := n) (j := 0) (a := ((0, ()), h)) (by omega) (by omega) ⟨rfl, by simp⟩
    (fun j a hj hi => by
      obtain ⟨rfl, hi⟩ := hi
      have hlt : (j : Int) < (L.length : Int) := by omega
      obtain ⟨q, e1, e2⟩ := hr0.int hj
      have e3 := both1_ok (n := n) (x := L[j]) (k := 0) ho hr hn hl
      by_cases hm : L[j] ∈ M
      · refine .inl ⟨((((j + 1 : Nat) : Int), ()), h), by simp only [f_slices_IndexFunc_int_int_L6, hlt, decide_true, cond_true, e1, e2, Option.bind_some, e3, hm, Bool.not_true, cond_false, wrap_succ (show j < 4611686018427387904 by omega)], rfl, fun x hx => ?_⟩
        rw [take_snoc hj, List.mem_append, List.mem_singleton] at hx
        exact hx.elim (hi x) fun e => e ▸ hm
      · exact .inr ⟨(((j : Int), ()), h), by simp only [f_slices_IndexFunc_int_int_L6, hlt, decide_true, cond_true, e1, e2, Option.bind_some, e3, hm, decide_false, Bool.not_false], _, rfl, .inr ⟨j, hj, rfl, hm, hi⟩⟩)
    (fun a hi => by
      obtain ⟨rfl, hi⟩ := hi
      rw [List.take_length] at hi
      have hlt : ¬ (L.length : Int) < (L.length : Int) := by omega
      exact ⟨((-1, ()), h), by simp only [f_slices_IndexFunc_int_int_L6, hlt, decide_false, cond_false], _, rfl, .inl ⟨rfl, hi⟩⟩)
  exact ⟨z, by simp only [f_slices_IndexFunc_int_int, hr0.lenB, Option.bind_some, e], q⟩
theorem deleteFunc_ok (hs : Slc 1 s L.length (iz .i64 L) A) (hb : Sow 1 u M.length (iz .i64 M) G) (ho : Own h (A ++ ((p, .cells [u] false 0) :: (G ++ F)))) (hn : M.length + 1 ≤ n) (hn2 : L.length + 2 ≤ n) (hl : M.length < 4611686018427387904) (hl2 : L.length < 4611686018427387904) :
    ∃ s' h' A', f_slices_DeleteFunc_int_int n s (some ⟨p, 0, none⟩, ()) h = some ((s', ()), h') ∧ Slc 1 s' (keepL L M).length (iz .i64 (keepL L M)) A' ∧ Own h' (A' ++ ((p, .cells [u] false 0) :: (G ++ F))) := by
  obtain ⟨z, e, q⟩ := indexFunc_ok (n := n) (hs.rds ho) (u := u) (p := p) (M := M) (F := A ++ (G ++ F)) (ho.to fun x => by simp only [cnt_append, cnt_cons]; omega) (hb.rds (F := A ++ ((p, .cells [u] false 0) :: F)) (ho.to fun x => by simp only [cnt_append, cnt_cons]; omega)) hn hn2 hl hl2
  rcases q with ⟨rfl, hall⟩ | ⟨i, hi, rfl, hni, hall⟩
  · exact ⟨s, h, A, by simp only [f_slices_DeleteFunc_int_int, e, Option.bind_some, decide_true, cond_true, hs.notT, Bool.not_false], by rw [keepL_all hall]; exact hs, ho⟩
  · rcases slc_blk hs with ⟨_, rfl, _⟩ | ⟨b, off, sp, c, pre, rest, rfl, rfl, hp, c1, c2⟩
    · exact absurd hi (by simp)
    have hne : ¬ ((i : Int) = -1) := by omega
    obtain ⟨⟨⟨v, _⟩, h12⟩, e12, kk, X, x0, x1, x2, x3, o12⟩ := loopT_up (f := fun a => f_slices_DeleteFunc_int_int_L11 n (some ⟨p, 0, none⟩, ()) (.slice (some ⟨b, off, sp⟩) L.length c) a.1.1 a.1.2.1 a.2)
      (fun k' (a : (Int × Int × Unit) × Heap) => ∃ (j : Nat), j = k' + (i + 1) ∧ ∃ (kk : Nat) (X : List Int), a.1 = ((kk : Int), ((j : Int), ())) ∧ X.length = L.length ∧ (∀ i, j ≤ i → X[i]? = L[i]?) ∧ kk < j ∧ X.take kk = keepL (L.take j) M ∧ Own a.2 ((b, Blk pre X rest) :: ((p, .cells [u] false 0) :: (G ++ F))))
      (fun r => ∃ (kk : Nat) (X : List Int), r.1 = ((kk : Int), ()) ∧ X.length = L.length ∧ kk ≤ L.length ∧ X.take kk = keepL L M ∧ Own r.2 ((b, Blk pre X rest) :: ((p, .cells [u] false 0) :: (G ++ F)))) (N := L.length - (i + 1)) (k := n) (j := 0) (a := (((i : Int), (((i + 1 : Nat) : Int), ())), h)) (by omega) (by omega)
      ⟨i + 1, by omega, i, L, rfl, rfl, fun _ _ => rfl, by omega, by rw [keepL_snoc hi, if_neg hni, List.append_nil, keepL_all hall], ho⟩
      (fun k' a hk hi' => by
        obtain ⟨⟨v1, v2, _⟩, h3⟩ := a
        obtain ⟨j, hj, kk, X, e0, x1, x2, x3, x4, o3⟩ := hi'
        cases e0
        have o3 : Own h3 _ := o3
        have hjl : j < L.length := by omega
        have hlt : (j : Int) < (L.length : Int) := by omega
        have g1 := ix1 (b := b) (off := off) (sp := sp) (c := c) hjl
        have g2 := blk_ld (i := j) hp o3 (by omega) rfl
        have hxj : X[j]'(by omega) = L[j] := by have := x2 j (Nat.le_refl _); rw [List.getElem?_eq_getElem (by omega), List.getElem?_eq_getElem (by omega)] at this; exact Option.some.inj this
        rw [hxj] at g2
        have e3 := both1_ok (n := n) (x := L[j]) (k := 0) (p := p) (u := u) (M := M) (h := h3) (F := (b, Blk pre X rest) :: (G ++ F)) (o3.to fun x => by simp only [cnt_append, cnt_cons]; omega) (hb.rds (F := (b, Blk pre X rest) :: ((p, .cells [u] false 0) :: F)) (o3.to fun x => by simp only [cnt_append, cnt_cons]; omega)) hn hl
        refine .inl ?_
        by_cases hm : L[j] ∈ M
        · have g5 := ix1 (b := b) (off := off) (sp := sp) (c := c) (m := L.length) (i := kk) (by omega)
          obtain ⟨h9, g6, o9⟩ := blk_st (i := kk) (o := off + kk) (z := L[j]) hp o3 (by omega) rfl
          refine ⟨((((kk + 1 : Nat) : Int), (((j + 1 : Nat) : Int), ())), h9), by simp only [f_slices_DeleteFunc_int_int_L11, Go.Proofs.Ytkfdikcnpaechaa.lenB, Option.bind_some, hlt, decide_true, cond_true, g1, g2, e3, hm, Bool.not_true, Bool.not_false, g5, g6, wrap_succ (show kk < 4611686018427387904 by omega), wrap_succ (show j < 4611686018427387904 by omega)], j + 1, by omega, kk + 1, _, rfl, by simp [x1], fun i hi => by rw [List.getElem?_set_ne (by omega)]; exact x2 i (by omega), by omega, ?_, o9⟩
          rw [keepL_snoc hjl, if_pos hm, ← x4, take_snoc (by simp; omega), List.take_set_of_le (Nat.le_refl _)]
          simp
        · refine ⟨(((kk : Int), (((j + 1 : Nat) : Int), ())), h3), by simp only [f_slices_DeleteFunc_int_int_L11, Go.Proofs.Ytkfdikcnpaechaa.lenB, Option.bind_some, hlt, decide_true, cond_true, g1, g2, e3, hm, decide_false, Bool.not_false, Bool.not_true, cond_false, wrap_succ (show j < 4611686018427387904 by omega)], j + 1, by omega, kk, X, rfl, x1, fun i hi => x2 i (by omega), by omega, ?_, o3⟩
          rw [keepL_snoc hjl, if_neg hm, List.append_nil]; exact x4)
      (fun a hi' => by
        obtain ⟨⟨v1, v2, _⟩, h3⟩ := a
        obtain ⟨j, hj, kk, X, e0, x1, x2, x3, x4, o3⟩ := hi'
        obtain rfl : j = L.length := by omega
        cases e0
        have hlt : ¬ (L.length : Int) < (L.length : Int) := by omega
        rw [List.take_length] at x4
        exact ⟨(((kk : Int), ()), h3), by simp only [f_slices_DeleteFunc_int_int_L11, Go.Proofs.Ytkfdikcnpaechaa.lenB, Option.bind_some, hlt, decide_false, cond_false], kk, X, rfl, x1, by omega, x4, o3⟩)
    cases x0
    have o12 : Own h12 _ := o12
    have p13 := sliceK_l (h := h12) (es := 1) (k' := .i64) (b := b) (off := off) (sp := sp) (n := L.length) (c := c) (j := kk) x2 c1
    obtain ⟨h14, p14, o14, y14⟩ := clear_tail (c := c) (sp := sp) (kk := kk) hp o12 (by omega) (by omega) (by omega)
    rw [x1] at p14 o14 y14
    have p15 := sliceK_h (h := h14) (es := 1) (k' := .i64) (b := b) (off := off) (sp := sp) (n := L.length) (c := c) (j := kk) (by omega)
    refine ⟨.slice (some ⟨b, off, sp⟩) kk c, h14, [(b, Blk pre (X.take kk ++ List.replicate (L.length - kk) 0) rest)], by simp only [f_slices_DeleteFunc_int_int, e, Option.bind_some, hne, decide_false, cond_false, wrap_succ (show i < 4611686018427387904 by omega), e12, p13, p14, p15, isTuple, Bool.not_false, cond_true], ?_, o14⟩
    have : (keepL L M).length = kk := by rw [← x3, List.length_take]; omega
    rw [this, ← x3]
    exact y14
/-- What both have, in its one form. -/
def bothL (L M : List Int) : List Int := form (keepL L M)
theorem bothL_mem {x : Int} : x ∈ bothL L M ↔ x ∈ L ∧ x ∈ M := by rw [bothL, form_mem, keepL, List.mem_filter, decide_eq_true_eq]
theorem bothL_len : (bothL L M).length ≤ L.length := Nat.le_trans form_len (List.length_filter_le _ _)
theorem both_ok (ha : Sow 1 s L.length (iz .i64 L) G) (hb : Sow 1 u M.length (iz .i64 M) G) (ho : Own h (G ++ F)) (hn : M.length + 1 ≤ n) (hn2 : L.length + 2 ≤ n) (hl : M.length < 4611686018427387904) (hl2 : L.length * 8 ≤ 140737488355328) :
    ∃ v h' A', f_blocks_Both n s u h = some ((v, ()), h') ∧ Slc 1 v (bothL L M).length (iz .i64 (bothL L M)) A' ∧ Own h' (A' ++ (G ++ F)) := by
  obtain ⟨a, c, hf⟩ := (hb.rds ho).form
  have hcu : cellsOf u = [u] := by rw [hf]; rfl
  have hiu : isCell u = true := by rw [hf]; rfl
  have o0 := ho.new (.cells [u] false 0)
  generalize hp : h.next = p at o0
  generalize hh0 : h.new (.cells [u] false 0) = h0 at o0
  obtain ⟨s1, h1, A1, e1, y1, o1⟩ := cloneI_ok (n := n) ha (h := h0) (F := (p, .cells [u] false 0) :: F) (o0.to fun x => by simp only [cnt_append, cnt_cons]; omega) hl2
  obtain ⟨s2, h2, A2, e2, y2, o2⟩ := deleteFunc_ok (n := n) (p := p) y1 hb (h := h1) (F := F) (o1.to fun x => by simp only [cnt_append, cnt_cons]; omega) hn hn2 hl (by omega)
  have hkl : (keepL L M).length ≤ L.length := List.length_filter_le _ _
  obtain ⟨s3, h3, A3, e3, y3, o3⟩ := rising_ok (n := n) y2.sow o2 (by omega) (by omega)
  exact ⟨s3, h3, A3, by simp only [f_blocks_Both, hcu, List.all_cons, hiu, List.all_nil, Bool.and_true, cond_true, bnd_eq, hh0, e1, Option.bind_some, nwA_eq, hp, e2, e3, y3.notT, Bool.not_false], y3, o3.to fun x => by simp only [cnt_append, cnt_cons]; omega⟩
/-- The element of a number. -/
def nextE (L : List Int) (z : Int) : Int × Bool := if z < 0 ∨ (L.length : Int) ≤ z then (0, false) else (L[z.toNat]!, true)
theorem next_ok (hr : Rds h 1 s L.length (iz .i64 L)) : f_blocks_Next n s z h = some (((nextE L z).1, ((nextE L z).2, ())), h) := by
  by_cases h1 : z < 0
  · simp only [f_blocks_Next, h1, decide_true, cond_true, Option.bind_some, nextE, true_or, if_true]
  · by_cases h2 : (L.length : Int) ≤ z
    · simp only [f_blocks_Next, h1, decide_false, cond_false, hr.lenB, h2, decide_true, cond_true, Option.bind_some, nextE, or_true, if_true]
    · obtain ⟨i, rfl⟩ : ∃ i : Nat, z = (i : Int) := ⟨z.toNat, by omega⟩
      have hi : i < L.length := by omega
      obtain ⟨q, e1, e2⟩ := hr.int hi
      have : L[((i : Int)).toNat]! = L[i] := by rw [Int.toNat_natCast, getElem!_pos L i hi]
      simp only [f_blocks_Next, h1, decide_false, cond_false, hr.lenB, h2, Option.bind_some, e1, e2, nextE, false_or, if_false, or_self, this]
end
end Go.Proofs.Ytkfdikcnpaechaa

/- The law: one form for all orders and doubles; Both has what both have. -/
namespace Go.Proofs.Ytkfdikcnpaechaa
open Go
set_option linter.unusedVariables false
set_option linter.unusedSimpArgs false
theorem form_congr {A B : List Int} (h : ∀ x, x ∈ A ↔ x ∈ B) : form A = form B := lt_ext form_lt form_lt fun x => by rw [form_mem, form_mem, h]
theorem formE_congr {A B : List Int} {b m : Int} (h : ∀ x, x ∈ A ↔ x ∈ B) : formE A b m = formE B b m := by
  have h1 : (A = []) = (B = []) := by
    rw [← form_nil (L := A), ← form_nil (L := B), form_congr h]
  have h2 : (∃ x ∈ A, x < 0 ∨ b ≤ x) = (∃ x ∈ B, x < 0 ∨ b ≤ x) := by
    apply propext
    exact ⟨fun ⟨x, hx, hh⟩ => ⟨x, (h x).1 hx, hh⟩, fun ⟨x, hx, hh⟩ => ⟨x, (h x).2 hx, hh⟩⟩
  simp only [formE, h1, h2, form_congr h]
theorem formE_zero {L : List Int} {b m : Int} (h : (formE L b m).2 = 0) : formE L b m = (form L, 0) ∧ Good (form L) ∧ ¬ m < ((form L).length : Int) := by
  unfold formE at h ⊢
  split
  · rename_i h1; rw [if_pos h1] at h; cases h
  rename_i h1
  rw [if_neg h1] at h
  split
  · rename_i h2; rw [if_pos h2] at h; cases h
  rename_i h2
  rw [if_neg h2] at h
  split
  · rename_i h3; rw [if_pos h3] at h; cases h
  rename_i h3
  rw [if_neg h3] at h
  split
  · rename_i h4; rw [if_pos h4] at h; cases h
  rename_i h4
  simp only [badB, Bool.or_eq_true, decide_eq_true_eq, not_or] at h1
  have hall : ∀ x ∈ form L, 0 ≤ x ∧ x < 64 := fun x hx => by
    have hx := form_mem.1 hx
    have g1 : ¬ x < 0 := fun hh => h3 ⟨x, hx, .inl hh⟩
    have g2 : ¬ b ≤ x := fun hh => h3 ⟨x, hx, .inr hh⟩
    omega
  refine ⟨rfl, ⟨?_, by omega, fun h => (hall _ (List.getElem_mem h)).1, fun h => (hall _ (List.getElem_mem _)).2, fun j h1 h2 => lt_first form_lt (by omega) h2⟩, h4⟩
  have : form L ≠ [] := fun e => h2 (form_nil.1 e)
  have := List.length_pos_iff.2 this
  omega
theorem formE_bad {L : List Int} {b m : Int} (h : ¬ (formE L b m).2 = 0) : (formE L b m).1 = [] ∧ ((formE L b m).2 = 2 ∨ (formE L b m).2 = 50 ∨ (formE L b m).2 = 51 ∨ (formE L b m).2 = 52) := by
  unfold formE at h ⊢
  split
  · exact ⟨rfl, .inl rfl⟩
  rename_i h1
  rw [if_neg h1] at h
  split
  · exact ⟨rfl, .inr (.inl rfl)⟩
  rename_i h2
  rw [if_neg h2] at h
  split
  · exact ⟨rfl, .inr (.inr (.inl rfl))⟩
  rename_i h3
  rw [if_neg h3] at h
  split
  · exact ⟨rfl, .inr (.inr (.inr rfl))⟩
  rename_i h4
  rw [if_neg h4] at h
  exact absurd rfl h
section
variable {n : Nat} {s u u0 u2 v : Value} {L M X Y K : List Int} {b m t z : Int} {h h0 : Heap} {G F A B : Ch} {cs pre rest : List Value}
/-- The set, twice, the first half turned. -/
theorem twice_ok (hr : Sow 1 u0 L.length (iz .i64 L) G) (ho : Own h (G ++ F)) (hL : L.length ≤ 2000000) (hn : L.length + 1000 ≤ n) :
    ∃ v9 h9 v10 h10 v12 h13 h23 Y A', appendK (h.new (.cells [] false 1)) 8 1 (.slice (some ⟨h.next, 0, some 0⟩) 0 0) u0 = some (v9, h9) ∧ appendK h9 8 1 v9 u0 = some (v10, h10) ∧ lenB v10 = some (L.length + L.length) ∧
      sliceK h10 1 none (some (.int .i64 (L.length : Int))) none v10 = some (v12, h10) ∧ f_wicketlaw05_turn n v12 h10 = some ((), h13) ∧
      loopT (fun a => f_wicketlaw05_BlocksOne_L22 n u0 (v10, h10) a.1.1 a.2) n ((0, ()), h13) = some ((), h23) ∧ Y.length = L.length + L.length ∧ Slc 1 v10 Y.length (iz .i64 Y) A' ∧ (∀ x, x ∈ Y ↔ x ∈ L) ∧ Own h23 (A' ++ (G ++ F)) := by
  have o1 := ho.new (.cells [] false 1)
  have hs : Slc 1 (.slice (some ⟨h.next, 0, some 0⟩) 0 0) 0 [] [(h.next, .cells ([] ++ ([] ++ [])) false 1)] := .mk rfl rfl rfl
  obtain ⟨v9, h9, A9, e9, y9, o9⟩ := hr.app hs (F := F) (h := h.new (.cells [] false 1)) (o1.to fun x => by simp only [cnt_append, cnt_cons, cnt_nil, List.nil_append, List.append_nil]; omega) (by decide) (bytes := 8) (by omega)
  have y9 : Slc 1 v9 L.length (iz .i64 L) A9 := by simpa using y9
  obtain ⟨v10, h10, A10, e10, y10, o10⟩ := hr.app y9 o9 (by decide) (bytes := 8) (by omega)
  have y10 : Slc 1 v10 (L ++ L).length (iz .i64 (L ++ L)) A10 := by rw [iz_append, List.length_append]; exact y10
  have hlb : lenB v10 = some (L.length + L.length) := by rw [y10.lenB, List.length_append]
  rcases slc_blk y10 with ⟨rfl, hnil, rfl⟩ | ⟨b, off, sp, c, pre, rest, rfl, rfl, hp, c1, c2⟩
  · obtain rfl : L = [] := (List.append_eq_nil_iff.1 hnil).1
    obtain ⟨k, rfl⟩ : ∃ k, n = k + 1 := ⟨n - 1, by omega⟩
    have hl0 := (hr.rds (h := h10) (F := F) (by simpa using o10)).lenB
    have l22 : f_wicketlaw05_BlocksOne_L22 (k + 1) u0 (.slice none 0 0, h10) 0 h10 = some (.inr ((), h10)) := by
      simp only [f_wicketlaw05_BlocksOne_L22, hl0, Option.bind_some]; rfl
    exact ⟨v9, h9, _, h10, .slice none 0 0, h10, h10, [], [], e9, e10, rfl, sliceK_nil (by decide), rfl, loopT_end l22, rfl, .nil, fun x => Iff.rfl, by simpa using o10⟩
  · rw [List.length_append] at c1 c2
    have e12 := sliceK_h (h := h10) (es := 1) (k' := .i64) (b := b) (off := off) (sp := sp) (n := (L ++ L).length) (c := c) (j := L.length) (by omega)
    have eb : ∀ Z : List Int, Blk pre (Z ++ L) rest = Blk pre Z (iz .i64 L ++ rest) := fun Z => by rw [Blk, Blk, iz_append, List.append_assoc]
    have o10 : Own h10 ((b, Blk pre L (iz .i64 L ++ rest)) :: (G ++ F)) := by rw [← eb]; exact o10
    obtain ⟨h13, X, e13, x1, x2, o13⟩ := turn_blk (n := n) (c := c) (sp := sp) hp o10 (by omega) (by omega)
    rw [← eb] at o13
    obtain ⟨⟨_, h23⟩, e23, q⟩ := loopT_up (f := fun a => f_wicketlaw05_BlocksOne_L22 n u0 (.slice (some ⟨b, off, sp⟩) (L ++ L).length c, h10) a.1.1 a.2)
      (fun j (a : (Int × Unit) × Heap) => a.1 = ((j : Int), ()) ∧ Own a.2 ((b, Blk pre (X ++ L) rest) :: (G ++ F))) (fun r => Own r.2 ((b, Blk pre (X ++ L) rest) :: (G ++ F))) (N := L.length) (k := n) (j := 0) (a := ((0, ()), h13)) (by omega) (by omega) ⟨rfl, o13⟩
      (fun j a hj hi => by
        obtain ⟨⟨v14, _⟩, h15⟩ := a
        obtain ⟨e0, o15⟩ := hi
        cases e0
        have o15 : Own h15 _ := o15
        have rr := hr.rds (h := h15) (F := (b, Blk pre (X ++ L) rest) :: F) (o15.to fun x => by simp only [cnt_append, cnt_cons]; omega)
        have hlt : (j : Int) < (L.length : Int) := by omega
        obtain ⟨q, g1, g2⟩ := rr.int hj
        have w1 : IntKind.i64.wrap ((L.length : Int) + (j : Int)) = ((L.length + j : Nat) : Int) := by rw [wrap_i64 (by omega) (by omega)]; omega
        have g3 := ix1 (b := b) (off := off) (sp := sp) (c := c) (m := (L ++ L).length) (i := L.length + j) (by rw [List.length_append]; omega)
        obtain ⟨h21, g4, o21⟩ := blk_st (i := L.length + j) (z := L[j]) hp o15 (by rw [List.length_append]; omega) rfl
        have es : (X ++ L).set (L.length + j) L[j] = X ++ L := by rw [List.set_append_right _ _ (by omega), x1, Nat.add_sub_cancel_left, List.set_getElem_self]
        rw [es] at o21
        exact .inl ⟨((((j + 1 : Nat) : Int), ()), h21), by simp only [f_wicketlaw05_BlocksOne_L22, rr.lenB, Option.bind_some, hlt, decide_true, cond_true, g1, g2, w1, g3, g4, wrap_succ (show j < 4611686018427387904 by omega)], rfl, o21⟩)
      (fun a hi => by
        obtain ⟨⟨v14, _⟩, h15⟩ := a
        obtain ⟨e0, o15⟩ := hi
        cases e0
        have o15 : Own h15 _ := o15
        have rr := hr.rds (h := h15) (F := (b, Blk pre (X ++ L) rest) :: F) (o15.to fun x => by simp only [cnt_append, cnt_cons]; omega)
        have hlt : ¬ (L.length : Int) < (L.length : Int) := by omega
        exact ⟨((), h15), by simp only [f_wicketlaw05_BlocksOne_L22, rr.lenB, Option.bind_some, hlt, decide_false, cond_false], o15⟩)
    have hYl : (X ++ L).length = L.length + L.length := by rw [List.length_append, x1]
    refine ⟨v9, h9, _, h10, _, h13, h23, X ++ L, [(b, Blk pre (X ++ L) rest)], e9, e10, hlb, e12, e13, e23, hYl, ?_, fun x => ?_, q⟩
    · have := blk_slc (b := b) (sp := sp) (c := c) (rest := rest) (X := X ++ L) (i := (X ++ L).length) hp (Nat.le_refl _) (by omega) (by omega)
      rw [List.take_length] at this
      rw [List.length_append]
      rw [hYl] at this ⊢
      exact this
    · rw [List.mem_append]
      exact ⟨fun h => h.elim (x2 x) id, .inr⟩
theorem c45_ok {hh : Heap} (hr : Rds h 1 v K.length (iz .i64 K)) (hK : K.Pairwise (· < ·)) (hn : K.length + 10 ≤ n) (hl : K.length ≤ 2000000) : f_wicketlaw05_BlocksOne_C45 n ((v, ()), hh) h = some (.inl ((), h)) := by
  obtain ⟨r, e, q⟩ := loopT_up (f := fun a => f_wicketlaw05_BlocksOne_L44 n ((v, ()), hh) a.1.1 a.2)
    (fun j (a : (Int × Unit) × Heap) => a = ((((j + 1 : Nat) : Int), ()), h)) (fun r => r = .inl ((), h)) (N := K.length - 1) (k := n) (j := 0) (a := ((1, ()), h)) (by omega) (by omega) rfl
    (fun j a hj hi => by
      subst hi
      have hlt : ((j + 1 : Nat) : Int) < (K.length : Int) := by omega
      have w1 : IntKind.i64.wrap (((j + 1 : Nat) : Int) - 1) = (j : Int) := by rw [wrap_i64 (by omega) (by omega)]; omega
      obtain ⟨q1, g1, g2⟩ := hr.int (i := j) (by omega)
      obtain ⟨q2, g3, g4⟩ := hr.int (i := j + 1) (by omega)
      have hc : ¬ K[j + 1]'(by omega) ≤ K[j]'(by omega) := by have := lt_first hK (by omega : j < j + 1) (by omega); omega
      exact .inl ⟨_, by simp only [f_wicketlaw05_BlocksOne_L44, hr.lenB, Option.bind_some, hlt, decide_true, cond_true, w1, g1, g2, g3, g4, hc, decide_false, cond_false, wrap_succ (show j + 1 < 4611686018427387904 by omega)], rfl⟩)
    (fun a hi => by
      subst hi
      have hlt : ¬ ((K.length - 1 + 1 : Nat) : Int) < (K.length : Int) := by omega
      exact ⟨.inl ((), h), by simp only [f_wicketlaw05_BlocksOne_L44, hr.lenB, Option.bind_some, hlt, decide_false, cond_false], rfl⟩)
  subst q
  exact e
theorem c69_ok {hh : Heap} {e6 : Int} (hr : Rds h 1 u0 L.length (iz .i64 L)) (hv : Rds h 1 v K.length (iz .i64 K)) (hK : ∀ x ∈ L, x ∈ K) (hn : K.length + 10 ≤ n) (hn2 : L.length + 10 ≤ n) (hl : K.length ≤ 2000000) (hl2 : L.length ≤ 2000000) :
    f_wicketlaw05_BlocksOne_C69 n u0 ((v, (e6, ())), hh) h = some (.inl ((), h)) := by
  obtain ⟨r, e, q⟩ := loopT_up (f := fun a => f_wicketlaw05_BlocksOne_L68 n u0 ((v, (e6, ())), hh) a.1.1 a.2)
    (fun j (a : (Int × Unit) × Heap) => a = (((j : Int), ()), h)) (fun r => r = .inl ((), h)) (N := L.length) (k := n) (j := 0) (a := ((0, ()), h)) (by omega) (by omega) rfl
    (fun j a hj hi => by
      subst hi
      have hlt : (j : Int) < (L.length : Int) := by omega
      obtain ⟨q1, g1, g2⟩ := hr.int hj
      have g3 := has_ok (n := n) (t := L[j]) hv (by omega) (by omega)
      have hm : L[j] ∈ K := hK _ (List.getElem_mem hj)
      exact .inl ⟨_, by simp only [f_wicketlaw05_BlocksOne_L68, hr.lenB, Option.bind_some, hlt, decide_true, cond_true, g1, g2, g3, hm, Bool.not_true, cond_false, wrap_succ (show j < 4611686018427387904 by omega)], rfl⟩)
    (fun a hi => by
      subst hi
      have hlt : ¬ (L.length : Int) < (L.length : Int) := by omega
      exact ⟨.inl ((), h), by simp only [f_wicketlaw05_BlocksOne_L68, hr.lenB, Option.bind_some, hlt, decide_false, cond_false], rfl⟩)
  subst q
  exact e
theorem l80_ok {hh : Heap} {e6 : Int} (hr : Rds h 1 u0 L.length (iz .i64 L)) (hv : Rds h 1 v K.length (iz .i64 K)) (hK : ∀ x ∈ K, x ∈ L) (hn : K.length + 10 ≤ n) (hn2 : L.length + 10 ≤ n) (hl : K.length ≤ 2000000) (hl2 : L.length ≤ 2000000) :
    loopT (fun a => f_wicketlaw05_BlocksOne_L80 n u0 ((v, (e6, ())), hh) a.1.1 a.2) n ((0, ()), h) = some ((true, ()), h) := by
  obtain ⟨r, e, q⟩ := loopT_up (f := fun a => f_wicketlaw05_BlocksOne_L80 n u0 ((v, (e6, ())), hh) a.1.1 a.2)
    (fun j (a : (Int × Unit) × Heap) => a = (((j : Int), ()), h)) (fun r => r = ((true, ()), h)) (N := K.length + 1) (k := n) (j := 0) (a := ((0, ()), h)) (by omega) (by omega) rfl
    (fun j a hj hi => by
      subst hi
      have hle : (j : Int) ≤ (K.length : Int) := by omega
      have g1 := next_ok (n := n) (z := (j : Int)) hv
      by_cases hlt : j < K.length
      · have h2 : nextE K (j : Int) = (K[j], true) := by
          unfold nextE
          rw [if_neg (by omega), Int.toNat_natCast, getElem!_pos K j hlt]
        have h3 : (j : Int) < (K.length : Int) := by omega
        obtain ⟨q1, g2, g3⟩ := hv.int hlt
        have g4 := has_ok (n := n) (t := K[j]) hr (by omega) (by omega)
        have hm : K[j] ∈ L := hK _ (List.getElem_mem hlt)
        rw [h2] at g1
        exact .inl ⟨_, by simp only [f_wicketlaw05_BlocksOne_L80, hv.lenB, Option.bind_some, hle, decide_true, cond_true, g1, h3, beq_self_eq_true, Bool.not_true, cond_false, g2, g3, g4, hm, wrap_succ (show j < 4611686018427387904 by omega)], rfl⟩
      · have h2 : nextE K (j : Int) = (0, false) := by
          unfold nextE
          rw [if_pos (by omega)]
        have h3 : ¬ (j : Int) < (K.length : Int) := by omega
        rw [h2] at g1
        exact .inl ⟨_, by simp only [f_wicketlaw05_BlocksOne_L80, hv.lenB, Option.bind_some, hle, decide_true, cond_true, g1, h3, decide_false, beq_self_eq_true, Bool.not_true, cond_false, wrap_succ (show j < 4611686018427387904 by omega)], rfl⟩)
    (fun a hi => by
      subst hi
      have hle : ¬ ((K.length + 1 : Nat) : Int) ≤ (K.length : Int) := by omega
      exact ⟨((true, ()), h), by simp only [f_wicketlaw05_BlocksOne_L80, hv.lenB, Option.bind_some, hle, decide_false, cond_false], rfl⟩)
  subst q
  exact e
theorem blocksOne_ok (hu0 : Sow 1 u0 L.length (iz .i64 L) G) (hu2 : Sow 1 u2 M.length (iz .i64 M) G) (ho : Own h G) (hL : L.length ≤ 2000000) (hM : M.length ≤ 2000000) (hn : 5000000 ≤ n) : ∃ h', f_wicketlaw05_BlocksOne n u0 (.agg ⟨iz .i64 [b, m]⟩) u2 t h = some ((true, ()), h') := by
  have hco : cellsOf (.agg ⟨iz .i64 [b, m]⟩) = iz .i64 [b, m] := rfl
  have hci : (iz .i64 [b, m]).all isCell = true := iz_cell
  have o0 := ho.new (.cells (iz .i64 [b, m]) false 0)
  generalize hq : h.next = q at o0
  generalize hh0 : h.new (.cells (iz .i64 [b, m]) false 0) = h0 at o0
  have aw : f_wicketlaw05_awake n h0 = some ((true, ()), h0) := rfl
  have a0 : ixA 2 1 (some ⟨q, 0, none⟩) 0 = some ⟨q, 0, none⟩ := rfl
  have a1 : ixA 2 1 (some ⟨q, 0, none⟩) 1 = some ⟨q, 1, none⟩ := rfl
  have l0 : ∀ {h : Heap} {F : Ch}, Own h ((q, .cells (iz .i64 [b, m]) false 0) :: F) → ldT (.int .i64) h (some ⟨q, 0, none⟩) = some b := fun o => by rw [ldT_of o.head]; rfl
  have l1 : ∀ {h : Heap} {F : Ch}, Own h ((q, .cells (iz .i64 [b, m]) false 0) :: F) → ldT (.int .i64) h (some ⟨q, 1, none⟩) = some m := fun o => by rw [ldT_of o.head]; rfl
  generalize hQ : (q, AObj.cells (iz .i64 [b, m]) false 0) = Q at o0 l0 l1
  have x3 := l0 o0
  have x5 := l1 o0
  obtain ⟨v6, h6, A6, e6, y6, o6⟩ := bform_ok (n := n) (b := b) (m := m) hu0 (h := h0) (F := [Q]) (o0.to fun x => by simp only [cnt_append, cnt_cons, cnt_nil]; omega) (by omega) (by omega)
  obtain ⟨v9, h9, v10, h10, v12, h13, h23, Y, A23, e9, e10, n11, e12, e13, e23, hYl, y23, hY, o23⟩ := twice_ok (n := n) hu0 (h := h6) (F := A6 ++ [Q]) (o6.to fun x => by simp only [cnt_append]; omega) hL (by omega)
  have hd : IntKind.i64.wrap (Int.tdiv ((L.length + L.length : Nat) : Int) 2) = (L.length : Int) := by
    rw [show Int.tdiv ((L.length + L.length : Nat) : Int) 2 = (((L.length + L.length) / 2 : Nat) : Int) from rfl, wrap_i64 (by omega) (by omega)]; omega
  have o23 : Own h23 (Q :: (A23 ++ (A6 ++ G))) := o23.to fun x => by simp only [cnt_append, cnt_cons, cnt_nil]; omega
  have x25 := l0 o23
  have x27 := l1 o23
  obtain ⟨v28, h28, A28, e28, y28, o28⟩ := bform_ok (n := n) (b := b) (m := m) y23.sow (h := h23) (F := Q :: (A6 ++ G)) (o23.to fun x => by simp only [cnt_append, cnt_cons, cnt_nil]; omega) (by omega) (by omega)
  rw [formE_congr hY] at e28 y28
  have hf := formE_len (L := L) (b := b) (m := m)
  have e29 := same5_ok (n := n) (y6.rds (h := h28) (F := A28 ++ (A23 ++ (Q :: G))) (o28.to fun x => by simp only [cnt_append, cnt_cons]; omega)) (y28.rds o28) (by omega) (by omega)
  obtain ⟨v31, h31, A31, e31, y31, o31⟩ := both_ok (n := n) hu0 hu2 (h := h28) (F := A28 ++ (A23 ++ (Q :: A6))) (o28.to fun x => by simp only [cnt_append, cnt_cons]; omega) (by omega) (by omega) (by omega) (by omega)
  have hbl := bothL_len (L := L) (M := M)
  have o31 : Own h31 (Q :: (A31 ++ (A28 ++ (A23 ++ (A6 ++ G))))) := o31.to fun x => by simp only [cnt_append, cnt_cons]; omega
  have r31 := y31.rds (h := h31) (F := Q :: (A28 ++ (A23 ++ (A6 ++ G)))) (o31.to fun x => by simp only [cnt_append, cnt_cons]; omega)
  have r0 := hu0.rds (h := h31) (F := Q :: (A31 ++ (A28 ++ (A23 ++ A6)))) (o31.to fun x => by simp only [cnt_append, cnt_cons]; omega)
  have r2 := hu2.rds (h := h31) (F := Q :: (A31 ++ (A28 ++ (A23 ++ A6)))) (o31.to fun x => by simp only [cnt_append, cnt_cons]; omega)
  have r6 := y6.rds (h := h31) (F := Q :: (A31 ++ (A28 ++ (A23 ++ G)))) (o31.to fun x => by simp only [cnt_append, cnt_cons]; omega)
  have e32 := has_ok (n := n) (t := t) r31 (by omega) (by omega)
  have e33 := has_ok (n := n) (t := t) r0 (by omega) (by omega)
  have e34 := has_ok (n := n) (t := t) r2 (by omega) (by omega)
  have e45 := c45_ok (n := n) (hh := h31) r31 form_lt (by omega) (by omega)
  have hb1 : decide (t ∈ bothL L M) = (decide (t ∈ L) && decide (t ∈ M)) := by rw [← Bool.decide_and]; exact decide_eq_decide.2 bothL_mem
  have a35 : ((bif decide (t ∈ L) then (some (((!(decide (t ∈ bothL L M) == decide (t ∈ M))), ()), h31)) else (some (((!(decide (t ∈ bothL L M) == false)), ()), h31))) : Option ((Bool × Unit) × Heap)) = some ((false, ()), h31) := by
    rw [hb1]
    cases decide (t ∈ L) <;> cases decide (t ∈ M) <;> rfl
  by_cases hz : (formE L b m).2 = 0
  · obtain ⟨z1, z2, z3⟩ := formE_zero hz
    have x49 := l0 o31
    have x51 := l1 o31
    rw [z1] at e6 y6 e28 y28 r6 hf
    simp only at e6 y6 e28 y28 r6 hf
    obtain ⟨v52, h52, A52, e52, y52, o52⟩ := bform_ok (n := n) (b := b) (m := m) y6.sow (h := h31) (F := Q :: (A31 ++ (A28 ++ (A23 ++ G)))) (o31.to fun x => by simp only [cnt_append, cnt_cons]; omega) (by omega) (by omega)
    rw [formE_congr (B := L) (fun x => form_mem), z1] at e52 y52
    simp only at e52 y52
    have o52 : Own h52 (Q :: (A52 ++ (A31 ++ (A28 ++ (A23 ++ (A6 ++ G)))))) := o52.to fun x => by simp only [cnt_append, cnt_cons]; omega
    have r6 := y6.rds (h := h52) (F := Q :: (A52 ++ (A31 ++ (A28 ++ (A23 ++ G))))) (o52.to fun x => by simp only [cnt_append, cnt_cons]; omega)
    have r0 := hu0.rds (h := h52) (F := Q :: (A52 ++ (A31 ++ (A28 ++ (A23 ++ A6))))) (o52.to fun x => by simp only [cnt_append, cnt_cons]; omega)
    have e53 := same5_ok (n := n) (y52.rds (h := h52) (F := Q :: (A31 ++ (A28 ++ (A23 ++ (A6 ++ G))))) (o52.to fun x => by simp only [cnt_append, cnt_cons]; omega)) r6 (by omega) (by omega)
    have e54 := is_ok (n := n) r6 (by omega)
    rw [isB_true z2] at e54
    have x57 := l1 o52
    have e58 := has_ok (n := n) (t := t) r6 (by omega) (by omega)
    have e59 := has_ok (n := n) (t := t) r0 (by omega) (by omega)
    have hm1 : decide (t ∈ form L) = decide (t ∈ L) := decide_eq_decide.2 form_mem
    rw [hm1] at e58
    have e69 := c69_ok (n := n) (hh := h6) (e6 := 0) r0 r6 (fun x hx => form_mem.2 hx) (by omega) (by omega) (by omega) hL
    have e80 := l80_ok (n := n) (hh := h6) (e6 := 0) r0 r6 (fun x hx => form_mem.1 hx) (by omega) (by omega) (by omega) hL
    refine ⟨h52, ?_⟩
    simp only [f_wicketlaw05_BlocksOne, hco, hci, cond_true, bnd_eq, hh0, aw, Option.bind_some, Bool.not_true, cond_false, nwA_eq, hq, a0, a1, x3, x5, e6, fill0, e9, e10, n11, hd, e12, e13, e23, x25, x27, e28, decide_true, e29, e31, e32, e33, e34, a35, e45, thenB_inl, x49, x51, e52, e53, e54, y6.lenB, x57, z3, decide_false, e58, e59, beq_self_eq_true, e69, e80]
  · obtain ⟨z1, z2⟩ := formE_bad hz
    have hl6 : lenB v6 = some 0 := by rw [y6.lenB, z1]; rfl
    refine ⟨h31, ?_⟩
    have hfin : ((bif (decide ((formE L b m).2 = 2)) then (some ((true, ()), h31)) else (bif (decide ((formE L b m).2 = 50)) then (some ((true, ()), h31)) else (bif (decide ((formE L b m).2 = 51)) then (some ((true, ()), h31)) else (some (((decide ((formE L b m).2 = 52)), ()), h31))))) : Option ((Bool × Unit) × Heap)) = some ((true, ()), h31) := by
      rcases z2 with h | h | h | h <;> rw [h] <;> rfl
    simp only [f_wicketlaw05_BlocksOne, hco, hci, cond_true, bnd_eq, hh0, aw, Option.bind_some, Bool.not_true, cond_false, nwA_eq, hq, a0, a1, x3, x5, e6, fill0, e9, e10, n11, hd, e12, e13, e23, x25, x27, e28, decide_true, e29, e31, e32, e33, e34, a35, e45, thenB_inl, hz, decide_false, Bool.not_false, hl6, show ((0 : Nat) : Int) = 0 from rfl, hfin]
end
end Go.Proofs.Ytkfdikcnpaechaa

