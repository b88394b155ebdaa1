import Derived.Test.YthfkoanomhnpjaaPSort
import Derived.Test.YthfkoanomhnpjaaLBlocksForms
import Derived.Test.YthfkoanomhnpjaaS58
/- Lists that rise, without doubles. -/
namespace Go.Proofs.Ythfkoanomhnpjaa
open Go
set_option linter.unusedVariables false
set_option linter.unusedSimpArgs false

theorem lt_ext {A B : List Int} (hA : A.Pairwise (· < ·)) (hB : B.Pairwise (· < ·)) (h : ∀ x, x ∈ A ↔ x ∈ B) : A = B := by
  have nd : ∀ {L : List Int}, L.Pairwise (· < ·) → L.Nodup := fun hL => hL.imp fun h e => by omega
  exact List.Perm.eq_of_pairwise (le := fun a b : Int => a < b) (fun a b _ _ h1 h2 => by omega) hA hB ((List.perm_ext_iff_of_nodup (nd hA) (nd hB)).2 h)
/-- What stands behind p, without what is as the one ahead. -/
def cf (p : Int) : List Int → List Int
  | [] => []
  | x :: t => if x = p then cf p t else x :: cf x t
def compact : List Int → List Int
  | [] => []
  | x :: t => x :: cf x t
theorem cf_mem {x : Int} : ∀ {t : List Int} {p : Int}, x ∈ p :: cf p t ↔ x ∈ p :: t := by
  intro t
  induction t with
  | nil => intro p; rfl
  | cons y t ih =>
    intro p
    unfold cf
    by_cases h : y = p
    · subst h
      rw [if_pos rfl, ih]
      simp
    · rw [if_neg h, List.mem_cons, ih, List.mem_cons (l := y :: t)]
theorem compact_mem {x : Int} {L : List Int} : x ∈ compact L ↔ x ∈ L := by
  cases L with
  | nil => rfl
  | cons y t => exact cf_mem
theorem cf_lt : ∀ {t : List Int} {p : Int}, (p :: t).Pairwise (· ≤ ·) → (p :: cf p t).Pairwise (· < ·) := by
  intro t
  induction t with
  | nil => intro p _; exact List.pairwise_singleton _ _
  | cons y t ih =>
    intro p h
    rw [List.pairwise_cons] at h
    have hy := h.1 y (List.mem_cons_self ..)
    unfold cf
    by_cases e : y = p
    · subst e
      rw [if_pos rfl]
      exact ih h.2
    · rw [if_neg e]
      have h2 := ih h.2
      rw [List.pairwise_cons]
      refine ⟨fun a ha => ?_, h2⟩
      rw [List.pairwise_cons] at h2
      rcases List.mem_cons.1 ha with rfl | ha
      · omega
      · have := h2.1 a ha; omega
theorem compact_lt {L : List Int} (h : L.Pairwise (· ≤ ·)) : (compact L).Pairwise (· < ·) := by
  cases L with
  | nil => exact .nil
  | cons y t => exact cf_lt h
/-- The one form. -/
def form (L : List Int) : List Int := compact (isort L)
theorem form_lt {L : List Int} : (form L).Pairwise (· < ·) := compact_lt isort_sorted
theorem form_mem {x : Int} {L : List Int} : x ∈ form L ↔ x ∈ L := by rw [form, compact_mem, isort_perm.mem_iff]
theorem form_of {L M : List Int} (hM : M.Pairwise (· < ·)) (h : ∀ x, x ∈ M ↔ x ∈ L) : form L = M := lt_ext form_lt hM fun x => by rw [form_mem, h]
theorem form_nil {L : List Int} : form L = [] ↔ L = [] := by
  constructor
  · intro h
    cases L with
    | nil => rfl
    | cons x t => have : x ∈ form (x :: t) := form_mem.2 (List.mem_cons_self ..); rw [h] at this; cases this
  · rintro rfl; rfl
theorem cf_len : ∀ {t : List Int} {p : Int}, (cf p t).length ≤ t.length := by
  intro t
  induction t with
  | nil => intro p; exact Nat.le_refl _
  | cons y t ih =>
    intro p
    unfold cf
    by_cases h : y = p
    · rw [if_pos h]; exact Nat.le_succ_of_le ih
    · rw [if_neg h]; exact Nat.succ_le_succ ih
theorem compact_len {L : List Int} : (compact L).length ≤ L.length := by
  cases L with
  | nil => exact Nat.le_refl _
  | cons y t => exact Nat.succ_le_succ cf_len
theorem form_len {L : List Int} : (form L).length ≤ L.length := by rw [form]; exact Nat.le_trans compact_len (Nat.le_of_eq isort_length)
theorem lt_first {L : List Int} (h : L.Pairwise (· < ·)) {i j : Nat} (hij : i < j) (hj : j < L.length) : L[i] < L[j] := (List.pairwise_iff_getElem.1 h) i j (by omega) hj hij
end Go.Proofs.Ythfkoanomhnpjaa

/- Copies, sorted and without doubles. -/
namespace Go.Proofs.Ythfkoanomhnpjaa
open Go
set_option linter.unusedVariables false
set_option linter.unusedSimpArgs false
section
variable {n m c b off i j : Nat} {sp : Option Nat} {s u : Value} {L X Y : List Int} {t z : Int} {h : Heap} {G F A B : Ch} {cs pre rest : List Value}
theorem wrap_pred {j : Nat} (h1 : 1 ≤ j) (hj : j < 4611686018427387904) : IntKind.i64.wrap ((j : Int) - 1) = ((j - 1 : Nat) : Int) := by
  rw [wrap_i64 (by omega) (by omega)]; omega
theorem ix1 (hi : i < m) : ixB 1 (.slice (some ⟨b, off, sp⟩) m c) (i : Int) = some ⟨b, off + i, none⟩ := by
  show (bif Nat.blt i m then _ else none) = _
  rw [show Nat.blt i m = true from Nat.ble_eq_true_of_le hi, Nat.mul_one]; rfl
/-- A list of integers as it stands in a block. -/
abbrev Blk (pre : List Value) (X : List Int) (rest : List Value) : AObj := .cells (pre ++ (iz .i64 X ++ rest)) false 1
theorem blk_at (hp : pre.length = off) (hi : i < X.length) : (pre ++ (iz .i64 X ++ rest))[off + i]? = some (.int .i64 X[i]) := by
  rw [List.getElem?_append_right (by omega), List.getElem?_append_left (by rw [iz_length]; omega)]
  simp [iz, hp, hi]
theorem blk_ld {o : Nat} (hp : pre.length = off) (ho : Own h ((b, Blk pre X rest) :: F)) (hi : i < X.length) (ho2 : o = off + i) : ldT (.int .i64) h (some ⟨b, o, none⟩) = some X[i] := by
  rw [ldT_of ho.head, ho2, blk_at hp hi]; rfl
theorem blk_st {o : Nat} (hp : pre.length = off) (ho : Own h ((b, Blk pre X rest) :: F)) (hi : i < X.length) (ho2 : o = off + i) : ∃ h', stB 1 (.int .i64 z) h (some ⟨b, o, none⟩) = some h' ∧ Own h' ((b, Blk pre (X.set i z) rest) :: F) := by
  refine ⟨_, stB1_of ho.head rfl rfl (by rw [ho2]; simp; omega), ?_⟩
  have e : (pre ++ (iz .i64 X ++ rest)).set o (.int .i64 z) = pre ++ (iz .i64 (X.set i z) ++ rest) := by
    rw [ho2, List.set_append_right _ _ (by omega), List.set_append_left _ _ (by rw [iz_length]; omega), hp, Nat.add_sub_cancel_left, iz_set]
  rw [e]
  exact ho.put _
theorem blk_slc (hp : pre.length = off) (hk : i ≤ X.length) (hc : i ≤ c) (hc2 : c ≤ X.length + rest.length) : Slc 1 (.slice (some ⟨b, off, sp⟩) i c) i (iz .i64 (X.take i)) [(b, Blk pre X rest)] := by
  have e : pre ++ (iz .i64 X ++ rest) = pre ++ (iz .i64 (X.take i) ++ (iz .i64 (X.drop i) ++ rest)) := by rw [← List.append_assoc (iz .i64 (X.take i)), ← iz_append, List.take_append_drop]
  show Slc 1 _ i _ [(b, .cells (pre ++ (iz .i64 X ++ rest)) false 1)]
  rw [e]
  exact .mk' hp (by rw [iz_length, List.length_take]; omega) ⟨fun _ => hc, by simp; omega⟩
/-- A list of integers of one's own, as it stands. -/
theorem slc_blk (hs : Slc 1 s L.length (iz .i64 L) A) : (s = .slice none 0 0 ∧ L = [] ∧ A = []) ∨ ∃ b off sp c pre rest, s = .slice (some ⟨b, off, sp⟩) L.length c ∧ A = [(b, Blk pre L rest)] ∧ pre.length = off ∧ L.length ≤ c ∧ c ≤ L.length + rest.length := by
  generalize hcs : iz .i64 L = cs at hs
  generalize hm : L.length = m at hs
  cases hs with
  | nil => exact .inl ⟨rfl, List.eq_nil_of_length_eq_zero hm, rfl⟩
  | @mk' b off sp _ c pre _ rest hp hl hr =>
    subst hcs
    exact .inr ⟨b, off, sp, c, pre, rest, rfl, rfl, hp, by have := hr.1 (Nat.le_refl _); omega, by have := hr.2; rw [iz_length] at this; omega⟩
theorem sliceK_hm {es : Nat} {k k' : IntKind} (hj : j ≤ m) (hm : m ≤ c) : sliceK h es none (some (.int k (j : Int))) (some (.int k' (m : Int))) (.slice (some ⟨b, off, sp⟩) n c) = some (.slice (some ⟨b, off, some 0⟩) j m, h) := by
  simp [sliceK, natIn_int hj, natIn_int hm]
theorem cloneI_ok (hr : Sow 1 s m cs G) (ho : Own h (G ++ F)) (hlen : m * 8 ≤ 140737488355328) :
    ∃ s' h' A', f_slices_Clone_int_int n s h = some ((s', ()), h') ∧ Slc 1 s' m cs A' ∧ Own h' (A' ++ (G ++ F)) := by
  obtain ⟨a, c, hf, hsrc⟩ := (hr.rds ho).src
  have hcl := (hr.rds ho).len
  subst hf
  cases a with
  | none =>
    have h1 : (some [] : Option (List Value)) = some cs := hsrc
    have h2 := Option.some.inj h1
    subst h2
    obtain rfl : m = 0 := by simpa using hcl.symm
    exact ⟨.slice none 0 0, h, [], by simp [f_slices_Clone_int_int, eqVals_slice_nil], .nil, ho⟩
  | some b =>
    have hs : Slc 1 (.slice (some ⟨h.next, 0, some 0⟩) 0 0) 0 [] [(h.next, .cells ([] ++ ([] ++ [])) false 1)] := .mk rfl rfl rfl
    have o1 := ho.new (.cells [] false 1)
    obtain ⟨s', h', A', e1, e2, e3⟩ := hr.app hs (F := F) (h := h.new (.cells [] false 1)) (o1.to fun x => by simp only [cnt_append, cnt_cons, cnt_nil, List.nil_append, List.append_nil]; omega) (by decide) (bytes := 8) (by omega)
    refine ⟨s', h', A', ?_, by simpa using e2, e3⟩
    have := e2.notT
    simp [f_slices_Clone_int_int, eqVals_slice_nil, e1, this]
theorem sort_ok (hs : Slc 1 s L.length (iz .i64 L) A) (ho : Own h (A ++ F)) (hl : L.length < 4611686018427387904) :
    ∃ h' A', f_slices_Sort_int_int n s h = some ((), h') ∧ Slc 1 s L.length (iz .i64 (isort L)) A' ∧ Own h' (A' ++ F) := by
  rcases slc_blk hs with ⟨rfl, rfl, rfl⟩ | ⟨b, off, sp, c, pre, rest, rfl, rfl, hp, h1, h2⟩
  · exact ⟨h, [], rfl, .nil, ho⟩
  · by_cases h0 : L.length = 0
    · obtain rfl := List.eq_nil_of_length_eq_zero h0
      exact ⟨h, _, rfl, hs, ho⟩
    · subst hp
      have hg : h.get b = some (Blk pre L rest) := ho.head
      have hr : readCells h b pre.length L.length = some (L.map (.int .i64)) := by
        rw [readCells_of hg (by simp), List.drop_left]
        congr 1
        rw [List.take_append_of_le_length (by simp), List.take_of_length_le (by simp)]; try rfl
      have hw : writeCells h b pre.length ((isort L).map (.int .i64)) = some (h.put b (Blk pre (isort L) rest)) := by
        rw [writeCells_of hg (by simp [isort_length]), writeAt_eq _ _ _ (by simp [isort_length]), List.take_left]
        congr 2
        have : (pre ++ (iz .i64 L ++ rest)).drop (pre.length + ((isort L).map (Value.int .i64)).length) = rest := by
          rw [List.length_map, isort_length, ← List.drop_drop, List.drop_left]
          have := List.drop_left (l₁ := iz .i64 L) (l₂ := rest)
          rwa [iz_length] at this
        rw [this, List.append_assoc]; rfl
      have hb0 : Nat.beq L.length 0 = false := by rw [nat_beq_eq]; simp [h0]
      have hbl : Nat.ble L.length 4611686018427387903 = true := Nat.ble_eq_true_of_le (by omega)
      refine ⟨_, [(b, Blk pre (isort L) rest)], by simp only [f_slices_Sort_int_int, sortB, hb0, cond_false, hr, Option.bind_some, intsOf_map, hbl, cond_true, hw, Option.map_some], ?_, Own.put (F := F) ho _⟩
      have := blk_slc (b := b) (sp := sp) (c := c) (rest := rest) (X := isort L) (i := L.length) (pre := pre) rfl (by rw [isort_length]; exact Nat.le_refl _) h1 (by rw [isort_length]; exact h2)
      rwa [List.take_of_length_le (by rw [isort_length]; exact Nat.le_refl _)] at this
theorem cf_skip {p : Int} {t : List Int} : cf p (p :: t) = cf p t := by simp [cf]
theorem cf_put {p x : Int} {t : List Int} (h : x ≠ p) : cf p (x :: t) = x :: cf x t := by simp [cf, h]
/-- What the inner loop has done. -/
structure Ci (L : List Int) (j k2 kk : Nat) (X : List Int) : Prop where
  len : X.length = L.length
  drop : ∀ i, j + k2 - 1 ≤ i → X[i]? = L[i]?
  k : kk ≤ j + k2 - 1
  c : ∀ (hi : j + k2 - 1 < L.length), compact L = X.take kk ++ cf L[j + k2 - 1] (L.drop (j + k2))
theorem Ci.skip {k2 kk : Nat} (h : Ci L j k2 kk X) (h1 : 1 ≤ k2) (hi : j + k2 < L.length) (he : L[j + k2] = L[j + k2 - 1]) : Ci L j (k2 + 1) kk X := by
  refine ⟨h.len, fun i hi => h.drop i (by omega), by have := h.k; omega, fun hi2 => ?_⟩
  have := h.c (by omega)
  rw [List.drop_eq_getElem_cons (by omega), he, cf_skip] at this
  simpa only [← Nat.add_assoc, Nat.add_sub_cancel, he] using this
theorem Ci.put {k2 kk : Nat} (h : Ci L j k2 kk X) (h1 : 1 ≤ k2) (hi : j + k2 < L.length) (he : L[j + k2] ≠ L[j + k2 - 1]) : Ci L j (k2 + 1) (kk + 1) (X.set kk L[j + k2]) := by
  have hk := h.k
  have hl := h.len
  refine ⟨by simp [hl], fun i hi => ?_, by omega, fun hi2 => ?_⟩
  · rw [List.getElem?_set_ne (by omega)]; exact h.drop i (by omega)
  · have := h.c (by omega)
    rw [List.drop_eq_getElem_cons (by omega), cf_put he] at this
    have e : (X.set kk L[j + k2]).take (kk + 1) = X.take kk ++ [L[j + k2]] := by
      rw [take_snoc (by simp; omega), List.take_set_of_le (Nat.le_refl _)]; simp
    rw [e, List.append_assoc]
    simpa only [← Nat.add_assoc, Nat.add_sub_cancel, List.cons_append, List.nil_append] using this
theorem Ci.done {k2 kk : Nat} (h : Ci L j k2 kk X) (h1 : 1 ≤ k2) (hj : j + k2 = L.length) : compact L = X.take kk ∧ kk ≤ X.length := by
  have := h.c (by omega)
  rw [List.drop_eq_nil_of_le (by omega)] at this
  exact ⟨by simpa [cf] using this, by have := h.k; have := h.len; omega⟩
theorem compact_ok (hs : Slc 1 s L.length (iz .i64 L) A) (ho : Own h (A ++ F)) (hn : L.length + 2 ≤ n) (hl : L.length < 4611686018427387904) :
    ∃ s' h' A', f_slices_Compact_int_int n s h = some ((s', ()), h') ∧ Slc 1 s' (compact L).length (iz .i64 (compact L)) A' ∧ Own h' (A' ++ F) := by
  have hlb := hs.lenB
  have hnt := hs.notT
  by_cases h2 : L.length < 2
  · have hc : compact L = L := by
      match L, h2 with
      | [], _ => rfl
      | [x], _ => rfl
    refine ⟨s, h, A, ?_, by rw [hc]; exact hs, ho⟩
    have : ((L.length : Int) < 2) := by omega
    simp only [f_slices_Compact_int_int, hlb, Option.bind_some, this, decide_true, cond_true, hnt, Bool.not_false]
  · rcases slc_blk hs with ⟨_, rfl, _⟩ | ⟨b, off, sp, c, pre, rest, rfl, rfl, hp, c1, c2⟩
    · exact absurd (by simp) h2
    obtain ⟨r, e, s', A', hr, q1, q2⟩ := loopT_up (f := fun a => f_slices_Compact_int_int_L30 n (.slice (some ⟨b, off, sp⟩) L.length c) a.1.1 a.2)
      (fun j' (a : (Int × Unit) × Heap) => ∃ j : Nat, j = j' + 1 ∧ a = (((j : Int), ()), h) ∧ ∀ (hj : j - 1 < L.length), compact L = L.take j ++ cf L[j - 1] (L.drop j))
      (fun r => ∃ s' A', r.1 = (s', ()) ∧ Slc 1 s' (compact L).length (iz .i64 (compact L)) A' ∧ Own r.2 (A' ++ F)) (N := L.length - 1) (k := n) (j := 0) (a := ((1, ()), h)) (by omega) (by omega)
      (⟨1, rfl, rfl, fun hj => by
        match L, h2 with
        | x :: t, _ => simp [compact]⟩)
      (fun j' a hj hi => by
        · obtain ⟨j, hjj, rfl, hc⟩ := hi
          have hj1 : 1 ≤ j := by omega
          have hj : j < L.length := by omega
          have hlt : (j : Int) < (L.length : Int) := by omega
          have e1 := ix1 (b := b) (off := off) (sp := sp) (c := c) hj
          have e2 := blk_ld hp ho hj (rfl : off + j = off + j)
          have w1 := wrap_pred hj1 (by omega : j < 4611686018427387904)
          have e3 := ix1 (b := b) (off := off) (sp := sp) (c := c) (by omega : j - 1 < L.length)
          have e4 := blk_ld hp ho (by omega : j - 1 < L.length) (rfl : off + (j - 1) = off + (j - 1))
          have hcj := hc (by omega)
          rw [List.drop_eq_getElem_cons hj] at hcj
          by_cases he : L[j] = L[j - 1]
          · -- the first double
            refine .inr ?_
            have p9 := sliceK_l (h := h) (es := 1) (k' := .i64) (b := b) (off := off) (sp := sp) (n := L.length) (c := c) (j := j) (by omega) c1
            obtain ⟨r, e, kk, X, r1, r2, r3⟩ := loopT_up (f := fun a => f_slices_Compact_int_int_L23 n (.slice (some ⟨b, off, sp⟩) L.length c) (.slice (some ⟨b, off + j * 1, sp⟩) (L.length - j) (c - j), h) a.1.1 a.1.2.1 a.2)
              (fun k' (a : (Int × Int × Unit) × Heap) => ∃ (k2 : Nat), k2 = k' + 1 ∧ ∃ (kk : Nat) (X : List Int), a.1 = ((kk : Int), ((k2 : Int), ())) ∧ Ci L j k2 kk X ∧ Own a.2 ((b, Blk pre X rest) :: F))
              (fun r => ∃ (kk : Nat) (X : List Int), r.1 = ((kk : Int), ()) ∧ Ci L j (L.length - j) kk X ∧ Own r.2 ((b, Blk pre X rest) :: F)) (N := L.length - j - 1) (k := n) (j := 0) (a := (((j : Int), (1, ())), h)) (by omega) (by omega)
              (⟨1, rfl, j, L, rfl, ⟨rfl, fun _ _ => rfl, by omega, fun hi => by rw [hcj, he, cf_skip]; simp only [show j + 1 - 1 = j by omega, he]⟩, ho⟩)
              (fun k' a hk hi => by
                obtain ⟨⟨v10, v11, _⟩, h12⟩ := a
                · obtain ⟨k2, hkk2, kk, X, e0, hci, o12⟩ := hi
                  have hk1 : 1 ≤ k2 := by omega
                  have hk : k2 < L.length - j := by omega
                  cases e0
                  have o12 : Own h12 _ := o12
                  have hlen := hci.len
                  have hlt2 : (k2 : Int) < ((L.length - j : Nat) : Int) := by omega
                  have g1 := ix1 (b := b) (off := off + j * 1) (sp := sp) (c := c - j) (m := L.length - j) hk
                  have g2 := blk_ld (i := j + k2) (o := off + j * 1 + k2) hp o12 (by omega) (by omega)
                  have w2 := wrap_pred hk1 (by omega : k2 < 4611686018427387904)
                  have g3 := ix1 (b := b) (off := off + j * 1) (sp := sp) (c := c - j) (m := L.length - j) (i := k2 - 1) (by omega)
                  have g4 := blk_ld (i := j + k2 - 1) (o := off + j * 1 + (k2 - 1)) hp o12 (by omega) (by omega)
                  have x1 : X[j + k2]'(by omega) = L[j + k2] := by have := hci.drop (j + k2) (by omega); rw [List.getElem?_eq_getElem (by omega), List.getElem?_eq_getElem (by omega)] at this; exact Option.some.inj this
                  have x2 : X[j + k2 - 1]'(by omega) = L[j + k2 - 1] := by have := hci.drop (j + k2 - 1) (by omega); rw [List.getElem?_eq_getElem (by omega), List.getElem?_eq_getElem (by omega)] at this; exact Option.some.inj this
                  rw [x1] at g2
                  rw [x2] at g4
                  refine .inl ?_
                  by_cases hne : L[j + k2] = L[j + k2 - 1]
                  · exact ⟨(((kk : Int), (((k2 + 1 : Nat) : Int), ())), h12), by simp only [f_slices_Compact_int_int_L23, Go.Proofs.Ythfkoanomhnpjaa.lenB, Option.bind_some, hlt2, decide_true, cond_true, g1, g2, w2, g3, g4, hne, Bool.not_true, cond_false, wrap_succ (show k2 < 4611686018427387904 by omega)], ⟨k2 + 1, by omega, kk, X, rfl, hci.skip hk1 (by omega) hne, o12⟩⟩
                  · have hkk := hci.k
                    have g5 := ix1 (b := b) (off := off) (sp := sp) (c := c) (m := L.length) (i := kk) (by omega)
                    obtain ⟨h21, g6, o21⟩ := blk_st (i := kk) (o := off + kk) (z := L[j + k2]) hp o12 (by omega) rfl
                    exact ⟨((((kk + 1 : Nat) : Int), (((k2 + 1 : Nat) : Int), ())), h21), by simp only [f_slices_Compact_int_int_L23, Go.Proofs.Ythfkoanomhnpjaa.lenB, Option.bind_some, hlt2, decide_true, cond_true, g1, g2, w2, g3, g4, hne, decide_false, Bool.not_false, g5, g6, wrap_succ (show kk < 4611686018427387904 by omega), wrap_succ (show k2 < 4611686018427387904 by omega)], ⟨k2 + 1, by omega, kk + 1, _, rfl, hci.put hk1 (by omega) hne, o21⟩⟩
                )
              (fun a hi => by
                obtain ⟨⟨v10, v11, _⟩, h12⟩ := a
                obtain ⟨k2, hkk2, kk, X, e0, hci, o12⟩ := hi
                have hk2 : k2 = L.length - j := by omega
                rw [hk2] at e0 hci
                cases e0
                have hlt2 : ¬ ((L.length - j : Nat) : Int) < ((L.length - j : Nat) : Int) := by omega
                exact ⟨(((kk : Int), ()), h12), by simp only [f_slices_Compact_int_int_L23, Go.Proofs.Ythfkoanomhnpjaa.lenB, Option.bind_some, hlt2, decide_false, cond_false], kk, X, rfl, hci, o12⟩)
            obtain ⟨⟨v24, _⟩, h24⟩ := r
            cases r1
            have r3 : Own h24 _ := r3
            obtain ⟨d1, d2⟩ := r2.done (by omega) (by omega)
            have hXl := r2.len
            have p25 := sliceK_l (h := h24) (es := 1) (k' := .i64) (b := b) (off := off) (sp := sp) (n := L.length) (c := c) (j := kk) (by omega) c1
            have p26 := clearK_of (zs := [.int .i64 0]) (n := L.length - kk) (c := c - kk) (sp := sp) (off := off + kk * 1) r3.head (by simp; omega)
            have p27 := sliceK_h (h := h24.put b (.cells (writeAt (pre ++ (iz .i64 X ++ rest)) (off + kk * 1) (List.replicate (L.length - kk) [Value.int .i64 0]).flatten) false 1)) (es := 1) (k' := .i64) (b := b) (off := off) (sp := sp) (n := L.length) (c := c) (j := kk) (by omega)
            have hw : writeAt (pre ++ (iz .i64 X ++ rest)) (off + kk * 1) (List.replicate (L.length - kk) [Value.int .i64 0]).flatten = pre ++ (iz .i64 (X.take kk ++ List.replicate (L.length - kk) 0) ++ rest) := by
              have hz : (List.replicate (L.length - kk) [Value.int .i64 0]).flatten = iz .i64 (List.replicate (L.length - kk) 0) := by
                generalize L.length - kk = m
                induction m with
                | zero => rfl
                | succ m ih => rw [List.replicate_succ, List.flatten_cons, ih]; rfl
              rw [hz, Nat.mul_one, ← hp, writeAt_mid (by simp; omega), writeAt_eq _ _ _ (by simp; omega)]
              congr 2
              rw [List.drop_eq_nil_of_le (by simp; omega), List.append_nil, iz_append]
              simp [iz, List.map_take]
            rw [hw] at p26 p27
            refine ⟨((.slice (some ⟨b, off, sp⟩) kk c, ()), h24.put b (Blk pre (X.take kk ++ List.replicate (L.length - kk) 0) rest)), by simp only [f_slices_Compact_int_int_L30, Go.Proofs.Ythfkoanomhnpjaa.lenB, Option.bind_some, hlt, decide_true, cond_true, f_slices_Compact_int_int_C28, e1, e2, w1, e3, e4, he, p9, e, p25, p26, p27, isTuple, Bool.not_false, Option.map_some, thenB_inr], .slice (some ⟨b, off, sp⟩) kk c, [(b, Blk pre (X.take kk ++ List.replicate (L.length - kk) 0) rest)], rfl, ?_, r3.put _⟩
            have hk : (X.take kk).length = kk := by rw [List.length_take]; omega
            have := blk_slc (b := b) (sp := sp) (c := c) (rest := rest) (X := X.take kk ++ List.replicate (L.length - kk) 0) (i := kk) hp (by rw [List.length_append, hk]; omega) (by omega) (by rw [List.length_append, hk, List.length_replicate]; omega)
            rw [List.take_append_of_le_length (by omega), List.take_take, Nat.min_self] at this
            rwa [d1, hk]
          · refine .inl ⟨((((j + 1 : Nat) : Int), ()), h), by simp only [f_slices_Compact_int_int_L30, Go.Proofs.Ythfkoanomhnpjaa.lenB, Option.bind_some, hlt, decide_true, cond_true, f_slices_Compact_int_int_C28, e1, e2, w1, e3, e4, he, decide_false, cond_false, thenB_inl, wrap_succ (show j < 4611686018427387904 by omega)], ⟨j + 1, by omega, rfl, fun hj => ?_⟩⟩
            rw [hcj, cf_put he, take_snoc (by omega), List.append_assoc]
            simp
        )
      (fun a hi => by
        obtain ⟨j, hjj, rfl, hc⟩ := hi
        obtain rfl : j = L.length := by omega
        have hlt : ¬ (L.length : Int) < (L.length : Int) := by omega
        have hcj := hc (by omega)
        rw [List.drop_length, List.take_length] at hcj
        have hcl : compact L = L := by simpa [cf] using hcj
        exact ⟨((.slice (some ⟨b, off, sp⟩) L.length c, ()), h), by simp only [f_slices_Compact_int_int_L30, Go.Proofs.Ythfkoanomhnpjaa.lenB, Option.bind_some, hlt, decide_false, cond_false, isTuple, Bool.not_false, cond_true, Option.map_some], _, _, rfl, by rw [hcl]; exact hs, ho⟩)
    obtain ⟨⟨v, _⟩, h'⟩ := r
    cases hr
    have : ¬ ((L.length : Int) < 2) := by omega
    exact ⟨s', h', A', by simp only [f_slices_Compact_int_int, Go.Proofs.Ythfkoanomhnpjaa.lenB, Option.bind_some, this, decide_false, cond_false, e], q1, q2⟩
theorem clip_ok (hs : Slc 1 s L.length (iz .i64 L) A) : ∃ s', f_slices_Clip_int_int n s h = some ((s', ()), h) ∧ Slc 1 s' L.length (iz .i64 L) A := by
  rcases slc_blk hs with ⟨rfl, rfl, rfl⟩ | ⟨b, off, sp, c, pre, rest, rfl, rfl, hp, c1, c2⟩
  · exact ⟨_, rfl, .nil⟩
  · have e := sliceK_hm (h := h) (es := 1) (k := .i64) (k' := .i64) (b := b) (off := off) (sp := sp) (n := L.length) (c := c) (Nat.le_refl L.length) c1
    refine ⟨.slice (some ⟨b, off, some 0⟩) L.length L.length, by simp only [f_slices_Clip_int_int, Go.Proofs.Ythfkoanomhnpjaa.lenB, Option.bind_some, e, isTuple, Bool.not_false, cond_true], ?_⟩
    have := blk_slc (b := b) (sp := some 0) (c := L.length) (rest := rest) (X := L) (i := L.length) hp (Nat.le_refl _) (Nat.le_refl _) (by omega)
    rwa [List.take_length] at this
theorem rising_ok (hr : Sow 1 s L.length (iz .i64 L) G) (ho : Own h (G ++ F)) (hn : L.length + 2 ≤ n) (hl : L.length * 8 ≤ 140737488355328) :
    ∃ s' h' A', f_blocks_rising n s h = some ((s', ()), h') ∧ Slc 1 s' (form L).length (iz .i64 (form L)) A' ∧ Own h' (A' ++ (G ++ F)) := by
  obtain ⟨s0, h0, A0, e0, y0, o0⟩ := cloneI_ok (n := n) hr ho hl
  obtain ⟨h1, A1, e1, y1, o1⟩ := sort_ok (n := n) y0 o0 (by omega)
  have y1 : Slc 1 s0 (isort L).length (iz .i64 (isort L)) A1 := by rw [isort_length]; exact y1
  obtain ⟨s2, h2, A2, e2, y2, o2⟩ := compact_ok (n := n) y1 o1 (by rw [isort_length]; exact hn) (by rw [isort_length]; omega)
  obtain ⟨s3, e3, y3⟩ := clip_ok (n := n) (h := h2) y2
  exact ⟨s3, h2, A2, by simp only [f_blocks_rising, e0, Option.bind_some, e1, e2, e3, y3.notT, Bool.not_false, cond_true], y3, o2⟩
theorem take_mem_snoc {j : Nat} (hj : j < L.length) : t ∈ L.take (j + 1) ↔ t ∈ L.take j ∨ t = L[j] := by
  rw [take_snoc hj, List.mem_append, List.mem_singleton]
theorem same5_ok (hr : Rds h 1 s L.length (iz .i64 L)) (hr2 : Rds h 1 u L.length (iz .i64 L)) (hn : L.length + 1 ≤ n) (hl : L.length < 4611686018427387904) : f_wicketref05_Same n s u h = some ((true, ()), h) := by
  obtain ⟨r, e, q⟩ := loopT_up (f := fun a => f_wicketref05_Same_L9 n u s a.1.1 a.2)
    (fun j (a : (Int × Unit) × Heap) => a = (((j : Int), ()), h)) (fun r => r = ((true, ()), h)) (N := L.length) (k := n) (j := 0) (a := ((0, ()), h)) (by omega) (by omega) rfl
    (fun j a hj hi => by
      subst hi
      have hlt : (j : Int) < (L.length : Int) := by omega
      obtain ⟨q, e1, e2⟩ := hr.int hj
      obtain ⟨q', e3, e4⟩ := hr2.int hj
      exact .inl ⟨_, by simp only [f_wicketref05_Same_L9, hr.lenB, hlt, decide_true, cond_true, e1, e2, e3, e4, Option.bind_some, Bool.not_true, cond_false, wrap_succ (show j < 4611686018427387904 by omega)], rfl⟩)
    (fun a hi => by
      subst hi
      have hlt : ¬ (L.length : Int) < (L.length : Int) := by omega
      exact ⟨_, by simp only [f_wicketref05_Same_L9, hr.lenB, Option.bind_some, hlt, decide_false, cond_false], rfl⟩)
  simp only [f_wicketref05_Same, hr.lenB, hr2.lenB, Option.bind_some, decide_true, Bool.not_true, cond_false, e, q]

theorem turn_blk (hp : pre.length = off) (ho : Own h ((b, Blk pre L rest) :: F)) (hn : L.length + 2 ≤ n) (hl : L.length < 4611686018427387904) :
    ∃ h' X, f_wicketlaw05_turn n (.slice (some ⟨b, off, sp⟩) L.length c) h = some ((), h') ∧ X.length = L.length ∧ (∀ x ∈ X, x ∈ L) ∧ Own h' ((b, Blk pre X rest) :: F) := by
  have hd : IntKind.i64.wrap (Int.tdiv (L.length : Int) 2) = ((L.length / 2 : Nat) : Int) := by
    rw [show Int.tdiv (L.length : Int) 2 = ((L.length / 2 : Nat) : Int) from rfl, wrap_i64 (by omega) (by omega)]
  obtain ⟨⟨u, h1⟩, e, X, q1, q2, q3⟩ := loopT_up (f := fun a => f_wicketlaw05_turn_L13 n (.slice (some ⟨b, off, sp⟩) L.length c) a.1.1 a.2)
    (fun j (a : (Int × Unit) × Heap) => a.1 = ((j : Int), ()) ∧ ∃ X : List Int, X.length = L.length ∧ (∀ x ∈ X, x ∈ L) ∧ Own a.2 ((b, Blk pre X rest) :: F))
    (fun r => ∃ X : List Int, X.length = L.length ∧ (∀ x ∈ X, x ∈ L) ∧ Own r.2 ((b, Blk pre X rest) :: F)) (N := L.length / 2) (k := n) (j := 0) (a := ((0, ()), h)) (by omega) (by omega) ⟨rfl, L, rfl, fun _ h => h, ho⟩
    (fun j a hj hi => by
      obtain ⟨⟨v, _⟩, h1⟩ := a
      obtain ⟨e0, X, x1, x2, o1⟩ := hi
      cases e0
      have o1 : Own h1 _ := o1
      have hlt : (j : Int) < ((L.length / 2 : Nat) : Int) := by omega
      have w1 := wrap_pred (j := L.length) (by omega) hl
      have w2 : IntKind.i64.wrap (((L.length - 1 : Nat) : Int) - (j : Int)) = ((L.length - 1 - j : Nat) : Int) := by rw [wrap_i64 (by omega) (by omega)]; omega
      have g1 := ix1 (b := b) (off := off) (sp := sp) (c := c) (m := L.length) (i := L.length - 1 - j) (by omega)
      have g2 := blk_ld (i := L.length - 1 - j) hp o1 (by omega) rfl
      have g3 := ix1 (b := b) (off := off) (sp := sp) (c := c) (m := L.length) (i := j) (by omega)
      have g4 := blk_ld (i := j) hp o1 (by omega) rfl
      obtain ⟨h2, g5, o2⟩ := blk_st (i := j) (z := X[L.length - 1 - j]'(by omega)) hp o1 (by omega) rfl
      obtain ⟨h3, g6, o3⟩ := blk_st (i := L.length - 1 - j) (z := X[j]'(by omega)) hp o2 (by simp; omega) rfl
      refine .inl ⟨((((j + 1 : Nat) : Int), ()), h3), by simp only [f_wicketlaw05_turn_L13, Go.Proofs.Ythfkoanomhnpjaa.lenB, Option.bind_some, hd, hlt, decide_true, cond_true, w1, w2, g1, g2, g3, g4, g5, g6, wrap_succ (show j < 4611686018427387904 by omega)], rfl, _, ?_, ?_, o3⟩
      · simp [x1]
      · intro x hx
        rcases List.mem_or_eq_of_mem_set hx with hx | rfl
        · rcases List.mem_or_eq_of_mem_set hx with hx | rfl
          · exact x2 x hx
          · exact x2 _ (List.getElem_mem _)
        · exact x2 _ (List.getElem_mem _))
    (fun a hi => by
      obtain ⟨⟨v, _⟩, h1⟩ := a
      obtain ⟨e0, X, x1, x2, o1⟩ := hi
      cases e0
      have hlt : ¬ ((L.length / 2 : Nat) : Int) < ((L.length / 2 : Nat) : Int) := by omega
      exact ⟨((), h1), by simp only [f_wicketlaw05_turn_L13, Go.Proofs.Ythfkoanomhnpjaa.lenB, Option.bind_some, hd, hlt, decide_false, cond_false], X, x1, x2, o1⟩)
  have q3 : Own h1 _ := q3
  by_cases h0 : L.length = 0
  · have : ¬ (0 : Int) < (L.length : Int) := by omega
    exact ⟨h1, X, by simp only [f_wicketlaw05_turn, e, Option.bind_some, Go.Proofs.Ythfkoanomhnpjaa.lenB, this, decide_false, cond_false], q1, q2, q3⟩
  · have h3 : (0 : Int) < (L.length : Int) := by omega
    have w1 := wrap_pred (j := L.length) (by omega) hl
    have g1 := ix1 (b := b) (off := off) (sp := sp) (c := c) (m := L.length) (i := L.length - 1) (by omega)
    have g2 := blk_ld (i := L.length - 1) hp q3 (by omega) rfl
    have g3 : ixB 1 (.slice (some ⟨b, off, sp⟩) L.length c) 0 = some ⟨b, off + 0, none⟩ := ix1 (i := 0) (by omega)
    obtain ⟨h2, g5, o2⟩ := blk_st (i := 0) (z := X[L.length - 1]'(by omega)) hp q3 (by omega) rfl
    refine ⟨h2, _, by simp only [f_wicketlaw05_turn, e, Option.bind_some, Go.Proofs.Ythfkoanomhnpjaa.lenB, h3, decide_true, cond_true, w1, g1, g2, g3, g5], by simp [q1], fun x hx => ?_, o2⟩
    rcases List.mem_or_eq_of_mem_set hx with hx | rfl
    · exact q2 x hx
    · exact q2 _ (List.getElem_mem _)
end
end Go.Proofs.Ythfkoanomhnpjaa

/- The one form of a declared set, as the program finds it. -/
namespace Go.Proofs.Ythfkoanomhnpjaa
open Go
set_option linter.unusedVariables false
set_option linter.unusedSimpArgs false
/-- Bounds that may not be. -/
def badB (b m : Int) : Bool := decide (b < 1) || (decide (64 < b) || (decide (m < 1) || (decide (16 < m) || decide (b < m))))
/-- What Form answers: the form, the error. -/
def formE (L : List Int) (b m : Int) : List Int × Int :=
  if badB b m = true then ([], 2) else if L = [] then ([], 50) else if ∃ x ∈ L, x < 0 ∨ b ≤ x then ([], 51) else if m < ((form L).length : Int) then ([], 52) else (form L, 0)
theorem formE_len {L : List Int} {b m : Int} : (formE L b m).1.length ≤ L.length := by
  unfold formE
  split
  · exact Nat.zero_le _
  split
  · exact Nat.zero_le _
  split
  · exact Nat.zero_le _
  split
  · exact Nat.zero_le _
  · exact form_len
section
variable {n : Nat} {s u : Value} {L X Y : List Int} {b m t z : Int} {h : Heap} {G F A B : Ch} {cs pre rest : List Value}
theorem guard5 : ((bif (decide (b < 1)) then (some ((true, ()), h)) else (bif (decide (64 < b)) then (some ((true, ()), h)) else (bif (decide (m < 1)) then (some ((true, ()), h)) else (bif (decide (16 < m)) then (some ((true, ()), h)) else (some (((decide (b < m)), ()), h)))))) : Option ((Bool × Unit) × Heap)) = some ((badB b m, ()), h) := by
  unfold badB
  cases decide (b < 1) <;> cases decide (64 < b) <;> cases decide (m < 1) <;> cases decide (16 < m) <;> rfl
theorem form_out (h0 : L ≠ []) (hf : 0 < (form L).length) : ((form L)[0] < 0 ∨ b ≤ (form L)[(form L).length - 1]) ↔ ∃ x ∈ L, x < 0 ∨ b ≤ x := by
  constructor
  · rintro (h | h)
    · exact ⟨_, form_mem.1 (List.getElem_mem _), .inl h⟩
    · exact ⟨_, form_mem.1 (List.getElem_mem _), .inr h⟩
  · rintro ⟨x, hx, h⟩
    obtain ⟨i, hi, rfl⟩ := List.mem_iff_getElem.1 (form_mem.2 hx)
    rcases h with h | h
    · left
      by_cases h1 : i = 0
      · subst h1; exact h
      · have := lt_first (form_lt (L := L)) (by omega : 0 < i) hi; omega
    · right
      by_cases h1 : i = (form L).length - 1
      · subst h1; exact h
      · have := lt_first (form_lt (L := L)) (by omega : i < (form L).length - 1) (by omega); omega
theorem bform_ok (hr : Sow 1 s L.length (iz .i64 L) G) (ho : Own h (G ++ F)) (hn : L.length + 2 ≤ n) (hl : L.length * 8 ≤ 140737488355328) :
    ∃ v h' A', f_blocks_Form n s b m h = some ((v, ((formE L b m).2, ())), h') ∧ Slc 1 v (formE L b m).1.length (iz .i64 (formE L b m).1) A' ∧ Own h' (A' ++ (G ++ F)) := by
  have hlb := (hr.rds ho).lenB
  cases hg : badB b m with
  | true => exact ⟨.slice none 0 0, h, [], by simp only [f_blocks_Form, guard5, Option.bind_some, hg, cond_true, formE, if_true], by simp only [formE, hg, if_true]; exact .nil, ho⟩
  | false =>
    by_cases h0 : L = []
    · subst h0
      exact ⟨.slice none 0 0, h, [], by simp only [f_blocks_Form, guard5, Option.bind_some, hg, cond_false, hlb, show ((([] : List Int).length : Nat) : Int) = 0 from rfl, decide_true, cond_true, formE, hg, if_true, Bool.false_eq_true, if_false], by simp only [formE, hg, Bool.false_eq_true, if_false, if_true]; exact .nil, ho⟩
    · have h1 : ¬ ((L.length : Int) = 0) := by
        have := List.length_pos_iff.2 h0; omega
      obtain ⟨v, h2, A2, e2, y2, o2⟩ := rising_ok (n := n) hr ho hn hl
      have hf : 0 < (form L).length := List.length_pos_iff.2 fun e => h0 (form_nil.1 e)
      obtain ⟨q3, e3, e4⟩ := (y2.rds o2).int (i := 0) hf
      obtain ⟨q6, e6, e7⟩ := (y2.rds o2).int (i := (form L).length - 1) (by omega)
      have hfl := form_len (L := L)
      have w1 := wrap_pred (j := (form L).length) (by omega) (by omega)
      have hout := form_out (b := b) h0 hf
      have e3 : ixB 1 v 0 = some q3 := e3
      have ho2 : Own h2 (G ++ F) := o2.right
      by_cases hx : ∃ x ∈ L, x < 0 ∨ b ≤ x
      · refine ⟨.slice none 0 0, h2, [], ?_, by simp only [formE, hg, h0, hx, Bool.false_eq_true, if_false, if_true]; exact .nil, ho2⟩
        by_cases h3 : (form L)[0] < 0
        · simp only [f_blocks_Form, guard5, Option.bind_some, hg, cond_false, hlb, h1, decide_false, e2, e3, e4, h3, decide_true, cond_true, formE, h0, hx, Bool.false_eq_true, if_false, if_true]
        · have h4 : b ≤ (form L)[(form L).length - 1] := (hout.2 hx).resolve_left h3
          simp only [f_blocks_Form, guard5, Option.bind_some, hg, cond_false, hlb, h1, decide_false, e2, e3, e4, h3, y2.lenB, w1, e6, e7, h4, decide_true, cond_true, formE, h0, hx, Bool.false_eq_true, if_false, if_true]
      · have h3 : ¬ (form L)[0] < 0 := fun h => hx (hout.1 (.inl h))
        have h4 : ¬ b ≤ (form L)[(form L).length - 1] := fun h => hx (hout.1 (.inr h))
        by_cases h5 : m < ((form L).length : Int)
        · exact ⟨.slice none 0 0, h2, [], by simp only [f_blocks_Form, guard5, Option.bind_some, hg, cond_false, hlb, h1, decide_false, e2, e3, e4, h3, y2.lenB, w1, e6, e7, h4, h5, decide_true, cond_true, formE, h0, hx, Bool.false_eq_true, if_false, if_true], by simp only [formE, hg, h0, hx, h5, Bool.false_eq_true, if_false, if_true]; exact .nil, ho2⟩
        · exact ⟨v, h2, A2, by simp only [f_blocks_Form, guard5, Option.bind_some, hg, cond_false, hlb, h1, decide_false, e2, e3, e4, h3, y2.lenB, w1, e6, e7, h4, h5, y2.notT, Bool.not_false, cond_true, formE, h0, hx, Bool.false_eq_true, if_false], by simp only [formE, hg, h0, hx, h5, Bool.false_eq_true, if_false]; exact y2, o2⟩
end
end Go.Proofs.Ythfkoanomhnpjaa

/- Membership, as the document says it. -/
namespace Go.Proofs.Ythfkoanomhnpjaa
open Go
set_option linter.unusedVariables false
set_option linter.unusedSimpArgs false
section
variable {n m i : Nat} {s u : Value} {L X Y : List Int} {t z : Int} {h : Heap} {G F A B : Ch} {cs : List Value}
theorem rhas_ok (hr : Rds h 1 s L.length (iz .i64 L)) (hn : L.length + 1 ≤ n) (hl : L.length < 4611686018427387904) : f_wicketref05_Has n s t h = some ((decide (t ∈ L), ()), h) := by
  obtain ⟨r, e, q⟩ := loopT_up (f := fun a => f_wicketref05_Has_L5 n t s a.1.1 a.2)
    (fun j (a : (Int × Unit) × Heap) => a = (((j : Int), ()), h) ∧ ¬ t ∈ L.take j) (fun r => r = ((decide (t ∈ L), ()), h)) (N := L.length) (k := n) (j := 0) (a := ((0, ()), h)) (by omega) (by omega) ⟨rfl, by simp⟩
    (fun j a hj hi => by
      obtain ⟨rfl, hi⟩ := hi
      have hlt : (j : Int) < (L.length : Int) := by omega
      obtain ⟨q, e1, e2⟩ := hr.int hj
      by_cases hc : L[j] = t
      · have hm : t ∈ L := hc ▸ List.getElem_mem hj
        exact .inr ⟨((true, ()), h), by simp only [f_wicketref05_Has_L5, hr.lenB, hlt, decide_true, cond_true, e1, e2, Option.bind_some, hc], by simp only [hm, decide_true]⟩
      · refine .inl ⟨_, by simp only [f_wicketref05_Has_L5, hr.lenB, hlt, decide_true, cond_true, e1, e2, Option.bind_some, hc, decide_false, cond_false, wrap_succ (show j < 4611686018427387904 by omega)], rfl, ?_⟩
        rw [take_mem_snoc hj]
        exact fun h => h.elim hi fun e => hc e.symm)
    (fun a hi => by
      obtain ⟨rfl, hi⟩ := hi
      have hlt : ¬ (L.length : Int) < (L.length : Int) := by omega
      rw [List.take_length] at hi
      exact ⟨((false, ()), h), by simp only [f_wicketref05_Has_L5, hr.lenB, Option.bind_some, hlt, decide_false, cond_false], by simp only [hi, decide_false]⟩)
  rw [f_wicketref05_Has, e, q]
end
end Go.Proofs.Ythfkoanomhnpjaa

/- The one form, as the document says it. -/
namespace Go.Proofs.Ythfkoanomhnpjaa
open Go
set_option linter.unusedVariables false
set_option linter.unusedSimpArgs false
/-- The numbers below j that stand in L. -/
def upTo (L : List Int) : Nat → List Int
  | 0 => []
  | j + 1 => upTo L j ++ (if (j : Int) ∈ L then [(j : Int)] else [])
theorem upTo_mem {L : List Int} {x : Int} : ∀ {j : Nat}, x ∈ upTo L j ↔ (0 ≤ x ∧ x < (j : Int) ∧ x ∈ L) := by
  intro j
  induction j with
  | zero => constructor
            · intro h; cases h
            · rintro ⟨h1, h2, _⟩; omega
  | succ j ih =>
    rw [upTo, List.mem_append, ih]
    by_cases hj : (j : Int) ∈ L
    · rw [if_pos hj, List.mem_singleton]
      constructor
      · rintro (⟨h1, h2, h3⟩ | rfl)
        · exact ⟨h1, by omega, h3⟩
        · exact ⟨by omega, by omega, hj⟩
      · rintro ⟨h1, h2, h3⟩
        by_cases h4 : x = (j : Int)
        · exact .inr h4
        · exact .inl ⟨h1, by omega, h3⟩
    · rw [if_neg hj]
      constructor
      · rintro (⟨h1, h2, h3⟩ | h)
        · exact ⟨h1, by omega, h3⟩
        · cases h
      · rintro ⟨h1, h2, h3⟩
        refine .inl ⟨h1, ?_, h3⟩
        have : x ≠ (j : Int) := fun e => hj (e ▸ h3)
        omega
theorem upTo_lt {L : List Int} : ∀ {j : Nat}, (upTo L j).Pairwise (· < ·) := by
  intro j
  induction j with
  | zero => exact .nil
  | succ j ih =>
    rw [upTo, List.pairwise_append]
    refine ⟨ih, ?_, fun x hx y hy => ?_⟩
    · split
      · exact List.pairwise_singleton _ _
      · exact .nil
    · have := (upTo_mem.1 hx).2.1
      split at hy
      · rw [List.mem_singleton.1 hy]; exact this
      · cases hy
theorem upTo_len {L : List Int} : ∀ {j : Nat}, (upTo L j).length ≤ j := by
  intro j
  induction j with
  | zero => exact Nat.le_refl _
  | succ j ih =>
    rw [upTo, List.length_append]
    split
    · simp; omega
    · simp; omega
section
variable {n : Nat} {s u : Value} {L X Y : List Int} {b m t z : Int} {h : Heap} {G F A B : Ch} {cs pre rest : List Value}
theorem rform_ok (hr : Sow 1 s L.length (iz .i64 L) G) (ho : Own h (G ++ F)) (hn : L.length + 100 ≤ n) (hl : L.length < 4611686018427387904) :
    ∃ v h' A', f_wicketref05_Form n s b m h = some ((v, ((formE L b m).2, ())), h') ∧ Slc 1 v (formE L b m).1.length (iz .i64 (formE L b m).1) A' ∧ Own h' (A' ++ (G ++ F)) := by
  have hlb := (hr.rds ho).lenB
  cases hg : badB b m with
  | true => exact ⟨.slice none 0 0, h, [], by simp only [f_wicketref05_Form, guard5, Option.bind_some, hg, cond_true, formE, if_true], by simp only [formE, hg, if_true]; exact .nil, ho⟩
  | false =>
    by_cases h0 : L = []
    · subst h0
      exact ⟨.slice none 0 0, h, [], by simp only [f_wicketref05_Form, guard5, Option.bind_some, hg, cond_false, hlb, show ((([] : List Int).length : Nat) : Int) = 0 from rfl, decide_true, cond_true, formE, hg, if_true, Bool.false_eq_true, if_false], by simp only [formE, hg, Bool.false_eq_true, if_false, if_true]; exact .nil, ho⟩
    · have h1 : ¬ ((L.length : Int) = 0) := by
        have := List.length_pos_iff.2 h0; omega
      have rr := hr.rds ho
      -- all of them in their bounds
      obtain ⟨r, e, q⟩ := loopT_up (f := fun a => f_wicketref05_Form_L11 n b s a.1.1 a.2)
        (fun j (a : (Int × Unit) × Heap) => a = (((j : Int), ()), h) ∧ ∀ x ∈ L.take j, ¬ (x < 0 ∨ b ≤ x)) (fun r => r = if ∃ x ∈ L, x < 0 ∨ b ≤ x then .inr ((.slice none 0 0, (51, ())), h) else .inl ((), h)) (N := L.length) (k := n) (j := 0) (a := ((0, ()), h)) (by omega) (by omega) ⟨rfl, by simp⟩
        (fun j a hj hi => by
          obtain ⟨rfl, hi⟩ := hi
          have hlt : (j : Int) < (L.length : Int) := by omega
          obtain ⟨q, e1, e2⟩ := rr.int hj
          by_cases hc : L[j] < 0
          · refine .inr ⟨.inr ((.slice none 0 0, (51, ())), h), by simp only [f_wicketref05_Form_L11, hlb, hlt, decide_true, cond_true, e1, e2, Option.bind_some, hc], ?_⟩
            rw [if_pos ⟨_, List.getElem_mem hj, .inl hc⟩]
          · by_cases hd : b ≤ L[j]
            · refine .inr ⟨.inr ((.slice none 0 0, (51, ())), h), by simp only [f_wicketref05_Form_L11, hlb, hlt, decide_true, cond_true, e1, e2, Option.bind_some, hc, decide_false, cond_false, hd], ?_⟩
              rw [if_pos ⟨_, List.getElem_mem hj, .inr hd⟩]
            · refine .inl ⟨((((j + 1 : Nat) : Int), ()), h), by simp only [f_wicketref05_Form_L11, hlb, hlt, decide_true, cond_true, e1, e2, Option.bind_some, hc, decide_false, cond_false, hd, wrap_succ (show j < 4611686018427387904 by omega)], rfl, fun x hx => ?_⟩
              rw [take_snoc hj, List.mem_append, List.mem_singleton] at hx
              rcases hx with hx | rfl
              · exact hi x hx
              · exact fun h => h.elim hc hd)
        (fun a hi => by
          obtain ⟨rfl, hi⟩ := hi
          have hlt : ¬ (L.length : Int) < (L.length : Int) := by omega
          rw [List.take_length] at hi
          refine ⟨.inl ((), h), by simp only [f_wicketref05_Form_L11, hlb, Option.bind_some, hlt, decide_false, cond_false], ?_⟩
          rw [if_neg (fun ⟨x, hx, hh⟩ => hi x hx hh)])
      by_cases hx : ∃ x ∈ L, x < 0 ∨ b ≤ x
      · rw [if_pos hx] at q
        subst q
        exact ⟨.slice none 0 0, h, [], by simp only [f_wicketref05_Form, guard5, Option.bind_some, hg, cond_false, hlb, h1, decide_false, f_wicketref05_Form_C12, e, thenB_inr, formE, h0, hx, Bool.false_eq_true, if_false, if_true], by simp only [formE, hg, h0, hx, Bool.false_eq_true, if_false, if_true]; exact .nil, ho⟩
      · rw [if_neg hx] at q
        subst q
        obtain ⟨bn, hb⟩ : ∃ bn : Nat, b = (bn : Int) ∧ bn ≤ 64 := by
          simp only [badB, Bool.or_eq_false_iff, decide_eq_false_iff_not] at hg
          exact ⟨b.toNat, by omega, by omega⟩
        obtain ⟨rfl, hbn⟩ := hb
        obtain ⟨⟨⟨v, _⟩, h23⟩, e23, A', y23, o23⟩ := loopT_up (f := fun a => f_wicketref05_Form_L22 n (bn : Int) s a.1.1 a.1.2.1 a.2)
          (fun j (a : (Value × Int × Unit) × Heap) => a.1.2 = ((j : Int), ()) ∧ ∃ A', Slc 1 a.1.1 (upTo L j).length (iz .i64 (upTo L j)) A' ∧ Own a.2 (A' ++ (G ++ F)))
          (fun r => ∃ A', Slc 1 r.1.1 (upTo L bn).length (iz .i64 (upTo L bn)) A' ∧ Own r.2 (A' ++ (G ++ F))) (N := bn) (k := n) (j := 0) (a := ((.slice none 0 0, (0, ())), h)) (by omega) (by omega) ⟨rfl, [], .nil, ho⟩
          (fun j a hj hi => by
            obtain ⟨⟨v, v15, _⟩, h16⟩ := a
            obtain ⟨e0, A', y, o⟩ := hi
            cases e0
            have o : Own h16 _ := o
            have y : Slc 1 v _ _ _ := y
            have hlt : (j : Int) < (bn : Int) := by omega
            have eh := rhas_ok (n := n) (t := (j : Int)) (hr.rds (h := h16) (F := A' ++ F) (o.to fun x => by simp only [cnt_append]; omega)) (by omega) hl
            by_cases hm : (j : Int) ∈ L
            · have f1 : fillL [.int .i64 0] [(0, 1, .int .i64 (j : Int))] = some [.int .i64 (j : Int)] := rfl
              have hul := upTo_len (L := L) (j := j)
              obtain ⟨v2, h2, A2, e2, y2, o2⟩ := y.push (new := [.int .i64 (j : Int)]) (h := h16) o (by decide) rfl (bytes := 8) (by omega)
              refine .inl ⟨((v2, (((j + 1 : Nat) : Int), ())), h2), by simp only [f_wicketref05_Form_L22, hlt, decide_true, cond_true, eh, Option.bind_some, hm, f1, bnd_eq, e2, wrap_succ (show j < 4611686018427387904 by omega)], rfl, A2, ?_, o2⟩
              rw [upTo, if_pos hm]
              simpa using y2
            · refine .inl ⟨((v, (((j + 1 : Nat) : Int), ())), h16), by simp only [f_wicketref05_Form_L22, hlt, decide_true, cond_true, eh, Option.bind_some, hm, decide_false, cond_false, wrap_succ (show j < 4611686018427387904 by omega)], rfl, A', ?_, o⟩
              rw [upTo, if_neg hm, List.append_nil]
              exact y)
          (fun a hi => by
            obtain ⟨⟨v, v15, _⟩, h16⟩ := a
            obtain ⟨e0, A', y, o⟩ := hi
            cases e0
            have hlt : ¬ (bn : Int) < (bn : Int) := by omega
            exact ⟨((v, ()), h16), by simp only [f_wicketref05_Form_L22, hlt, decide_false, cond_false], A', y, o⟩)
        have y23 : Slc 1 v _ _ _ := y23
        have o23 : Own h23 _ := o23
        have hform : form L = upTo L bn := form_of upTo_lt fun x => by
          rw [upTo_mem]
          refine ⟨fun h => h.2.2, fun h => ?_⟩
          have h1 : ¬ x < 0 := fun hh => hx ⟨x, h, .inl hh⟩
          have h2 : ¬ (bn : Int) ≤ x := fun hh => hx ⟨x, h, .inr hh⟩
          exact ⟨by omega, by omega, h⟩
        rw [← hform] at y23
        by_cases h5 : m < ((form L).length : Int)
        · exact ⟨.slice none 0 0, h23, [], by simp only [f_wicketref05_Form, guard5, Option.bind_some, hg, cond_false, hlb, h1, decide_false, f_wicketref05_Form_C12, e, thenB_inl, e23, y23.lenB, h5, decide_true, cond_true, formE, h0, hx, Bool.false_eq_true, if_false, if_true], by simp only [formE, hg, h0, hx, h5, Bool.false_eq_true, if_false, if_true]; exact .nil, o23.right⟩
        · exact ⟨v, h23, A', by simp only [f_wicketref05_Form, guard5, Option.bind_some, hg, cond_false, hlb, h1, decide_false, f_wicketref05_Form_C12, e, thenB_inl, e23, y23.lenB, h5, y23.notT, Bool.not_false, cond_true, formE, h0, hx, Bool.false_eq_true, if_false], by simp only [formE, hg, h0, hx, h5, Bool.false_eq_true, if_false]; exact y23, o23⟩
end
end Go.Proofs.Ythfkoanomhnpjaa

/- Roomy lists; lists apart. -/
namespace Go.Proofs.Ythfkoanomhnpjaa
open Go
set_option linter.unusedVariables false
set_option linter.unusedSimpArgs false
theorem lds_of {h : Heap} {q : Addr} {c : Value} {ty : Ty} (e : ldAS 1 h (some q) = some [c]) : ldTS ty h (some q) = ty.prj c := by
  simp only [ldAS, Option.bind_some] at e
  simp only [ldTS, Option.bind_some, e]; rfl
theorem Dn.vs {es j : Nat} {mk : Nat → List Value} {xs ds : List Ax} (hd : Dn es mk xs ds j) (hj : j = xs.length) : ds.map Ax.v = xs.map Ax.v := by
  subst hj
  refine List.ext_getElem (by simp [hd.len]) fun i h1 h2 => ?_
  rw [List.getElem_map, List.getElem_map]
  exact (hd.d i (by simpa using h1) (by simpa using h2)).1
def mk5 (i : Nat) : List Value := [.int .i64 (IntKind.i64.wrap (-1 - (i : Int)))]
def gr5 (i : Nat) : List Value := [.int .i64 (IntKind.i64.wrap (-1001 - (i : Int)))]
section
variable {n B : Nat} {u : Value} {U F : Ch} {h : Heap} {xs : List Ax}
theorem apart5_ok (hu : Slc 1 u xs.length (xs.map Ax.v) U) (hx : ∀ x ∈ xs, Slc 1 x.v x.m x.cs x.A ∧ x.m ≤ B) (ho : Own h (U ++ (xs.flatMap Ax.A ++ F))) (hB : (B + 80) * 8 ≤ 140737488355328) (hN : xs.length ≤ 100000000000) (hn : B + 100 ≤ n) (hn2 : xs.length + 100 ≤ n) :
    ∃ h', f_wicketlaw05_Apart n u h = some ((true, ()), h') ∧ Own h' (U ++ F) := by
  have o0 : Own (clrH h) (U ++ (xs.flatMap Ax.A ++ F)) := ⟨ho.get, ho.nodup, ho.lt⟩
  have hul := hu.lenB
  obtain ⟨h1, ds, e1, d1, o1, s1⟩ := marks_gen (n := n) (es := 1) (r := ()) (r2 := ()) (fin := fun i a => f_wicketlaw05_Apart_L13 n u (i : Int) a.1.1 a.2) (f := fun a => f_wicketlaw05_Apart_L15 n u a.1.1 a.2) (V := fun i => .int .i64 (IntKind.i64.wrap (-1 - (i : Int)))) (B := B)
    hu hx o0 rfl (fun _ => rfl) (fun _ => rfl)
    (fun i v m k h1 h2 q q' hi hl hk g1 g2 g3 g4 => by
      have hlt : (k : Int) < (m : Int) := by omega
      simp only [f_wicketlaw05_Apart_L13, g1, g2, hl, Option.bind_some, hlt, decide_true, cond_true, g3, g4])
    (fun i v m h1 q hi hl g1 g2 => by
      have hlt : ¬ (m : Int) < (m : Int) := by omega
      simp only [f_wicketlaw05_Apart_L13, g1, g2, hl, Option.bind_some, hlt, decide_false, cond_false])
    (fun i h1 h2 hi e => by
      have hlt : (i : Int) < (xs.length : Int) := by omega
      simp only [f_wicketlaw05_Apart_L15, hul, Option.bind_some, hlt, decide_true, cond_true]
      rw [e]; rfl)
    (fun h1 => by
      have hlt : ¬ (xs.length : Int) < (xs.length : Int) := by omega
      simp only [f_wicketlaw05_Apart_L15, hul, Option.bind_some, hlt, decide_false, cond_false])
    (by omega) (by omega) (by omega) (by omega)
  have hdl : ds.length = xs.length := d1.len
  have hvs := d1.vs rfl
  rw [← hvs, ← hdl] at hu
  rw [← hdl] at hN hn2 hul
  have hds : ∀ (i : Nat) (h1 : i < ds.length), Slc 1 ds[i].v ds[i].m (cw (mk5 i) (gr5 i) ds[i].m 0) ds[i].A ∧ ds[i].m ≤ B := by
    intro i h1
    obtain ⟨a1, a2, a3, a4⟩ := d1.d i h1 (by omega)
    refine ⟨?_, by rw [a2]; exact (hx _ (List.getElem_mem _)).2⟩
    rw [a3] at a4
    rw [cw_zero]; exact a4
  have hd1 : ShD h1 := fun e he => by rw [s1] at he; cases he
  obtain ⟨lg, h2, Lg, gs, e2, l2, g2, o2, d2⟩ := grows_gen (n := n) (es := 1) (M := 80) (B := B) (bytes := 8) (mk := mk5) (gr := gr5) (fin := fun i a => f_wicketlaw05_Apart_L34 n (i : Int) a.1.1 a.1.2.1 a.1.2.2.1 a.2) (f := fun a => f_wicketlaw05_Apart_L40 n u a.1.1 a.1.2.1 a.2)
    hu hds o1 hd1 (by decide) (fun _ => rfl) (fun _ => rfl) (fun c hc => Nat.le_trans (Nat.mul_le_mul_right 8 hc) hB) hN (by decide) (by decide) (by omega) (by omega)
    (fun i k lg x x' lg' h h1 h2 hk g1 c1 c2 g2 => by
      have hlt : (k : Int) < 80 := by omega
      have hl2 : (k : Int) < 16 := by omega
      have f1 : fillL [.int .i64 0] [(0, 1, .int .i64 (IntKind.i64.wrap (-1001 - (i : Int))))] = some (gr5 i) := rfl
      have f2 := fill1 (d := .slice none 0 0) c1 c2
      simp only [f_wicketlaw05_Apart_L34, hlt, hl2, decide_true, cond_true, f1, Option.bind_some, bnd_eq, g1, f2, g2])
    (fun i k lg x x' h h1 hk hk2 g1 => by
      have hlt : (k : Int) < 80 := by omega
      have hl2 : ¬ (k : Int) < 16 := by omega
      have f1 : fillL [.int .i64 0] [(0, 1, .int .i64 (IntKind.i64.wrap (-1001 - (i : Int))))] = some (gr5 i) := rfl
      simp only [f_wicketlaw05_Apart_L34, hlt, hl2, decide_true, decide_false, cond_true, cond_false, f1, Option.bind_some, bnd_eq, g1])
    (fun i lg x h => rfl)
    (fun i lg v lg1 x1 lg2 h h1 h2 q hi g1 g2 g3 c1 c2 g4 => by
      have hlt : (i : Int) < (ds.length : Int) := by omega
      have f2 := fill1 (d := .slice none 0 0) c1 c2
      simp only [f_wicketlaw05_Apart_L40, hul, Option.bind_some, hlt, decide_true, cond_true, g1, g2]
      rw [g3]
      simp only [Option.bind_some, f2, bnd_eq, g4])
    (fun lg h => by
      have hlt : ¬ (ds.length : Int) < (ds.length : Int) := by omega
      simp only [f_wicketlaw05_Apart_L40, hul, Option.bind_some, hlt, decide_false, cond_false])
  -- looked at
  have oU : Own h2 (U ++ (Lg ++ (gs.flatMap Gp.G ++ F))) := o2.to fun z => by simp only [cnt_append]; omega
  have inner : ∀ (i : Nat) (hi : i < ds.length), f_wicketlaw05_Apart_C76 n u ((lg, ()), h2) (i : Int) h2 = some (.inl ((), h2)) := by
    intro i hi
    have hgi : i < gs.length := by rw [g2.len]; exact hi
    have hy := List.getElem?_eq_getElem hgi
    have hxx := List.getElem?_eq_getElem hi
    have hvi : (ds.map Ax.v)[i]? = some ds[i].v := by rw [List.getElem?_map, hxx]; rfl
    obtain ⟨q, r1, r2⟩ := sl_at hu oU d2 hvi
    have hm := (hds i hi).2
    have hlv := (hds i hi).1.lenB
    have oG : Own h2 (gs[i].G ++ []) := o2.to fun z => by
      have : cnt z gs[i].G ≤ cnt z (gs.flatMap Gp.G) := cnt_sublist (List.sublist_flatten_of_mem (L := gs.map Gp.G) (List.mem_map_of_mem (List.getElem_mem hgi)))
      simp only [cnt_append, cnt_nil]; omega
    have k1 : f_wicketlaw05_Apart_C57 n u (i : Int) h2 = some (.inl ((), h2)) := by
      refine look1 (f := fun a => f_wicketlaw05_Apart_L56 n u (i : Int) a.1.1 a.2) (g2.k i _ _ hy hxx) rfl oG rfl (by simp [mk5, Go.Proofs.Ythfkoanomhnpjaa.sameL, sameV]) (by simp [gr5, Go.Proofs.Ythfkoanomhnpjaa.sameL, sameV]) (fun k q' hk e1 e2 => ?_) ?_ (by omega) (by omega)
      · have hlt : (k : Int) < (ds[i].m : Int) := by omega
        have e3 := lds_of (ty := .int .i64) e2
        rw [prj_int] at e3
        simp only [f_wicketlaw05_Apart_L56, r1, r2, hlv, Option.bind_some, hlt, decide_true, cond_true, e1, e3, Bool.not_true, cond_false]
      · have hlt : ¬ (ds[i].m : Int) < (ds[i].m : Int) := by omega
        simp only [f_wicketlaw05_Apart_L56, r1, r2, hlv, Option.bind_some, hlt, decide_false, cond_false]
    have k2 : ∀ (g : Nat), g < 17 → f_wicketlaw05_Apart_C73 n u ((lg, ()), h2) (i : Int) (g : Int) h2 = some (.inl ((), h2)) := by
      intro g hg
      have hv17 := g2.vs i _ hy
      have hw : gs[i].vs[g]? = some (gs[i].vs[g]'(by omega)) := List.getElem?_eq_getElem (by omega)
      have hat := (flat17_at g2.vs hy hg).trans hw
      generalize gs[i].vs[g]'(by omega) = w at hw hat
      obtain ⟨q3, t1, t2⟩ := sl_at l2 (F := gs.flatMap Gp.G ++ (U ++ F)) (h := h2) o2 d2 hat
      have hkp := g2.g i _ _ hy hxx g w hw
      have hlw := hkp.lenB
      have hcc : cc 80 g ≤ 80 := by unfold cc; split <;> omega
      have w1 : IntKind.i64.wrap (IntKind.i64.wrap (17 * (i : Int)) + (g : Int)) = ((17 * i + g : Nat) : Int) := by
        have w0 : IntKind.i64.wrap (17 * (i : Int)) = 17 * (i : Int) := wrap_i64 (by omega) (by omega)
        rw [w0, wrap_i64 (by omega) (by omega)]; omega
      simp only [f_wicketlaw05_Apart_C73, w1, t1, t2, r1, r2, hlv, Option.bind_some]
      refine look2 (f := fun a => f_wicketlaw05_Apart_L72 n (i : Int) w a.1.1 a.2) hkp oG rfl rfl (by simp [mk5, Go.Proofs.Ythfkoanomhnpjaa.sameL, sameV]) (by simp [gr5, Go.Proofs.Ythfkoanomhnpjaa.sameL, sameV]) (fun k q' hk e1 e2 => ?_) ?_ (by omega) (by omega)
      · have hlt : (k : Int) < ((ds[i].m + cc 80 g : Nat) : Int) := by omega
        have e3 := lds_of (ty := .int .i64) e2
        rw [prj_int] at e3
        simp only [f_wicketlaw05_Apart_L72, hlw, Option.bind_some, hlt, decide_true, cond_true, e1, e3, Bool.not_true, cond_false]
      · have hlt : ¬ ((ds[i].m + cc 80 g : Nat) : Int) < ((ds[i].m + cc 80 g : Nat) : Int) := by omega
        simp only [f_wicketlaw05_Apart_L72, hlw, Option.bind_some, hlt, decide_false, cond_false]
    have k3 : loopT (fun a => f_wicketlaw05_Apart_L75 n u ((lg, ()), h2) (i : Int) a.1.1 a.2) n (((0 : Int), ()), h2) = some (.inl ((), h2)) := by
      obtain ⟨x, e, q⟩ := loopT_up (f := fun a => f_wicketlaw05_Apart_L75 n u ((lg, ()), h2) (i : Int) a.1.1 a.2) (fun k (a : (Int × Unit) × Heap) => a = (((k : Int), ()), h2)) (fun x => x = .inl ((), h2)) (N := 17) (k := n) (j := 0) (a := ((0, ()), h2)) (by omega) (by omega) rfl
        (fun k a hk hi => by
          subst hi
          have hlt : (k : Int) < 17 := by omega
          exact .inl ⟨_, by simp only [f_wicketlaw05_Apart_L75, hlt, decide_true, cond_true, k2 k hk, thenB_inl, wrap_succ (show k < 4611686018427387904 by omega)], rfl⟩)
        (fun a hi => by subst hi; exact ⟨_, rfl, rfl⟩)
      rw [e, q]
    simp only [f_wicketlaw05_Apart_C76, k1, thenB_inl, k3]
  refine ⟨h2, ?_, o2.to fun z => by simp only [cnt_append]; omega⟩
  have e3 : loopT (fun a => f_wicketlaw05_Apart_L78 n u ((lg, ()), h2) a.1.1 a.2) n (((0 : Int), ()), h2) = some ((true, ()), h2) := by
    obtain ⟨x, e, q⟩ := loopT_up (f := fun a => f_wicketlaw05_Apart_L78 n u ((lg, ()), h2) a.1.1 a.2) (fun k (a : (Int × Unit) × Heap) => a = (((k : Int), ()), h2)) (fun x => x = ((true, ()), h2)) (N := ds.length) (k := n) (j := 0) (a := ((0, ()), h2)) (by omega) (by omega) rfl
      (fun k a hk hi => by
        subst hi
        have hlt : (k : Int) < (ds.length : Int) := by omega
        exact .inl ⟨_, by simp only [f_wicketlaw05_Apart_L78, hul, Option.bind_some, hlt, decide_true, cond_true, inner k hk, thenB_inl, wrap_succ (show k < 4611686018427387904 by omega)], rfl⟩)
      (fun a hi => by
        subst hi
        have hlt : ¬ (ds.length : Int) < (ds.length : Int) := by omega
        exact ⟨_, by simp only [f_wicketlaw05_Apart_L78, hul, Option.bind_some, hlt, decide_false, cond_false], rfl⟩)
    rw [e, q]
  have e1 : loopT (fun a => f_wicketlaw05_Apart_L15 n u a.1.1 a.2) n (((0 : Int), ()), clrH h) = some ((), h1) := e1
  simp only [f_wicketlaw05_Apart, bnd_eq, e1, Option.bind_some, e2, e3]
end
section
variable {n m i : Nat} {s u : Value} {L X Y : List Int} {t z : Int} {h : Heap} {G F A B : Ch} {cs : List Value}
end
section
variable {n m i p k e b : Nat} {s u : Value} {L X Y w : List Int} {t z : Int} {h : Heap} {G F A B Lx : Ch} {cs xs : List Value} {kv W M : List (Int × List Int)}
/-- Marked: two numbers stand behind. -/
def Mk5 (s : Value) (X : List Int) (A : Ch) : Prop := ∃ b off sp c, Slc 1 (.slice (some ⟨b, off, sp⟩) (X.length + 2) c) (X.length + 2) (iz .i64 (X ++ [7777, 8888])) A ∧ X.length + 2 ≤ c ∧ s = .slice (some ⟨b, off, sp⟩) X.length c
theorem Mk5.slc (hm : Mk5 s X A) : Slc 1 s X.length (iz .i64 X) A := by
  obtain ⟨b, off, sp, c, h1, h2, rfl⟩ := hm
  have := h1.pre' (k := X.length) (by omega)
  have ek : (iz .i64 (X ++ [7777, 8888])).take X.length = iz .i64 X := by
    rw [iz, List.map_append, List.take_append_of_le_length (by simp), List.take_of_length_le (by simp)]; rfl
  rwa [ek] at this
theorem ownI_ok (hr : Sow 1 u m cs G) (ho : Own h (G ++ F)) (hm : m * 8 ≤ 140737488355328) :
    ∃ s h' A', f_wicketlaw05_Own n u h = some ((s, ()), h') ∧ Slc 1 s m cs A' ∧ Own h' (A' ++ (G ++ F)) := by
  have o1 := ho.new (.cells [] false 1)
  have hs : Slc 1 (.slice (some ⟨h.next, 0, some 0⟩) 0 0) 0 [] [(h.next, .cells ([] ++ ([] ++ [])) false 1)] := .mk rfl rfl rfl
  obtain ⟨s', h', A', e1, e2, e3⟩ := hr.app hs (F := F) (h := h.new (.cells [] false 1)) (o1.to fun x => by simp only [cnt_append, cnt_cons, cnt_nil, List.nil_append, List.append_nil]; omega) (by decide) (bytes := 8) (by omega)
  refine ⟨s', h', A', ?_, by simpa using e2, e3⟩
  simp only [f_wicketlaw05_Own, fill0, Option.bind_some, bnd_eq, e1, e2.notT, Bool.not_false, cond_true]
theorem roomy_ok (hr : Sow 1 u X.length (iz .i64 X) G) (ho : Own h (G ++ F)) (hm : (X.length + 2) * 8 ≤ 140737488355328) :
    ∃ s h' A', f_wicketlaw05_Roomy n u h = some ((s, ()), h') ∧ Mk5 s X A' ∧ Own h' (A' ++ (G ++ F)) := by
  obtain ⟨s1, h1, A1, e1, e2, o1⟩ := ownI_ok (n := n) hr ho (by omega)
  have o2 := o1.new (.cells [.int .i64 7777, .int .i64 8888] false 1)
  have hy : Slc 1 (.slice (some ⟨h1.next, 0, some 0⟩) 2 2) 2 [.int .i64 7777, .int .i64 8888] [(h1.next, .cells ([] ++ ([.int .i64 7777, .int .i64 8888] ++ [])) false 1)] := .mk rfl rfl rfl
  obtain ⟨s3, h3, A3, e3, e4, o3⟩ := hy.sow.app e2 (F := G ++ F) (h := h1.new (.cells [.int .i64 7777, .int .i64 8888] false 1)) (o2.to fun x => by simp only [cnt_append, cnt_cons, cnt_nil, List.nil_append, List.append_nil]; omega) (by decide) (bytes := 8) (by omega)
  have e4 : Slc 1 s3 (X.length + 2) (iz .i64 (X ++ [7777, 8888])) A3 := by simpa [iz] using e4
  have f1 : fillL [.int .i64 0, .int .i64 0] [(0, 1, .int .i64 7777), (1, 1, .int .i64 8888)] = some [.int .i64 7777, .int .i64 8888] := rfl
  have hl := (hr.rds ho).lenB
  obtain ⟨a, c, rfl⟩ := e4.form
  cases a with
  | none => cases e4
  | some q =>
    obtain ⟨b, off, sp⟩ := q
    have hc : X.length + 2 ≤ c := by
      have hl := e4.len
      generalize iz .i64 (X ++ [7777, 8888]) = zs at e4 hl
      cases e4 with
      | mk' hp hl' hr => omega
    have s5 : sliceK h3 1 none (some (.int .i64 (X.length : Int))) none (.slice (some ⟨b, off, sp⟩) (X.length + 2) c) = some (.slice (some ⟨b, off, sp⟩) X.length c, h3) := sliceK_h (by omega)
    refine ⟨.slice (some ⟨b, off, sp⟩) X.length c, h3, A3, ?_, ⟨b, off, sp, c, e4, hc, rfl⟩, o3.to fun x => by simp only [cnt_append, cnt_cons]; omega⟩
    simp only [f_wicketlaw05_Roomy, e1, Option.bind_some, f1, bnd_eq, e3, hl, s5, isTuple, Bool.not_false, cond_true]
theorem heldI_ok (hk : Mk5 s X A) (hr : Sow 1 u X.length (iz .i64 X) G) (ho : Own h (A ++ (G ++ F))) (hm : (X.length + 2) * 8 ≤ 140737488355328) (hn : X.length + 100 ≤ n) : f_wicketlaw05_Held n s u h = some ((true, ()), h) := by
  have h2 := hk.slc
  obtain ⟨b, off, sp, c, h1, hc, rfl⟩ := hk
  have rr := hr.rds (h := h) (F := A ++ F) (ho.to fun x => by simp only [cnt_append]; omega)
  have r1 := h1.rds ho
  have e1 : sliceK h 1 none (some (.int .i64 (IntKind.i64.wrap ((X.length : Int) + 2)))) none (.slice (some ⟨b, off, sp⟩) X.length c) = some (.slice (some ⟨b, off, sp⟩) (X.length + 2) c, h) := by
    have : IntKind.i64.wrap ((X.length : Int) + 2) = ((X.length + 2 : Nat) : Int) := by rw [wrap_i64 (by omega) (by omega)]; omega
    rw [this]; exact sliceK_h hc
  have e2 : sliceK h 1 none (some (.int .i64 (X.length : Int))) none (.slice (some ⟨b, off, sp⟩) (X.length + 2) c) = some (.slice (some ⟨b, off, sp⟩) X.length c, h) := sliceK_h (by omega)
  have e3 := same5_ok (n := n) (h2.rds ho) rr (by omega) (by omega)
  have hl2 : (X ++ [7777, 8888] : List Int).length = X.length + 2 := by simp
  obtain ⟨q4, e4, e5⟩ := r1.intn hl2 (i := X.length) (by omega)
  obtain ⟨q6, e6, e7⟩ := r1.intn hl2 (i := X.length + 1) (by omega)
  have x4 : (X ++ [7777, 8888])[X.length]'(by omega) = 7777 := by simp
  have x6 : (X ++ [7777, 8888])[X.length + 1]'(by omega) = 8888 := by simp
  rw [x4] at e5
  rw [x6] at e7
  simp only [f_wicketlaw05_Held, rr.lenB, Option.bind_some, e1, e2, e3, cond_true, e4, e5, decide_true, wrap_succ (show X.length < 4611686018427387904 by omega), e6, e7]
end
end Go.Proofs.Ythfkoanomhnpjaa

/- The law: every Form. -/
namespace Go.Proofs.Ythfkoanomhnpjaa
open Go
set_option linter.unusedVariables false
set_option linter.unusedSimpArgs false
theorem formE_16 {L : List Int} {b m : Int} : (formE L b m).1.length ≤ 16 := by
  unfold formE
  split
  · exact Nat.zero_le _
  rename_i hg
  split
  · exact Nat.zero_le _
  split
  · exact Nat.zero_le _
  split
  · exact Nat.zero_le _
  rename_i h
  simp only [badB, Bool.or_eq_true, decide_eq_true_eq, not_or] at hg
  simp only
  omega
theorem fill5 {a b c d e : Value} (ha : ∃ x k l, a = .slice x k l) (hb : ∃ x k l, b = .slice x k l) (hc : ∃ x k l, c = .slice x k l) (hd : ∃ x k l, d = .slice x k l) (he : ∃ x k l, e = .slice x k l) :
    fillL (List.replicate 5 (.slice none 0 0)) [(0, 1, a), (1, 1, b), (2, 1, c), (3, 1, d), (4, 1, e)] = some [a, b, c, d, e] := by
  obtain ⟨_, _, _, rfl⟩ := ha
  obtain ⟨_, _, _, rfl⟩ := hb
  obtain ⟨_, _, _, rfl⟩ := hc
  obtain ⟨_, _, _, rfl⟩ := hd
  obtain ⟨_, _, _, rfl⟩ := he
  rfl
section
variable {n : Nat} {s u u0 u2 : Value} {L M X Y : List Int} {b m t z : Int} {h : Heap} {G F A B : Ch} {cs pre rest : List Value}
theorem Slc.form3 {es k : Nat} (hs : Slc es s k cs A) : ∃ x k l, s = .slice x k l := by obtain ⟨a, c, e⟩ := hs.form; exact ⟨_, _, _, e⟩
theorem turn_ok (hs : Slc 1 s L.length (iz .i64 L) A) (ho : Own h (A ++ F)) (hn : L.length + 2 ≤ n) (hl : L.length < 4611686018427387904) :
    ∃ h' X A', f_wicketlaw05_turn n s h = some ((), h') ∧ X.length = L.length ∧ Slc 1 s X.length (iz .i64 X) A' ∧ Own h' (A' ++ F) := by
  rcases slc_blk hs with ⟨rfl, rfl, rfl⟩ | ⟨b, off, sp, c, pre, rest, rfl, rfl, hp, c1, c2⟩
  · obtain ⟨k, rfl⟩ : ∃ k, n = k + 1 := ⟨n - 1, by omega⟩
    exact ⟨h, [], [], rfl, rfl, .nil, ho⟩
  · obtain ⟨h', X, e, x1, x2, o⟩ := turn_blk (n := n) (c := c) (sp := sp) hp ho hn hl
    refine ⟨h', X, [(b, Blk pre X rest)], e, x1, ?_, o⟩
    have := blk_slc (b := b) (sp := sp) (c := c) (rest := rest) (X := X) (i := X.length) hp (Nat.le_refl _) (by omega) (by omega)
    rw [List.take_length] at this
    rw [x1] at this ⊢
    exact this
theorem blocksForms_ok (hu0 : Sow 1 u0 L.length (iz .i64 L) G) (hu2 : Sow 1 u2 M.length (iz .i64 M) G) (ho : Own h G)
    (hL : (L.length + 2) * 8 ≤ 140737488355328) (hM : (M.length + 2) * 8 ≤ 140737488355328) (hn : L.length + 1000 ≤ n) (hn2 : M.length + 1000 ≤ n) : ∃ h', f_wicketlaw05_BlocksForms n u0 (.agg ⟨iz .i64 [b, m]⟩) u2 h = some ((true, ()), h') := by
  have hco : cellsOf (.agg ⟨iz .i64 [b, m]⟩) = iz .i64 [b, m] := rfl
  have hci : (iz .i64 [b, m]).all isCell = true := iz_cell
  have o0 := ho.new (.cells (iz .i64 [b, m]) false 0)
  generalize hq : h.next = q at o0
  generalize hh0 : h.new (.cells (iz .i64 [b, m]) false 0) = h0 at o0
  have aw : f_wicketlaw05_awake n h0 = some ((true, ()), h0) := rfl
  have a0 : ixA 2 1 (some ⟨q, 0, none⟩) 0 = some ⟨q, 0, none⟩ := rfl
  have a1 : ixA 2 1 (some ⟨q, 0, none⟩) 1 = some ⟨q, 1, none⟩ := rfl
  have l0 : ∀ {h : Heap} {F : Ch}, Own h ((q, .cells (iz .i64 [b, m]) false 0) :: F) → ldT (.int .i64) h (some ⟨q, 0, none⟩) = some b := fun o => by rw [ldT_of o.head]; rfl
  have l1 : ∀ {h : Heap} {F : Ch}, Own h ((q, .cells (iz .i64 [b, m]) false 0) :: F) → ldT (.int .i64) h (some ⟨q, 1, none⟩) = some m := fun o => by rw [ldT_of o.head]; rfl
  generalize hQ : (q, AObj.cells (iz .i64 [b, m]) false 0) = Q at o0 l0 l1
  -- what it should be
  obtain ⟨v6, h6, A6, e6, y6, o6⟩ := rform_ok (n := n) (b := b) (m := m) hu0 (h := h0) (F := [Q]) (o0.to fun x => by simp only [cnt_append, cnt_cons, cnt_nil]; omega) (by omega) (by omega)
  have x3 := l0 o0
  have x5 := l1 o0
  obtain ⟨v7, h7, A7, e7, y7, o7⟩ := roomy_ok (n := n) hu0 (h := h6) (F := A6 ++ [Q]) (o6.to fun x => by simp only [cnt_append]; omega) hL
  have o7 : Own h7 (Q :: (A7 ++ (A6 ++ G))) := o7.to fun x => by simp only [cnt_append, cnt_cons, cnt_nil]; omega
  have x9 := l0 o7
  have x11 := l1 o7
  obtain ⟨v12, h12, A12, e12, y12, o12⟩ := bform_ok (n := n) (b := b) (m := m) y7.slc.sow (h := h7) (F := Q :: (A6 ++ G)) (o7.to fun x => by simp only [cnt_append, cnt_cons, cnt_nil]; omega) (by omega) (by omega)
  have hf := formE_len (L := L) (b := b) (m := m)
  have e13 := same5_ok (n := n) (y12.rds o12) (y6.rds (h := h12) (F := A12 ++ (A7 ++ (Q :: G))) (o12.to fun x => by simp only [cnt_append, cnt_cons]; omega)) (by omega) (by omega)
  have o12 : Own h12 (Q :: (A12 ++ (A7 ++ (A6 ++ G)))) := o12.to fun x => by simp only [cnt_append, cnt_cons, cnt_nil]; omega
  have x16 := l0 o12
  have x18 := l1 o12
  obtain ⟨v19, h19, A19, e19, y19, o19⟩ := bform_ok (n := n) (b := b) (m := m) y7.slc.sow (h := h12) (F := Q :: (A12 ++ (A6 ++ G))) (o12.to fun x => by simp only [cnt_append, cnt_cons, cnt_nil]; omega) (by omega) (by omega)
  have e20 := same5_ok (n := n) (y19.rds o19) (y6.rds (h := h19) (F := A19 ++ (A7 ++ (Q :: (A12 ++ G)))) (o19.to fun x => by simp only [cnt_append, cnt_cons]; omega)) (by omega) (by omega)
  obtain ⟨v21, h21, A21, e21, y21, o21⟩ := roomy_ok (n := n) hu2 (h := h19) (F := A19 ++ (A7 ++ (Q :: (A12 ++ A6)))) (o19.to fun x => by simp only [cnt_append, cnt_cons]; omega) hM
  obtain ⟨v22, h22, A22, e22, y22, o22⟩ := bform_ok (n := n) (b := 64) (m := 16) y21.slc.sow (h := h21) (F := A19 ++ (A7 ++ (Q :: (A12 ++ (A6 ++ G))))) (o21.to fun x => by simp only [cnt_append, cnt_cons]; omega) (by omega) (by omega)
  have o22 : Own h22 (Q :: (A22 ++ (A21 ++ (A19 ++ (A12 ++ (A7 ++ (A6 ++ G))))))) := o22.to fun x => by simp only [cnt_append, cnt_cons, cnt_nil]; omega
  have x24 := l0 o22
  have x26 := l1 o22
  obtain ⟨v27, h27, A27, e27, y27, o27⟩ := bform_ok (n := n) (b := b) (m := m) y7.slc.sow (h := h22) (F := Q :: (A22 ++ (A21 ++ (A19 ++ (A12 ++ (A6 ++ G)))))) (o22.to fun x => by simp only [cnt_append, cnt_cons, cnt_nil]; omega) (by omega) (by omega)
  have o27 : Own h27 (Q :: (A27 ++ (A22 ++ (A21 ++ (A19 ++ (A12 ++ (A7 ++ (A6 ++ G)))))))) := o27.to fun x => by simp only [cnt_append, cnt_cons, cnt_nil]; omega
  have r6 := y6.rds (h := h27) (F := Q :: (A27 ++ (A22 ++ (A21 ++ (A19 ++ (A12 ++ (A7 ++ G))))))) (o27.to fun x => by simp only [cnt_append, cnt_cons]; omega)
  have e28 := same5_ok (n := n) (y27.rds (h := h27) (F := Q :: (A22 ++ (A21 ++ (A19 ++ (A12 ++ (A7 ++ (A6 ++ G))))))) (o27.to fun x => by simp only [cnt_append, cnt_cons]; omega)) r6 (by omega) (by omega)
  have e29 := same5_ok (n := n) (y12.rds (h := h27) (F := Q :: (A27 ++ (A22 ++ (A21 ++ (A19 ++ (A7 ++ (A6 ++ G))))))) (o27.to fun x => by simp only [cnt_append, cnt_cons]; omega)) r6 (by omega) (by omega)
  have e30 := same5_ok (n := n) (y19.rds (h := h27) (F := Q :: (A27 ++ (A22 ++ (A21 ++ (A12 ++ (A7 ++ (A6 ++ G))))))) (o27.to fun x => by simp only [cnt_append, cnt_cons]; omega)) r6 (by omega) (by omega)
  have e31 := heldI_ok (n := n) y7 hu0 (h := h27) (F := Q :: (A27 ++ (A22 ++ (A21 ++ (A19 ++ (A12 ++ A6)))))) (o27.to fun x => by simp only [cnt_append, cnt_cons]; omega) hL (by omega)
  -- written over
  obtain ⟨h33, X, A33, e33, hX, y33, o33⟩ := turn_ok (n := n) y7.slc (h := h27) (F := Q :: (A27 ++ (A22 ++ (A21 ++ (A19 ++ (A12 ++ (A6 ++ G))))))) (o27.to fun x => by simp only [cnt_append, cnt_cons]; omega) (by omega) (by omega)
  have o33 : Own h33 (Q :: (A33 ++ (A27 ++ (A22 ++ (A21 ++ (A19 ++ (A12 ++ (A6 ++ G)))))))) := o33.to fun x => by simp only [cnt_append, cnt_cons]; omega
  have x35 := l0 o33
  have x37 := l1 o33
  have hl : ∀ r, r ∈ [q, q] ↔ ∃ x ∈ [Q], x.1 = r := fun r => by subst hQ; simp [eq_comm]
  have ohd := Own.roL (A := [Q]) (l := [q, q]) (F := A33 ++ (A27 ++ (A22 ++ (A21 ++ (A19 ++ (A12 ++ (A6 ++ G))))))) o33 hl (fun x hx => by subst hQ; rw [List.mem_singleton.1 hx]; exact ⟨_, _, _, rfl⟩)
  have hQg : ∀ x ∈ [Q], h33.get x.1 = some x.2 := fun x hx => o33.get x (by rw [List.mem_singleton.1 hx]; exact List.mem_cons_self ..)
  obtain ⟨v38, h38, A38, e38, y38, o38⟩ := ownI_ok (n := n) y33.sow (h := hid h33 [] [q, q]) (F := [Q].map roA ++ (A27 ++ (A22 ++ (A21 ++ (A19 ++ (A12 ++ (A6 ++ G))))))) (ohd.to fun x => by simp only [cnt_append, List.map_cons, List.map_nil]; omega) (by omega)
  have o39 := Own.backL (A := [Q]) (h := h38) (h0 := h33) (l := [q, q]) (X := A38 ++ (A33 ++ (A27 ++ (A22 ++ (A21 ++ (A19 ++ (A12 ++ (A6 ++ G)))))))) (o38.to fun x => by simp only [cnt_append]; omega) hl hQg
  generalize hh39 : h38.putBack h33 [q, q] = h39 at o39
  obtain ⟨v40, h40, A40, e40, y40, o40⟩ := rform_ok (n := n) (b := b) (m := m) y38.sow (h := h39) (F := Q :: (A33 ++ (A27 ++ (A22 ++ (A21 ++ (A19 ++ (A12 ++ (A6 ++ G)))))))) (o39.to fun x => by simp only [cnt_append, cnt_cons, cnt_nil]; omega) (by omega) (by omega)
  have o40 : Own h40 (Q :: (A40 ++ (A38 ++ (A33 ++ (A27 ++ (A22 ++ (A21 ++ (A19 ++ (A12 ++ (A6 ++ G)))))))))) := o40.to fun x => by simp only [cnt_append, cnt_cons]; omega
  have x42 := l0 o40
  have x44 := l1 o40
  obtain ⟨v45, h45, A45, e45, y45, o45⟩ := bform_ok (n := n) (b := b) (m := m) y33.sow (h := h40) (F := Q :: (A40 ++ (A38 ++ (A27 ++ (A22 ++ (A21 ++ (A19 ++ (A12 ++ (A6 ++ G))))))))) (o40.to fun x => by simp only [cnt_append, cnt_cons]; omega) (by omega) (by omega)
  have hfX := formE_len (L := X) (b := b) (m := m)
  have e46 := same5_ok (n := n) (y45.rds o45) (y40.rds (h := h45) (F := A45 ++ (A33 ++ (Q :: (A38 ++ (A27 ++ (A22 ++ (A21 ++ (A19 ++ (A12 ++ (A6 ++ G)))))))))) (o45.to fun x => by simp only [cnt_append, cnt_cons]; omega)) (by omega) (by omega)
  -- apart
  have f47 := fill5 y12.form3 y19.form3 y22.form3 y27.form3 y45.form3
  have o48 := o45.new (.cells [v12, v19, v22, v27, v45] false 1)
  generalize hr : h45.next = r at o48
  generalize hh48 : h45.new (.cells [v12, v19, v22, v27, v45] false 1) = h48 at o48
  have hu : Slc 1 (.slice (some ⟨r, 0, some 0⟩) 5 5) 5 [v12, v19, v22, v27, v45] [(r, .cells ([] ++ ([v12, v19, v22, v27, v45] ++ [])) false 1)] := .mk rfl rfl rfl
  obtain ⟨h49, e49, o49⟩ := apart5_ok (n := n) (B := 16) (h := h48) (xs := [⟨v12, _, _, A12⟩, ⟨v19, _, _, A19⟩, ⟨v22, _, _, A22⟩, ⟨v27, _, _, A27⟩, ⟨v45, _, _, A45⟩]) (F := Q :: (A40 ++ (A38 ++ (A33 ++ (A21 ++ (A6 ++ G)))))) hu
    (fun x hx => by
      simp only [List.mem_cons, List.not_mem_nil, or_false] at hx
      rcases hx with rfl | rfl | rfl | rfl | rfl
      · exact ⟨y12, formE_16⟩
      · exact ⟨y19, formE_16⟩
      · exact ⟨y22, formE_16⟩
      · exact ⟨y27, formE_16⟩
      · exact ⟨y45, formE_16⟩)
    (o48.to fun x => by simp only [List.flatMap_cons, List.flatMap_nil, cnt_append, cnt_cons, cnt_nil, List.nil_append, List.append_nil]; omega) (by decide) (by simp) (by omega) (by simp; omega)
  refine ⟨h49, ?_⟩
  simp only [f_wicketlaw05_BlocksForms, hco, hci, cond_true, bnd_eq, hh0, aw, Option.bind_some, Bool.not_true, cond_false, nwA_eq, hq, a0, a1, x3, x5, e6, e7, x9, x11, e12, e13, decide_true, x16, x18, e19, e20, e21, e22, x24, x26, e27, e28, e29, e30, e31, e33, x35, x37, e38, List.nil_append, hh39, e40, x42, x44, e45, e46, f47, hr, hh48, e49]
end
end Go.Proofs.Ythfkoanomhnpjaa

