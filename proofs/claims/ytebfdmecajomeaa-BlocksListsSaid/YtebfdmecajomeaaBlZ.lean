import Derived.Test.YtebfdmecajomeaaPSort
import Derived.Test.YtebfdmecajomeaaLBlocksLists
import Derived.Test.YtebfdmecajomeaaS58
import Derived.Test.YtebfdmecajomeaaAgZ
/- Lists that rise, without doubles. -/
namespace Go.Proofs.Ytebfdmecajomeaa
open Go
set_option linter.unusedVariables false
set_option linter.unusedSimpArgs false

theorem lt_ext {A B : List Int} (hA : A.Pairwise (· < ·)) (hB : B.Pairwise (· < ·)) (h : ∀ x, x ∈ A ↔ x ∈ B) : A = B := by
  have nd : ∀ {L : List Int}, L.Pairwise (· < ·) → L.Nodup := fun hL => hL.imp fun h e => by omega
  exact List.Perm.eq_of_pairwise (le := fun a b : Int => a < b) (fun a b _ _ h1 h2 => by omega) hA hB ((List.perm_ext_iff_of_nodup (nd hA) (nd hB)).2 h)
/-- What stands behind p, without what is as the one ahead. -/
def cf (p : Int) : List Int → List Int
  | [] => []
  | x :: t => if x = p then cf p t else x :: cf x t
def compact : List Int → List Int
  | [] => []
  | x :: t => x :: cf x t
theorem cf_mem {x : Int} : ∀ {t : List Int} {p : Int}, x ∈ p :: cf p t ↔ x ∈ p :: t := by
  intro t
  induction t with
  | nil => intro p; rfl
  | cons y t ih =>
    intro p
    unfold cf
    by_cases h : y = p
    · subst h
      rw [if_pos rfl, ih]
      simp
    · rw [if_neg h, List.mem_cons, ih, List.mem_cons (l := y :: t)]
theorem compact_mem {x : Int} {L : List Int} : x ∈ compact L ↔ x ∈ L := by
  cases L with
  | nil => rfl
  | cons y t => exact cf_mem
theorem cf_lt : ∀ {t : List Int} {p : Int}, (p :: t).Pairwise (· ≤ ·) → (p :: cf p t).Pairwise (· < ·) := by
  intro t
  induction t with
  | nil => intro p _; exact List.pairwise_singleton _ _
  | cons y t ih =>
    intro p h
    rw [List.pairwise_cons] at h
    have hy := h.1 y (List.mem_cons_self ..)
    unfold cf
    by_cases e : y = p
    · subst e
      rw [if_pos rfl]
      exact ih h.2
    · rw [if_neg e]
      have h2 := ih h.2
      rw [List.pairwise_cons]
      refine ⟨fun a ha => ?_, h2⟩
      rw [List.pairwise_cons] at h2
      rcases List.mem_cons.1 ha with rfl | ha
      · omega
      · have := h2.1 a ha; omega
theorem compact_lt {L : List Int} (h : L.Pairwise (· ≤ ·)) : (compact L).Pairwise (· < ·) := by
  cases L with
  | nil => exact .nil
  | cons y t => exact cf_lt h
/-- The one form. -/
def form (L : List Int) : List Int := compact (isort L)
theorem form_lt {L : List Int} : (form L).Pairwise (· < ·) := compact_lt isort_sorted
theorem form_mem {x : Int} {L : List Int} : x ∈ form L ↔ x ∈ L := by rw [form, compact_mem, isort_perm.mem_iff]
theorem form_of {L M : List Int} (hM : M.Pairwise (· < ·)) (h : ∀ x, x ∈ M ↔ x ∈ L) : form L = M := lt_ext form_lt hM fun x => by rw [form_mem, h]
theorem form_nil {L : List Int} : form L = [] ↔ L = [] := by
  constructor
  · intro h
    cases L with
    | nil => rfl
    | cons x t => have : x ∈ form (x :: t) := form_mem.2 (List.mem_cons_self ..); rw [h] at this; cases this
  · rintro rfl; rfl
theorem cf_len : ∀ {t : List Int} {p : Int}, (cf p t).length ≤ t.length := by
  intro t
  induction t with
  | nil => intro p; exact Nat.le_refl _
  | cons y t ih =>
    intro p
    unfold cf
    by_cases h : y = p
    · rw [if_pos h]; exact Nat.le_succ_of_le ih
    · rw [if_neg h]; exact Nat.succ_le_succ ih
theorem compact_len {L : List Int} : (compact L).length ≤ L.length := by
  cases L with
  | nil => exact Nat.le_refl _
  | cons y t => exact Nat.succ_le_succ cf_len
theorem form_len {L : List Int} : (form L).length ≤ L.length := by rw [form]; exact Nat.le_trans compact_len (Nat.le_of_eq isort_length)
theorem lt_first {L : List Int} (h : L.Pairwise (· < ·)) {i j : Nat} (hij : i < j) (hj : j < L.length) : L[i] < L[j] := (List.pairwise_iff_getElem.1 h) i j (by omega) hj hij
end Go.Proofs.Ytebfdmecajomeaa

/- Copies, sorted and without doubles. -/
namespace Go.Proofs.Ytebfdmecajomeaa
open Go
set_option linter.unusedVariables false
set_option linter.unusedSimpArgs false
section
variable {n m c b off i j : Nat} {sp : Option Nat} {s u : Value} {L X Y : List Int} {t z : Int} {h : Heap} {G F A B : Ch} {cs pre rest : List Value}
theorem wrap_pred {j : Nat} (h1 : 1 ≤ j) (hj : j < 4611686018427387904) : IntKind.i64.wrap ((j : Int) - 1) = ((j - 1 : Nat) : Int) := by
  rw [wrap_i64 (by omega) (by omega)]; omega
theorem ix1 (hi : i < m) : ixB 1 (.slice (some ⟨b, off, sp⟩) m c) (i : Int) = some ⟨b, off + i, none⟩ := by
  show (bif Nat.blt i m then _ else none) = _
  rw [show Nat.blt i m = true from Nat.ble_eq_true_of_le hi, Nat.mul_one]; rfl
/-- A list of integers as it stands in a block. -/
abbrev Blk (pre : List Value) (X : List Int) (rest : List Value) : AObj := .cells (pre ++ (iz .i64 X ++ rest)) false 1
theorem blk_at (hp : pre.length = off) (hi : i < X.length) : (pre ++ (iz .i64 X ++ rest))[off + i]? = some (.int .i64 X[i]) := by
  rw [List.getElem?_append_right (by omega), List.getElem?_append_left (by rw [iz_length]; omega)]
  simp [iz, hp, hi]
theorem blk_ld {o : Nat} (hp : pre.length = off) (ho : Own h ((b, Blk pre X rest) :: F)) (hi : i < X.length) (ho2 : o = off + i) : ldT (.int .i64) h (some ⟨b, o, none⟩) = some X[i] := by
  rw [ldT_of ho.head, ho2, blk_at hp hi]; rfl
theorem blk_st {o : Nat} (hp : pre.length = off) (ho : Own h ((b, Blk pre X rest) :: F)) (hi : i < X.length) (ho2 : o = off + i) : ∃ h', stB 1 (.int .i64 z) h (some ⟨b, o, none⟩) = some h' ∧ Own h' ((b, Blk pre (X.set i z) rest) :: F) := by
  refine ⟨_, stB1_of ho.head rfl rfl (by rw [ho2]; simp; omega), ?_⟩
  have e : (pre ++ (iz .i64 X ++ rest)).set o (.int .i64 z) = pre ++ (iz .i64 (X.set i z) ++ rest) := by
    rw [ho2, List.set_append_right _ _ (by omega), List.set_append_left _ _ (by rw [iz_length]; omega), hp, Nat.add_sub_cancel_left, iz_set]
  rw [e]
  exact ho.put _
theorem blk_slc (hp : pre.length = off) (hk : i ≤ X.length) (hc : i ≤ c) (hc2 : c ≤ X.length + rest.length) : Slc 1 (.slice (some ⟨b, off, sp⟩) i c) i (iz .i64 (X.take i)) [(b, Blk pre X rest)] := by
  have e : pre ++ (iz .i64 X ++ rest) = pre ++ (iz .i64 (X.take i) ++ (iz .i64 (X.drop i) ++ rest)) := by rw [← List.append_assoc (iz .i64 (X.take i)), ← iz_append, List.take_append_drop]
  show Slc 1 _ i _ [(b, .cells (pre ++ (iz .i64 X ++ rest)) false 1)]
  rw [e]
  exact .mk' hp (by rw [iz_length, List.length_take]; omega) ⟨fun _ => hc, by simp; omega⟩
/-- A list of integers of one's own, as it stands. -/
theorem slc_blk (hs : Slc 1 s L.length (iz .i64 L) A) : (s = .slice none 0 0 ∧ L = [] ∧ A = []) ∨ ∃ b off sp c pre rest, s = .slice (some ⟨b, off, sp⟩) L.length c ∧ A = [(b, Blk pre L rest)] ∧ pre.length = off ∧ L.length ≤ c ∧ c ≤ L.length + rest.length := by
  generalize hcs : iz .i64 L = cs at hs
  generalize hm : L.length = m at hs
  cases hs with
  | nil => exact .inl ⟨rfl, List.eq_nil_of_length_eq_zero hm, rfl⟩
  | @mk' b off sp _ c pre _ rest hp hl hr =>
    subst hcs
    exact .inr ⟨b, off, sp, c, pre, rest, rfl, rfl, hp, by have := hr.1 (Nat.le_refl _); omega, by have := hr.2; rw [iz_length] at this; omega⟩
theorem sliceK_hm {es : Nat} {k k' : IntKind} (hj : j ≤ m) (hm : m ≤ c) : sliceK h es none (some (.int k (j : Int))) (some (.int k' (m : Int))) (.slice (some ⟨b, off, sp⟩) n c) = some (.slice (some ⟨b, off, some 0⟩) j m, h) := by
  simp [sliceK, natIn_int hj, natIn_int hm]
theorem cloneI_ok (hr : Sow 1 s m cs G) (ho : Own h (G ++ F)) (hlen : m * 8 ≤ 140737488355328) :
    ∃ s' h' A', f_slices_Clone_int_int n s h = some ((s', ()), h') ∧ Slc 1 s' m cs A' ∧ Own h' (A' ++ (G ++ F)) := by
  obtain ⟨a, c, hf, hsrc⟩ := (hr.rds ho).src
  have hcl := (hr.rds ho).len
  subst hf
  cases a with
  | none =>
    have h1 : (some [] : Option (List Value)) = some cs := hsrc
    have h2 := Option.some.inj h1
    subst h2
    obtain rfl : m = 0 := by simpa using hcl.symm
    exact ⟨.slice none 0 0, h, [], by simp [f_slices_Clone_int_int, eqVals_slice_nil], .nil, ho⟩
  | some b =>
    have hs : Slc 1 (.slice (some ⟨h.next, 0, some 0⟩) 0 0) 0 [] [(h.next, .cells ([] ++ ([] ++ [])) false 1)] := .mk rfl rfl rfl
    have o1 := ho.new (.cells [] false 1)
    obtain ⟨s', h', A', e1, e2, e3⟩ := hr.app hs (F := F) (h := h.new (.cells [] false 1)) (o1.to fun x => by simp only [cnt_append, cnt_cons, cnt_nil, List.nil_append, List.append_nil]; omega) (by decide) (bytes := 8) (by omega)
    refine ⟨s', h', A', ?_, by simpa using e2, e3⟩
    have := e2.notT
    simp [f_slices_Clone_int_int, eqVals_slice_nil, e1, this]
theorem sort_ok (hs : Slc 1 s L.length (iz .i64 L) A) (ho : Own h (A ++ F)) (hl : L.length < 4611686018427387904) :
    ∃ h' A', f_slices_Sort_int_int n s h = some ((), h') ∧ Slc 1 s L.length (iz .i64 (isort L)) A' ∧ Own h' (A' ++ F) := by
  rcases slc_blk hs with ⟨rfl, rfl, rfl⟩ | ⟨b, off, sp, c, pre, rest, rfl, rfl, hp, h1, h2⟩
  · exact ⟨h, [], rfl, .nil, ho⟩
  · by_cases h0 : L.length = 0
    · obtain rfl := List.eq_nil_of_length_eq_zero h0
      exact ⟨h, _, rfl, hs, ho⟩
    · subst hp
      have hg : h.get b = some (Blk pre L rest) := ho.head
      have hr : readCells h b pre.length L.length = some (L.map (.int .i64)) := by
        rw [readCells_of hg (by simp), List.drop_left]
        congr 1
        rw [List.take_append_of_le_length (by simp), List.take_of_length_le (by simp)]; try rfl
      have hw : writeCells h b pre.length ((isort L).map (.int .i64)) = some (h.put b (Blk pre (isort L) rest)) := by
        rw [writeCells_of hg (by simp [isort_length]), writeAt_eq _ _ _ (by simp [isort_length]), List.take_left]
        congr 2
        have : (pre ++ (iz .i64 L ++ rest)).drop (pre.length + ((isort L).map (Value.int .i64)).length) = rest := by
          rw [List.length_map, isort_length, ← List.drop_drop, List.drop_left]
          have := List.drop_left (l₁ := iz .i64 L) (l₂ := rest)
          rwa [iz_length] at this
        rw [this, List.append_assoc]; rfl
      have hb0 : Nat.beq L.length 0 = false := by rw [nat_beq_eq]; simp [h0]
      have hbl : Nat.ble L.length 4611686018427387903 = true := Nat.ble_eq_true_of_le (by omega)
      refine ⟨_, [(b, Blk pre (isort L) rest)], by simp only [f_slices_Sort_int_int, sortB, hb0, cond_false, hr, Option.bind_some, intsOf_map, hbl, cond_true, hw, Option.map_some], ?_, Own.put (F := F) ho _⟩
      have := blk_slc (b := b) (sp := sp) (c := c) (rest := rest) (X := isort L) (i := L.length) (pre := pre) rfl (by rw [isort_length]; exact Nat.le_refl _) h1 (by rw [isort_length]; exact h2)
      rwa [List.take_of_length_le (by rw [isort_length]; exact Nat.le_refl _)] at this
theorem cf_skip {p : Int} {t : List Int} : cf p (p :: t) = cf p t := by simp [cf]
theorem cf_put {p x : Int} {t : List Int} (h : x ≠ p) : cf p (x :: t) = x :: cf x t := by simp [cf, h]
/-- What the inner loop has done. -/
structure Ci (L : List Int) (j k2 kk : Nat) (X : List Int) : Prop where
  len : X.length = L.length
  drop : ∀ i, j + k2 - 1 ≤ i → X[i]? = L[i]?
  k : kk ≤ j + k2 - 1
  c : ∀ (hi : j + k2 - 1 < L.length), compact L = X.take kk ++ cf L[j + k2 - 1] (L.drop (j + k2))
theorem Ci.skip {k2 kk : Nat} (h : Ci L j k2 kk X) (h1 : 1 ≤ k2) (hi : j + k2 < L.length) (he : L[j + k2] = L[j + k2 - 1]) : Ci L j (k2 + 1) kk X := by
  refine ⟨h.len, fun i hi => h.drop i (by omega), by have := h.k; omega, fun hi2 => ?_⟩
  have := h.c (by omega)
  rw [List.drop_eq_getElem_cons (by omega), he, cf_skip] at this
  simpa only [← Nat.add_assoc, Nat.add_sub_cancel, he] using this
theorem Ci.put {k2 kk : Nat} (h : Ci L j k2 kk X) (h1 : 1 ≤ k2) (hi : j + k2 < L.length) (he : L[j + k2] ≠ L[j + k2 - 1]) : Ci L j (k2 + 1) (kk + 1) (X.set kk L[j + k2]) := by
  have hk := h.k
  have hl := h.len
  refine ⟨by simp [hl], fun i hi => ?_, by omega, fun hi2 => ?_⟩
  · rw [List.getElem?_set_ne (by omega)]; exact h.drop i (by omega)
  · have := h.c (by omega)
    rw [List.drop_eq_getElem_cons (by omega), cf_put he] at this
    have e : (X.set kk L[j + k2]).take (kk + 1) = X.take kk ++ [L[j + k2]] := by
      rw [take_snoc (by simp; omega), List.take_set_of_le (Nat.le_refl _)]; simp
    rw [e, List.append_assoc]
    simpa only [← Nat.add_assoc, Nat.add_sub_cancel, List.cons_append, List.nil_append] using this
theorem Ci.done {k2 kk : Nat} (h : Ci L j k2 kk X) (h1 : 1 ≤ k2) (hj : j + k2 = L.length) : compact L = X.take kk ∧ kk ≤ X.length := by
  have := h.c (by omega)
  rw [List.drop_eq_nil_of_le (by omega)] at this
  exact ⟨by simpa [cf] using this, by have := h.k; have := h.len; omega⟩
theorem compact_ok (hs : Slc 1 s L.length (iz .i64 L) A) (ho : Own h (A ++ F)) (hn : L.length + 2 ≤ n) (hl : L.length < 4611686018427387904) :
    ∃ s' h' A', f_slices_Compact_int_int n s h = some ((s', ()), h') ∧ Slc 1 s' (compact L).length (iz .i64 (compact L)) A' ∧ Own h' (A' ++ F) := by
  have hlb := hs.lenB
  have hnt := hs.notT
  by_cases h2 : L.length < 2
  · have hc : compact L = L := by
      match L, h2 with
      | [], _ => rfl
      | [x], _ => rfl
    refine ⟨s, h, A, ?_, by rw [hc]; exact hs, ho⟩
    have : ((L.length : Int) < 2) := by omega
    simp only [f_slices_Compact_int_int, hlb, Option.bind_some, this, decide_true, cond_true, hnt, Bool.not_false]
  · rcases slc_blk hs with ⟨_, rfl, _⟩ | ⟨b, off, sp, c, pre, rest, rfl, rfl, hp, c1, c2⟩
    · exact absurd (by simp) h2
    obtain ⟨r, e, s', A', hr, q1, q2⟩ := loopT_up (f := fun a => f_slices_Compact_int_int_L30 n (.slice (some ⟨b, off, sp⟩) L.length c) a.1.1 a.2)
      (fun j' (a : (Int × Unit) × Heap) => ∃ j : Nat, j = j' + 1 ∧ a = (((j : Int), ()), h) ∧ ∀ (hj : j - 1 < L.length), compact L = L.take j ++ cf L[j - 1] (L.drop j))
      (fun r => ∃ s' A', r.1 = (s', ()) ∧ Slc 1 s' (compact L).length (iz .i64 (compact L)) A' ∧ Own r.2 (A' ++ F)) (N := L.length - 1) (k := n) (j := 0) (a := ((1, ()), h)) (by omega) (by omega)
      (⟨1, rfl, rfl, fun hj => by
        match L, h2 with
        | x :: t, _ => simp [compact]⟩)
      (fun j' a hj hi => by
        · obtain ⟨j, hjj, rfl, hc⟩ := hi
          have hj1 : 1 ≤ j := by omega
          have hj : j < L.length := by omega
          have hlt : (j : Int) < (L.length : Int) := by omega
          have e1 := ix1 (b := b) (off := off) (sp := sp) (c := c) hj
          have e2 := blk_ld hp ho hj (rfl : off + j = off + j)
          have w1 := wrap_pred hj1 (by omega : j < 4611686018427387904)
          have e3 := ix1 (b := b) (off := off) (sp := sp) (c := c) (by omega : j - 1 < L.length)
          have e4 := blk_ld hp ho (by omega : j - 1 < L.length) (rfl : off + (j - 1) = off + (j - 1))
          have hcj := hc (by omega)
          rw [List.drop_eq_getElem_cons hj] at hcj
          by_cases he : L[j] = L[j - 1]
          · -- the first double
            refine .inr ?_
            have p9 := sliceK_l (h := h) (es := 1) (k' := .i64) (b := b) (off := off) (sp := sp) (n := L.length) (c := c) (j := j) (by omega) c1
            obtain ⟨r, e, kk, X, r1, r2, r3⟩ := loopT_up (f := fun a => f_slices_Compact_int_int_L23 n (.slice (some ⟨b, off, sp⟩) L.length c) (.slice (some ⟨b, off + j * 1, sp⟩) (L.length - j) (c - j), h) a.1.1 a.1.2.1 a.2)
              (fun k' (a : (Int × Int × Unit) × Heap) => ∃ (k2 : Nat), k2 = k' + 1 ∧ ∃ (kk : Nat) (X : List Int), a.1 = ((kk : Int), ((k2 : Int), ())) ∧ Ci L j k2 kk X ∧ Own a.2 ((b, Blk pre X rest) :: F))
              (fun r => ∃ (kk : Nat) (X : List Int), r.1 = ((kk : Int), ()) ∧ Ci L j (L.length - j) kk X ∧ Own r.2 ((b, Blk pre X rest) :: F)) (N := L.length - j - 1) (k := n) (j := 0) (a := (((j : Int), (1, ())), h)) (by omega) (by omega)
              (⟨1, rfl, j, L, rfl, ⟨rfl, fun _ _ => rfl, by omega, fun hi => by rw [hcj, he, cf_skip]; simp only [show j + 1 - 1 = j by omega, he]⟩, ho⟩)
              (fun k' a hk hi => by
                obtain ⟨⟨v10, v11, _⟩, h12⟩ := a
                · obtain ⟨k2, hkk2, kk, X, e0, hci, o12⟩ := hi
                  have hk1 : 1 ≤ k2 := by omega
                  have hk : k2 < L.length - j := by omega
                  cases e0
                  have o12 : Own h12 _ := o12
                  have hlen := hci.len
                  have hlt2 : (k2 : Int) < ((L.length - j : Nat) : Int) := by omega
                  have g1 := ix1 (b := b) (off := off + j * 1) (sp := sp) (c := c - j) (m := L.length - j) hk
                  have g2 := blk_ld (i := j + k2) (o := off + j * 1 + k2) hp o12 (by omega) (by omega)
                  have w2 := wrap_pred hk1 (by omega : k2 < 4611686018427387904)
                  have g3 := ix1 (b := b) (off := off + j * 1) (sp := sp) (c := c - j) (m := L.length - j) (i := k2 - 1) (by omega)
                  have g4 := blk_ld (i := j + k2 - 1) (o := off + j * 1 + (k2 - 1)) hp o12 (by omega) (by omega)
                  have x1 : X[j + k2]'(by omega) = L[j + k2] := by have := hci.drop (j + k2) (by omega); rw [List.getElem?_eq_getElem (by omega), List.getElem?_eq_getElem (by omega)] at this; exact Option.some.inj this
                  have x2 : X[j + k2 - 1]'(by omega) = L[j + k2 - 1] := by have := hci.drop (j + k2 - 1) (by omega); rw [List.getElem?_eq_getElem (by omega), List.getElem?_eq_getElem (by omega)] at this; exact Option.some.inj this
                  rw [x1] at g2
                  rw [x2] at g4
                  refine .inl ?_
                  by_cases hne : L[j + k2] = L[j + k2 - 1]
                  · exact ⟨(((kk : Int), (((k2 + 1 : Nat) : Int), ())), h12), by simp only [f_slices_Compact_int_int_L23, Go.Proofs.Ytebfdmecajomeaa.lenB, Option.bind_some, hlt2, decide_true, cond_true, g1, g2, w2, g3, g4, hne, Bool.not_true, cond_false, wrap_succ (show k2 < 4611686018427387904 by omega)], ⟨k2 + 1, by omega, kk, X, rfl, hci.skip hk1 (by omega) hne, o12⟩⟩
                  · have hkk := hci.k
                    have g5 := ix1 (b := b) (off := off) (sp := sp) (c := c) (m := L.length) (i := kk) (by omega)
                    obtain ⟨h21, g6, o21⟩ := blk_st (i := kk) (o := off + kk) (z := L[j + k2]) hp o12 (by omega) rfl
                    exact ⟨((((kk + 1 : Nat) : Int), (((k2 + 1 : Nat) : Int), ())), h21), by simp only [f_slices_Compact_int_int_L23, Go.Proofs.Ytebfdmecajomeaa.lenB, Option.bind_some, hlt2, decide_true, cond_true, g1, g2, w2, g3, g4, hne, decide_false, Bool.not_false, g5, g6, wrap_succ (show kk < 4611686018427387904 by omega), wrap_succ (show k2 < 4611686018427387904 by omega)], ⟨k2 + 1, by omega, kk + 1, _, rfl, hci.put hk1 (by omega) hne, o21⟩⟩
                )
              (fun a hi => by
                obtain ⟨⟨v10, v11, _⟩, h12⟩ := a
                obtain ⟨k2, hkk2, kk, X, e0, hci, o12⟩ := hi
                have hk2 : k2 = L.length - j := by omega
                rw [hk2] at e0 hci
                cases e0
                have hlt2 : ¬ ((L.length - j : Nat) : Int) < ((L.length - j : Nat) : Int) := by omega
                exact ⟨(((kk : Int), ()), h12), by simp only [f_slices_Compact_int_int_L23, Go.Proofs.Ytebfdmecajomeaa.lenB, Option.bind_some, hlt2, decide_false, cond_false], kk, X, rfl, hci, o12⟩)
            obtain ⟨⟨v24, _⟩, h24⟩ := r
            cases r1
            have r3 : Own h24 _ := r3
            obtain ⟨d1, d2⟩ := r2.done (by omega) (by omega)
            have hXl := r2.len
            have p25 := sliceK_l (h := h24) (es := 1) (k' := .i64) (b := b) (off := off) (sp := sp) (n := L.length) (c := c) (j := kk) (by omega) c1
            have p26 := clearK_of (zs := [.int .i64 0]) (n := L.length - kk) (c := c - kk) (sp := sp) (off := off + kk * 1) r3.head (by simp; omega)
            have p27 := sliceK_h (h := h24.put b (.cells (writeAt (pre ++ (iz .i64 X ++ rest)) (off + kk * 1) (List.replicate (L.length - kk) [Value.int .i64 0]).flatten) false 1)) (es := 1) (k' := .i64) (b := b) (off := off) (sp := sp) (n := L.length) (c := c) (j := kk) (by omega)
            have hw : writeAt (pre ++ (iz .i64 X ++ rest)) (off + kk * 1) (List.replicate (L.length - kk) [Value.int .i64 0]).flatten = pre ++ (iz .i64 (X.take kk ++ List.replicate (L.length - kk) 0) ++ rest) := by
              have hz : (List.replicate (L.length - kk) [Value.int .i64 0]).flatten = iz .i64 (List.replicate (L.length - kk) 0) := by
                generalize L.length - kk = m
                induction m with
                | zero => rfl
                | succ m ih => rw [List.replicate_succ, List.flatten_cons, ih]; rfl
              rw [hz, Nat.mul_one, ← hp, writeAt_mid (by simp; omega), writeAt_eq _ _ _ (by simp; omega)]
              congr 2
              rw [List.drop_eq_nil_of_le (by simp; omega), List.append_nil, iz_append]
              simp [iz, List.map_take]
            rw [hw] at p26 p27
            refine ⟨((.slice (some ⟨b, off, sp⟩) kk c, ()), h24.put b (Blk pre (X.take kk ++ List.replicate (L.length - kk) 0) rest)), by simp only [f_slices_Compact_int_int_L30, Go.Proofs.Ytebfdmecajomeaa.lenB, Option.bind_some, hlt, decide_true, cond_true, f_slices_Compact_int_int_C28, e1, e2, w1, e3, e4, he, p9, e, p25, p26, p27, isTuple, Bool.not_false, Option.map_some, thenB_inr], .slice (some ⟨b, off, sp⟩) kk c, [(b, Blk pre (X.take kk ++ List.replicate (L.length - kk) 0) rest)], rfl, ?_, r3.put _⟩
            have hk : (X.take kk).length = kk := by rw [List.length_take]; omega
            have := blk_slc (b := b) (sp := sp) (c := c) (rest := rest) (X := X.take kk ++ List.replicate (L.length - kk) 0) (i := kk) hp (by rw [List.length_append, hk]; omega) (by omega) (by rw [List.length_append, hk, List.length_replicate]; omega)
            rw [List.take_append_of_le_length (by omega), List.take_take, Nat.min_self] at this
            rwa [d1, hk]
          · refine .inl ⟨((((j + 1 : Nat) : Int), ()), h), by simp only [f_slices_Compact_int_int_L30, Go.Proofs.Ytebfdmecajomeaa.lenB, Option.bind_some, hlt, decide_true, cond_true, f_slices_Compact_int_int_C28, e1, e2, w1, e3, e4, he, decide_false, cond_false, thenB_inl, wrap_succ (show j < 4611686018427387904 by omega)], ⟨j + 1, by omega, rfl, fun hj => ?_⟩⟩
            rw [hcj, cf_put he, take_snoc (by omega), List.append_assoc]
            simp
        )
      (fun a hi => by
        obtain ⟨j, hjj, rfl, hc⟩ := hi
        obtain rfl : j = L.length := by omega
        have hlt : ¬ (L.length : Int) < (L.length : Int) := by omega
        have hcj := hc (by omega)
        rw [List.drop_length, List.take_length] at hcj
        have hcl : compact L = L := by simpa [cf] using hcj
        exact ⟨((.slice (some ⟨b, off, sp⟩) L.length c, ()), h), by simp only [f_slices_Compact_int_int_L30, Go.Proofs.Ytebfdmecajomeaa.lenB, Option.bind_some, hlt, decide_false, cond_false, isTuple, Bool.not_false, cond_true, Option.map_some], _, _, rfl, by rw [hcl]; exact hs, ho⟩)
    obtain ⟨⟨v, _⟩, h'⟩ := r
    cases hr
    have : ¬ ((L.length : Int) < 2) := by omega
    exact ⟨s', h', A', by simp only [f_slices_Compact_int_int, Go.Proofs.Ytebfdmecajomeaa.lenB, Option.bind_some, this, decide_false, cond_false, e], q1, q2⟩
theorem clip_ok (hs : Slc 1 s L.length (iz .i64 L) A) : ∃ s', f_slices_Clip_int_int n s h = some ((s', ()), h) ∧ Slc 1 s' L.length (iz .i64 L) A := by
  rcases slc_blk hs with ⟨rfl, rfl, rfl⟩ | ⟨b, off, sp, c, pre, rest, rfl, rfl, hp, c1, c2⟩
  · exact ⟨_, rfl, .nil⟩
  · have e := sliceK_hm (h := h) (es := 1) (k := .i64) (k' := .i64) (b := b) (off := off) (sp := sp) (n := L.length) (c := c) (Nat.le_refl L.length) c1
    refine ⟨.slice (some ⟨b, off, some 0⟩) L.length L.length, by simp only [f_slices_Clip_int_int, Go.Proofs.Ytebfdmecajomeaa.lenB, Option.bind_some, e, isTuple, Bool.not_false, cond_true], ?_⟩
    have := blk_slc (b := b) (sp := some 0) (c := L.length) (rest := rest) (X := L) (i := L.length) hp (Nat.le_refl _) (Nat.le_refl _) (by omega)
    rwa [List.take_length] at this
theorem rising_ok (hr : Sow 1 s L.length (iz .i64 L) G) (ho : Own h (G ++ F)) (hn : L.length + 2 ≤ n) (hl : L.length * 8 ≤ 140737488355328) :
    ∃ s' h' A', f_blocks_rising n s h = some ((s', ()), h') ∧ Slc 1 s' (form L).length (iz .i64 (form L)) A' ∧ Own h' (A' ++ (G ++ F)) := by
  obtain ⟨s0, h0, A0, e0, y0, o0⟩ := cloneI_ok (n := n) hr ho hl
  obtain ⟨h1, A1, e1, y1, o1⟩ := sort_ok (n := n) y0 o0 (by omega)
  have y1 : Slc 1 s0 (isort L).length (iz .i64 (isort L)) A1 := by rw [isort_length]; exact y1
  obtain ⟨s2, h2, A2, e2, y2, o2⟩ := compact_ok (n := n) y1 o1 (by rw [isort_length]; exact hn) (by rw [isort_length]; omega)
  obtain ⟨s3, e3, y3⟩ := clip_ok (n := n) (h := h2) y2
  exact ⟨s3, h2, A2, by simp only [f_blocks_rising, e0, Option.bind_some, e1, e2, e3, y3.notT, Bool.not_false, cond_true], y3, o2⟩
theorem take_mem_snoc {j : Nat} (hj : j < L.length) : t ∈ L.take (j + 1) ↔ t ∈ L.take j ∨ t = L[j] := by
  rw [take_snoc hj, List.mem_append, List.mem_singleton]
theorem same5_ok (hr : Rds h 1 s L.length (iz .i64 L)) (hr2 : Rds h 1 u L.length (iz .i64 L)) (hn : L.length + 1 ≤ n) (hl : L.length < 4611686018427387904) : f_wicketref05_Same n s u h = some ((true, ()), h) := by
  obtain ⟨r, e, q⟩ := loopT_up (f := fun a => f_wicketref05_Same_L9 n u s a.1.1 a.2)
    (fun j (a : (Int × Unit) × Heap) => a = (((j : Int), ()), h)) (fun r => r = ((true, ()), h)) (N := L.length) (k := n) (j := 0) (a := ((0, ()), h)) (by omega) (by omega) rfl
    (fun j a hj hi => by
      subst hi
      have hlt : (j : Int) < (L.length : Int) := by omega
      obtain ⟨q, e1, e2⟩ := hr.int hj
      obtain ⟨q', e3, e4⟩ := hr2.int hj
      exact .inl ⟨_, by simp only [f_wicketref05_Same_L9, hr.lenB, hlt, decide_true, cond_true, e1, e2, e3, e4, Option.bind_some, Bool.not_true, cond_false, wrap_succ (show j < 4611686018427387904 by omega)], rfl⟩)
    (fun a hi => by
      subst hi
      have hlt : ¬ (L.length : Int) < (L.length : Int) := by omega
      exact ⟨_, by simp only [f_wicketref05_Same_L9, hr.lenB, Option.bind_some, hlt, decide_false, cond_false], rfl⟩)
  simp only [f_wicketref05_Same, hr.lenB, hr2.lenB, Option.bind_some, decide_true, Bool.not_true, cond_false, e, q]

theorem turn_blk (hp : pre.length = off) (ho : Own h ((b, Blk pre L rest) :: F)) (hn : L.length + 2 ≤ n) (hl : L.length < 4611686018427387904) :
    ∃ h' X, f_wicketlaw05_turn n (.slice (some ⟨b, off, sp⟩) L.length c) h = some ((), h') ∧ X.length = L.length ∧ (∀ x ∈ X, x ∈ L) ∧ Own h' ((b, Blk pre X rest) :: F) := by
  have hd : IntKind.i64.wrap (Int.tdiv (L.length : Int) 2) = ((L.length / 2 : Nat) : Int) := by
    rw [show Int.tdiv (L.length : Int) 2 = ((L.length / 2 : Nat) : Int) from rfl, wrap_i64 (by omega) (by omega)]
  obtain ⟨⟨u, h1⟩, e, X, q1, q2, q3⟩ := loopT_up (f := fun a => f_wicketlaw05_turn_L13 n (.slice (some ⟨b, off, sp⟩) L.length c) a.1.1 a.2)
    (fun j (a : (Int × Unit) × Heap) => a.1 = ((j : Int), ()) ∧ ∃ X : List Int, X.length = L.length ∧ (∀ x ∈ X, x ∈ L) ∧ Own a.2 ((b, Blk pre X rest) :: F))
    (fun r => ∃ X : List Int, X.length = L.length ∧ (∀ x ∈ X, x ∈ L) ∧ Own r.2 ((b, Blk pre X rest) :: F)) (N := L.length / 2) (k := n) (j := 0) (a := ((0, ()), h)) (by omega) (by omega) ⟨rfl, L, rfl, fun _ h => h, ho⟩
    (fun j a hj hi => by
      obtain ⟨⟨v, _⟩, h1⟩ := a
      obtain ⟨e0, X, x1, x2, o1⟩ := hi
      cases e0
      have o1 : Own h1 _ := o1
      have hlt : (j : Int) < ((L.length / 2 : Nat) : Int) := by omega
      have w1 := wrap_pred (j := L.length) (by omega) hl
      have w2 : IntKind.i64.wrap (((L.length - 1 : Nat) : Int) - (j : Int)) = ((L.length - 1 - j : Nat) : Int) := by rw [wrap_i64 (by omega) (by omega)]; omega
      have g1 := ix1 (b := b) (off := off) (sp := sp) (c := c) (m := L.length) (i := L.length - 1 - j) (by omega)
      have g2 := blk_ld (i := L.length - 1 - j) hp o1 (by omega) rfl
      have g3 := ix1 (b := b) (off := off) (sp := sp) (c := c) (m := L.length) (i := j) (by omega)
      have g4 := blk_ld (i := j) hp o1 (by omega) rfl
      obtain ⟨h2, g5, o2⟩ := blk_st (i := j) (z := X[L.length - 1 - j]'(by omega)) hp o1 (by omega) rfl
      obtain ⟨h3, g6, o3⟩ := blk_st (i := L.length - 1 - j) (z := X[j]'(by omega)) hp o2 (by simp; omega) rfl
      refine .inl ⟨((((j + 1 : Nat) : Int), ()), h3), by simp only [f_wicketlaw05_turn_L13, Go.Proofs.Ytebfdmecajomeaa.lenB, Option.bind_some, hd, hlt, decide_true, cond_true, w1, w2, g1, g2, g3, g4, g5, g6, wrap_succ (show j < 4611686018427387904 by omega)], rfl, _, ?_, ?_, o3⟩
      · simp [x1]
      · intro x hx
        rcases List.mem_or_eq_of_mem_set hx with hx | rfl
        · rcases List.mem_or_eq_of_mem_set hx with hx | rfl
          · exact x2 x hx
          · exact x2 _ (List.getElem_mem _)
        · exact x2 _ (List.getElem_mem _))
    (fun a hi => by
      obtain ⟨⟨v, _⟩, h1⟩ := a
      obtain ⟨e0, X, x1, x2, o1⟩ := hi
      cases e0
      have hlt : ¬ ((L.length / 2 : Nat) : Int) < ((L.length / 2 : Nat) : Int) := by omega
      exact ⟨((), h1), by simp only [f_wicketlaw05_turn_L13, Go.Proofs.Ytebfdmecajomeaa.lenB, Option.bind_some, hd, hlt, decide_false, cond_false], X, x1, x2, o1⟩)
  have q3 : Own h1 _ := q3
  by_cases h0 : L.length = 0
  · have : ¬ (0 : Int) < (L.length : Int) := by omega
    exact ⟨h1, X, by simp only [f_wicketlaw05_turn, e, Option.bind_some, Go.Proofs.Ytebfdmecajomeaa.lenB, this, decide_false, cond_false], q1, q2, q3⟩
  · have h3 : (0 : Int) < (L.length : Int) := by omega
    have w1 := wrap_pred (j := L.length) (by omega) hl
    have g1 := ix1 (b := b) (off := off) (sp := sp) (c := c) (m := L.length) (i := L.length - 1) (by omega)
    have g2 := blk_ld (i := L.length - 1) hp q3 (by omega) rfl
    have g3 : ixB 1 (.slice (some ⟨b, off, sp⟩) L.length c) 0 = some ⟨b, off + 0, none⟩ := ix1 (i := 0) (by omega)
    obtain ⟨h2, g5, o2⟩ := blk_st (i := 0) (z := X[L.length - 1]'(by omega)) hp q3 (by omega) rfl
    refine ⟨h2, _, by simp only [f_wicketlaw05_turn, e, Option.bind_some, Go.Proofs.Ytebfdmecajomeaa.lenB, h3, decide_true, cond_true, w1, g1, g2, g3, g5], by simp [q1], fun x hx => ?_, o2⟩
    rcases List.mem_or_eq_of_mem_set hx with hx | rfl
    · exact q2 x hx
    · exact q2 _ (List.getElem_mem _)
end
end Go.Proofs.Ytebfdmecajomeaa

/- Membership, as the document says it. -/
namespace Go.Proofs.Ytebfdmecajomeaa
open Go
set_option linter.unusedVariables false
set_option linter.unusedSimpArgs false
section
variable {n m i : Nat} {s u : Value} {L X Y : List Int} {t z : Int} {h : Heap} {G F A B : Ch} {cs : List Value}
theorem rhas_ok (hr : Rds h 1 s L.length (iz .i64 L)) (hn : L.length + 1 ≤ n) (hl : L.length < 4611686018427387904) : f_wicketref05_Has n s t h = some ((decide (t ∈ L), ()), h) := by
  obtain ⟨r, e, q⟩ := loopT_up (f := fun a => f_wicketref05_Has_L5 n t s a.1.1 a.2)
    (fun j (a : (Int × Unit) × Heap) => a = (((j : Int), ()), h) ∧ ¬ t ∈ L.take j) (fun r => r = ((decide (t ∈ L), ()), h)) (N := L.length) (k := n) (j := 0) (a := ((0, ()), h)) (by omega) (by omega) ⟨rfl, by simp⟩
    (fun j a hj hi => by
      obtain ⟨rfl, hi⟩ := hi
      have hlt : (j : Int) < (L.length : Int) := by omega
      obtain ⟨q, e1, e2⟩ := hr.int hj
      by_cases hc : L[j] = t
      · have hm : t ∈ L := hc ▸ List.getElem_mem hj
        exact .inr ⟨((true, ()), h), by simp only [f_wicketref05_Has_L5, hr.lenB, hlt, decide_true, cond_true, e1, e2, Option.bind_some, hc], by simp only [hm, decide_true]⟩
      · refine .inl ⟨_, by simp only [f_wicketref05_Has_L5, hr.lenB, hlt, decide_true, cond_true, e1, e2, Option.bind_some, hc, decide_false, cond_false, wrap_succ (show j < 4611686018427387904 by omega)], rfl, ?_⟩
        rw [take_mem_snoc hj]
        exact fun h => h.elim hi fun e => hc e.symm)
    (fun a hi => by
      obtain ⟨rfl, hi⟩ := hi
      have hlt : ¬ (L.length : Int) < (L.length : Int) := by omega
      rw [List.take_length] at hi
      exact ⟨((false, ()), h), by simp only [f_wicketref05_Has_L5, hr.lenB, Option.bind_some, hlt, decide_false, cond_false], by simp only [hi, decide_false]⟩)
  rw [f_wicketref05_Has, e, q]
end
end Go.Proofs.Ytebfdmecajomeaa

/- Roomy lists; lists apart. -/
namespace Go.Proofs.Ytebfdmecajomeaa
open Go
set_option linter.unusedVariables false
set_option linter.unusedSimpArgs false
theorem lds_of {h : Heap} {q : Addr} {c : Value} {ty : Ty} (e : ldAS 1 h (some q) = some [c]) : ldTS ty h (some q) = ty.prj c := by
  simp only [ldAS, Option.bind_some] at e
  simp only [ldTS, Option.bind_some, e]; rfl
theorem Dn.vs {es j : Nat} {mk : Nat → List Value} {xs ds : List Ax} (hd : Dn es mk xs ds j) (hj : j = xs.length) : ds.map Ax.v = xs.map Ax.v := by
  subst hj
  refine List.ext_getElem (by simp [hd.len]) fun i h1 h2 => ?_
  rw [List.getElem_map, List.getElem_map]
  exact (hd.d i (by simpa using h1) (by simpa using h2)).1
def mk5 (i : Nat) : List Value := [.int .i64 (IntKind.i64.wrap (-1 - (i : Int)))]
def gr5 (i : Nat) : List Value := [.int .i64 (IntKind.i64.wrap (-1001 - (i : Int)))]
section
variable {n B : Nat} {u : Value} {U F : Ch} {h : Heap} {xs : List Ax}
theorem apart5_ok (hu : Slc 1 u xs.length (xs.map Ax.v) U) (hx : ∀ x ∈ xs, Slc 1 x.v x.m x.cs x.A ∧ x.m ≤ B) (ho : Own h (U ++ (xs.flatMap Ax.A ++ F))) (hB : (B + 80) * 8 ≤ 140737488355328) (hN : xs.length ≤ 100000000000) (hn : B + 100 ≤ n) (hn2 : xs.length + 100 ≤ n) :
    ∃ h', f_wicketlaw05_Apart n u h = some ((true, ()), h') ∧ Own h' (U ++ F) := by
  have o0 : Own (clrH h) (U ++ (xs.flatMap Ax.A ++ F)) := ⟨ho.get, ho.nodup, ho.lt⟩
  have hul := hu.lenB
  obtain ⟨h1, ds, e1, d1, o1, s1⟩ := marks_gen (n := n) (es := 1) (r := ()) (r2 := ()) (fin := fun i a => f_wicketlaw05_Apart_L13 n u (i : Int) a.1.1 a.2) (f := fun a => f_wicketlaw05_Apart_L15 n u a.1.1 a.2) (V := fun i => .int .i64 (IntKind.i64.wrap (-1 - (i : Int)))) (B := B)
    hu hx o0 rfl (fun _ => rfl) (fun _ => rfl)
    (fun i v m k h1 h2 q q' hi hl hk g1 g2 g3 g4 => by
      have hlt : (k : Int) < (m : Int) := by omega
      simp only [f_wicketlaw05_Apart_L13, g1, g2, hl, Option.bind_some, hlt, decide_true, cond_true, g3, g4])
    (fun i v m h1 q hi hl g1 g2 => by
      have hlt : ¬ (m : Int) < (m : Int) := by omega
      simp only [f_wicketlaw05_Apart_L13, g1, g2, hl, Option.bind_some, hlt, decide_false, cond_false])
    (fun i h1 h2 hi e => by
      have hlt : (i : Int) < (xs.length : Int) := by omega
      simp only [f_wicketlaw05_Apart_L15, hul, Option.bind_some, hlt, decide_true, cond_true]
      rw [e]; rfl)
    (fun h1 => by
      have hlt : ¬ (xs.length : Int) < (xs.length : Int) := by omega
      simp only [f_wicketlaw05_Apart_L15, hul, Option.bind_some, hlt, decide_false, cond_false])
    (by omega) (by omega) (by omega) (by omega)
  have hdl : ds.length = xs.length := d1.len
  have hvs := d1.vs rfl
  rw [← hvs, ← hdl] at hu
  rw [← hdl] at hN hn2 hul
  have hds : ∀ (i : Nat) (h1 : i < ds.length), Slc 1 ds[i].v ds[i].m (cw (mk5 i) (gr5 i) ds[i].m 0) ds[i].A ∧ ds[i].m ≤ B := by
    intro i h1
    obtain ⟨a1, a2, a3, a4⟩ := d1.d i h1 (by omega)
    refine ⟨?_, by rw [a2]; exact (hx _ (List.getElem_mem _)).2⟩
    rw [a3] at a4
    rw [cw_zero]; exact a4
  have hd1 : ShD h1 := fun e he => by rw [s1] at he; cases he
  obtain ⟨lg, h2, Lg, gs, e2, l2, g2, o2, d2⟩ := grows_gen (n := n) (es := 1) (M := 80) (B := B) (bytes := 8) (mk := mk5) (gr := gr5) (fin := fun i a => f_wicketlaw05_Apart_L34 n (i : Int) a.1.1 a.1.2.1 a.1.2.2.1 a.2) (f := fun a => f_wicketlaw05_Apart_L40 n u a.1.1 a.1.2.1 a.2)
    hu hds o1 hd1 (by decide) (fun _ => rfl) (fun _ => rfl) (fun c hc => Nat.le_trans (Nat.mul_le_mul_right 8 hc) hB) hN (by decide) (by decide) (by omega) (by omega)
    (fun i k lg x x' lg' h h1 h2 hk g1 c1 c2 g2 => by
      have hlt : (k : Int) < 80 := by omega
      have hl2 : (k : Int) < 16 := by omega
      have f1 : fillL [.int .i64 0] [(0, 1, .int .i64 (IntKind.i64.wrap (-1001 - (i : Int))))] = some (gr5 i) := rfl
      have f2 := fill1 (d := .slice none 0 0) c1 c2
      simp only [f_wicketlaw05_Apart_L34, hlt, hl2, decide_true, cond_true, f1, Option.bind_some, bnd_eq, g1, f2, g2])
    (fun i k lg x x' h h1 hk hk2 g1 => by
      have hlt : (k : Int) < 80 := by omega
      have hl2 : ¬ (k : Int) < 16 := by omega
      have f1 : fillL [.int .i64 0] [(0, 1, .int .i64 (IntKind.i64.wrap (-1001 - (i : Int))))] = some (gr5 i) := rfl
      simp only [f_wicketlaw05_Apart_L34, hlt, hl2, decide_true, decide_false, cond_true, cond_false, f1, Option.bind_some, bnd_eq, g1])
    (fun i lg x h => rfl)
    (fun i lg v lg1 x1 lg2 h h1 h2 q hi g1 g2 g3 c1 c2 g4 => by
      have hlt : (i : Int) < (ds.length : Int) := by omega
      have f2 := fill1 (d := .slice none 0 0) c1 c2
      simp only [f_wicketlaw05_Apart_L40, hul, Option.bind_some, hlt, decide_true, cond_true, g1, g2]
      rw [g3]
      simp only [Option.bind_some, f2, bnd_eq, g4])
    (fun lg h => by
      have hlt : ¬ (ds.length : Int) < (ds.length : Int) := by omega
      simp only [f_wicketlaw05_Apart_L40, hul, Option.bind_some, hlt, decide_false, cond_false])
  -- looked at
  have oU : Own h2 (U ++ (Lg ++ (gs.flatMap Gp.G ++ F))) := o2.to fun z => by simp only [cnt_append]; omega
  have inner : ∀ (i : Nat) (hi : i < ds.length), f_wicketlaw05_Apart_C76 n u ((lg, ()), h2) (i : Int) h2 = some (.inl ((), h2)) := by
    intro i hi
    have hgi : i < gs.length := by rw [g2.len]; exact hi
    have hy := List.getElem?_eq_getElem hgi
    have hxx := List.getElem?_eq_getElem hi
    have hvi : (ds.map Ax.v)[i]? = some ds[i].v := by rw [List.getElem?_map, hxx]; rfl
    obtain ⟨q, r1, r2⟩ := sl_at hu oU d2 hvi
    have hm := (hds i hi).2
    have hlv := (hds i hi).1.lenB
    have oG : Own h2 (gs[i].G ++ []) := o2.to fun z => by
      have : cnt z gs[i].G ≤ cnt z (gs.flatMap Gp.G) := cnt_sublist (List.sublist_flatten_of_mem (L := gs.map Gp.G) (List.mem_map_of_mem (List.getElem_mem hgi)))
      simp only [cnt_append, cnt_nil]; omega
    have k1 : f_wicketlaw05_Apart_C57 n u (i : Int) h2 = some (.inl ((), h2)) := by
      refine look1 (f := fun a => f_wicketlaw05_Apart_L56 n u (i : Int) a.1.1 a.2) (g2.k i _ _ hy hxx) rfl oG rfl (by simp [mk5, Go.Proofs.Ytebfdmecajomeaa.sameL, sameV]) (by simp [gr5, Go.Proofs.Ytebfdmecajomeaa.sameL, sameV]) (fun k q' hk e1 e2 => ?_) ?_ (by omega) (by omega)
      · have hlt : (k : Int) < (ds[i].m : Int) := by omega
        have e3 := lds_of (ty := .int .i64) e2
        rw [prj_int] at e3
        simp only [f_wicketlaw05_Apart_L56, r1, r2, hlv, Option.bind_some, hlt, decide_true, cond_true, e1, e3, Bool.not_true, cond_false]
      · have hlt : ¬ (ds[i].m : Int) < (ds[i].m : Int) := by omega
        simp only [f_wicketlaw05_Apart_L56, r1, r2, hlv, Option.bind_some, hlt, decide_false, cond_false]
    have k2 : ∀ (g : Nat), g < 17 → f_wicketlaw05_Apart_C73 n u ((lg, ()), h2) (i : Int) (g : Int) h2 = some (.inl ((), h2)) := by
      intro g hg
      have hv17 := g2.vs i _ hy
      have hw : gs[i].vs[g]? = some (gs[i].vs[g]'(by omega)) := List.getElem?_eq_getElem (by omega)
      have hat := (flat17_at g2.vs hy hg).trans hw
      generalize gs[i].vs[g]'(by omega) = w at hw hat
      obtain ⟨q3, t1, t2⟩ := sl_at l2 (F := gs.flatMap Gp.G ++ (U ++ F)) (h := h2) o2 d2 hat
      have hkp := g2.g i _ _ hy hxx g w hw
      have hlw := hkp.lenB
      have hcc : cc 80 g ≤ 80 := by unfold cc; split <;> omega
      have w1 : IntKind.i64.wrap (IntKind.i64.wrap (17 * (i : Int)) + (g : Int)) = ((17 * i + g : Nat) : Int) := by
        have w0 : IntKind.i64.wrap (17 * (i : Int)) = 17 * (i : Int) := wrap_i64 (by omega) (by omega)
        rw [w0, wrap_i64 (by omega) (by omega)]; omega
      simp only [f_wicketlaw05_Apart_C73, w1, t1, t2, r1, r2, hlv, Option.bind_some]
      refine look2 (f := fun a => f_wicketlaw05_Apart_L72 n (i : Int) w a.1.1 a.2) hkp oG rfl rfl (by simp [mk5, Go.Proofs.Ytebfdmecajomeaa.sameL, sameV]) (by simp [gr5, Go.Proofs.Ytebfdmecajomeaa.sameL, sameV]) (fun k q' hk e1 e2 => ?_) ?_ (by omega) (by omega)
      · have hlt : (k : Int) < ((ds[i].m + cc 80 g : Nat) : Int) := by omega
        have e3 := lds_of (ty := .int .i64) e2
        rw [prj_int] at e3
        simp only [f_wicketlaw05_Apart_L72, hlw, Option.bind_some, hlt, decide_true, cond_true, e1, e3, Bool.not_true, cond_false]
      · have hlt : ¬ ((ds[i].m + cc 80 g : Nat) : Int) < ((ds[i].m + cc 80 g : Nat) : Int) := by omega
        simp only [f_wicketlaw05_Apart_L72, hlw, Option.bind_some, hlt, decide_false, cond_false]
    have k3 : loopT (fun a => f_wicketlaw05_Apart_L75 n u ((lg, ()), h2) (i : Int) a.1.1 a.2) n (((0 : Int), ()), h2) = some (.inl ((), h2)) := by
      obtain ⟨x, e, q⟩ := loopT_up (f := fun a => f_wicketlaw05_Apart_L75 n u ((lg, ()), h2) (i : Int) a.1.1 a.2) (fun k (a : (Int × Unit) × Heap) => a = (((k : Int), ()), h2)) (fun x => x = .inl ((), h2)) (N := 17) (k := n) (j := 0) (a := ((0, ()), h2)) (by omega) (by omega) rfl
        (fun k a hk hi => by
          subst hi
          have hlt : (k : Int) < 17 := by omega
          exact .inl ⟨_, by simp only [f_wicketlaw05_Apart_L75, hlt, decide_true, cond_true, k2 k hk, thenB_inl, wrap_succ (show k < 4611686018427387904 by omega)], rfl⟩)
        (fun a hi => by subst hi; exact ⟨_, rfl, rfl⟩)
      rw [e, q]
    simp only [f_wicketlaw05_Apart_C76, k1, thenB_inl, k3]
  refine ⟨h2, ?_, o2.to fun z => by simp only [cnt_append]; omega⟩
  have e3 : loopT (fun a => f_wicketlaw05_Apart_L78 n u ((lg, ()), h2) a.1.1 a.2) n (((0 : Int), ()), h2) = some ((true, ()), h2) := by
    obtain ⟨x, e, q⟩ := loopT_up (f := fun a => f_wicketlaw05_Apart_L78 n u ((lg, ()), h2) a.1.1 a.2) (fun k (a : (Int × Unit) × Heap) => a = (((k : Int), ()), h2)) (fun x => x = ((true, ()), h2)) (N := ds.length) (k := n) (j := 0) (a := ((0, ()), h2)) (by omega) (by omega) rfl
      (fun k a hk hi => by
        subst hi
        have hlt : (k : Int) < (ds.length : Int) := by omega
        exact .inl ⟨_, by simp only [f_wicketlaw05_Apart_L78, hul, Option.bind_some, hlt, decide_true, cond_true, inner k hk, thenB_inl, wrap_succ (show k < 4611686018427387904 by omega)], rfl⟩)
      (fun a hi => by
        subst hi
        have hlt : ¬ (ds.length : Int) < (ds.length : Int) := by omega
        exact ⟨_, by simp only [f_wicketlaw05_Apart_L78, hul, Option.bind_some, hlt, decide_false, cond_false], rfl⟩)
    rw [e, q]
  have e1 : loopT (fun a => f_wicketlaw05_Apart_L15 n u a.1.1 a.2) n (((0 : Int), ()), clrH h) = some ((), h1) := e1
  simp only [f_wicketlaw05_Apart, bnd_eq, e1, Option.bind_some, e2, e3]
end
section
variable {n m i : Nat} {s u : Value} {L X Y : List Int} {t z : Int} {h : Heap} {G F A B : Ch} {cs : List Value}
end
section
variable {n m i p k e b : Nat} {s u : Value} {L X Y w : List Int} {t z : Int} {h : Heap} {G F A B Lx : Ch} {cs xs : List Value} {kv W M : List (Int × List Int)}
/-- Marked: two numbers stand behind. -/
def Mk5 (s : Value) (X : List Int) (A : Ch) : Prop := ∃ b off sp c, Slc 1 (.slice (some ⟨b, off, sp⟩) (X.length + 2) c) (X.length + 2) (iz .i64 (X ++ [7777, 8888])) A ∧ X.length + 2 ≤ c ∧ s = .slice (some ⟨b, off, sp⟩) X.length c
theorem Mk5.slc (hm : Mk5 s X A) : Slc 1 s X.length (iz .i64 X) A := by
  obtain ⟨b, off, sp, c, h1, h2, rfl⟩ := hm
  have := h1.pre' (k := X.length) (by omega)
  have ek : (iz .i64 (X ++ [7777, 8888])).take X.length = iz .i64 X := by
    rw [iz, List.map_append, List.take_append_of_le_length (by simp), List.take_of_length_le (by simp)]; rfl
  rwa [ek] at this
theorem ownI_ok (hr : Sow 1 u m cs G) (ho : Own h (G ++ F)) (hm : m * 8 ≤ 140737488355328) :
    ∃ s h' A', f_wicketlaw05_Own n u h = some ((s, ()), h') ∧ Slc 1 s m cs A' ∧ Own h' (A' ++ (G ++ F)) := by
  have o1 := ho.new (.cells [] false 1)
  have hs : Slc 1 (.slice (some ⟨h.next, 0, some 0⟩) 0 0) 0 [] [(h.next, .cells ([] ++ ([] ++ [])) false 1)] := .mk rfl rfl rfl
  obtain ⟨s', h', A', e1, e2, e3⟩ := hr.app hs (F := F) (h := h.new (.cells [] false 1)) (o1.to fun x => by simp only [cnt_append, cnt_cons, cnt_nil, List.nil_append, List.append_nil]; omega) (by decide) (bytes := 8) (by omega)
  refine ⟨s', h', A', ?_, by simpa using e2, e3⟩
  simp only [f_wicketlaw05_Own, fill0, Option.bind_some, bnd_eq, e1, e2.notT, Bool.not_false, cond_true]
theorem roomy_ok (hr : Sow 1 u X.length (iz .i64 X) G) (ho : Own h (G ++ F)) (hm : (X.length + 2) * 8 ≤ 140737488355328) :
    ∃ s h' A', f_wicketlaw05_Roomy n u h = some ((s, ()), h') ∧ Mk5 s X A' ∧ Own h' (A' ++ (G ++ F)) := by
  obtain ⟨s1, h1, A1, e1, e2, o1⟩ := ownI_ok (n := n) hr ho (by omega)
  have o2 := o1.new (.cells [.int .i64 7777, .int .i64 8888] false 1)
  have hy : Slc 1 (.slice (some ⟨h1.next, 0, some 0⟩) 2 2) 2 [.int .i64 7777, .int .i64 8888] [(h1.next, .cells ([] ++ ([.int .i64 7777, .int .i64 8888] ++ [])) false 1)] := .mk rfl rfl rfl
  obtain ⟨s3, h3, A3, e3, e4, o3⟩ := hy.sow.app e2 (F := G ++ F) (h := h1.new (.cells [.int .i64 7777, .int .i64 8888] false 1)) (o2.to fun x => by simp only [cnt_append, cnt_cons, cnt_nil, List.nil_append, List.append_nil]; omega) (by decide) (bytes := 8) (by omega)
  have e4 : Slc 1 s3 (X.length + 2) (iz .i64 (X ++ [7777, 8888])) A3 := by simpa [iz] using e4
  have f1 : fillL [.int .i64 0, .int .i64 0] [(0, 1, .int .i64 7777), (1, 1, .int .i64 8888)] = some [.int .i64 7777, .int .i64 8888] := rfl
  have hl := (hr.rds ho).lenB
  obtain ⟨a, c, rfl⟩ := e4.form
  cases a with
  | none => cases e4
  | some q =>
    obtain ⟨b, off, sp⟩ := q
    have hc : X.length + 2 ≤ c := by
      have hl := e4.len
      generalize iz .i64 (X ++ [7777, 8888]) = zs at e4 hl
      cases e4 with
      | mk' hp hl' hr => omega
    have s5 : sliceK h3 1 none (some (.int .i64 (X.length : Int))) none (.slice (some ⟨b, off, sp⟩) (X.length + 2) c) = some (.slice (some ⟨b, off, sp⟩) X.length c, h3) := sliceK_h (by omega)
    refine ⟨.slice (some ⟨b, off, sp⟩) X.length c, h3, A3, ?_, ⟨b, off, sp, c, e4, hc, rfl⟩, o3.to fun x => by simp only [cnt_append, cnt_cons]; omega⟩
    simp only [f_wicketlaw05_Roomy, e1, Option.bind_some, f1, bnd_eq, e3, hl, s5, isTuple, Bool.not_false, cond_true]
theorem heldI_ok (hk : Mk5 s X A) (hr : Sow 1 u X.length (iz .i64 X) G) (ho : Own h (A ++ (G ++ F))) (hm : (X.length + 2) * 8 ≤ 140737488355328) (hn : X.length + 100 ≤ n) : f_wicketlaw05_Held n s u h = some ((true, ()), h) := by
  have h2 := hk.slc
  obtain ⟨b, off, sp, c, h1, hc, rfl⟩ := hk
  have rr := hr.rds (h := h) (F := A ++ F) (ho.to fun x => by simp only [cnt_append]; omega)
  have r1 := h1.rds ho
  have e1 : sliceK h 1 none (some (.int .i64 (IntKind.i64.wrap ((X.length : Int) + 2)))) none (.slice (some ⟨b, off, sp⟩) X.length c) = some (.slice (some ⟨b, off, sp⟩) (X.length + 2) c, h) := by
    have : IntKind.i64.wrap ((X.length : Int) + 2) = ((X.length + 2 : Nat) : Int) := by rw [wrap_i64 (by omega) (by omega)]; omega
    rw [this]; exact sliceK_h hc
  have e2 : sliceK h 1 none (some (.int .i64 (X.length : Int))) none (.slice (some ⟨b, off, sp⟩) (X.length + 2) c) = some (.slice (some ⟨b, off, sp⟩) X.length c, h) := sliceK_h (by omega)
  have e3 := same5_ok (n := n) (h2.rds ho) rr (by omega) (by omega)
  have hl2 : (X ++ [7777, 8888] : List Int).length = X.length + 2 := by simp
  obtain ⟨q4, e4, e5⟩ := r1.intn hl2 (i := X.length) (by omega)
  obtain ⟨q6, e6, e7⟩ := r1.intn hl2 (i := X.length + 1) (by omega)
  have x4 : (X ++ [7777, 8888])[X.length]'(by omega) = 7777 := by simp
  have x6 : (X ++ [7777, 8888])[X.length + 1]'(by omega) = 8888 := by simp
  rw [x4] at e5
  rw [x6] at e7
  simp only [f_wicketlaw05_Held, rr.lenB, Option.bind_some, e1, e2, e3, cond_true, e4, e5, decide_true, wrap_succ (show X.length < 4611686018427387904 by omega), e6, e7]
end
end Go.Proofs.Ytebfdmecajomeaa

/- Membership, what stands in both, the next one: as the program finds it. -/
namespace Go.Proofs.Ytebfdmecajomeaa
open Go
set_option linter.unusedVariables false
set_option linter.unusedSimpArgs false
section
variable {n m b off i j c : Nat} {sp : Option Nat} {s u : Value} {L M X Y : List Int} {t z : Int} {h : Heap} {G F A B : Ch} {cs pre rest : List Value} {p : Nat}
def Good (L : List Int) : Prop := 1 ≤ L.length ∧ L.length ≤ 16 ∧ (∀ h : 0 < L.length, 0 ≤ L[0]) ∧ (∀ h : 0 < L.length, L[L.length - 1] < 64) ∧ ∀ j, 1 ≤ j → (h : j < L.length) → L[j - 1] < L[j]
noncomputable def isB (L : List Int) : Bool := by classical exact decide (Good L)
theorem isB_true (h : Good L) : isB L = true := by simp [isB, h]
theorem isB_false (h : ¬ Good L) : isB L = false := by simp [isB, h]
theorem index_ok (hr : Rds h 1 s L.length (iz .i64 L)) (hn : L.length + 1 ≤ n) (hl : L.length < 4611686018427387904) :
    ∃ z : Int, f_slices_Index_int_int n s t h = some ((z, ()), h) ∧ (0 ≤ z ↔ t ∈ L) := by
  obtain ⟨⟨⟨z, _⟩, h'⟩, e, q1, q2⟩ := loopT_up (f := fun a => f_slices_Index_int_int_L5 n t s L.length a.1.1 a.2)
    (fun j (a : (Int × Unit) × Heap) => a = (((j : Int), ()), h) ∧ ¬ t ∈ L.take j) (fun r => r.2 = h ∧ (0 ≤ r.1.1 ↔ t ∈ L)) (N := L.length) (k := n) (j := 0) (a := ((0, ()), h)) (by omega) (by omega) ⟨rfl, by simp⟩
    (fun j a hj hi => by
      obtain ⟨rfl, hi⟩ := hi
      have hlt : (j : Int) < (L.length : Int) := by omega
      obtain ⟨q, e1, e2⟩ := hr.int hj
      by_cases hc : t = L[j]
      · refine .inr ⟨(((j : Int), ()), h), by simp only [f_slices_Index_int_int_L5, hlt, decide_true, cond_true, e1, e2, Option.bind_some, hc], rfl, ?_⟩
        exact ⟨fun _ => hc ▸ List.getElem_mem hj, fun _ => by simp only; omega⟩
      · refine .inl ⟨_, by simp only [f_slices_Index_int_int_L5, hlt, decide_true, cond_true, e1, e2, Option.bind_some, hc, decide_false, cond_false, wrap_succ (show j < 4611686018427387904 by omega)], rfl, ?_⟩
        rw [take_mem_snoc hj]
        exact fun h => h.elim hi hc)
    (fun a hi => by
      obtain ⟨rfl, hi⟩ := hi
      have hlt : ¬ (L.length : Int) < (L.length : Int) := by omega
      rw [List.take_length] at hi
      exact ⟨((-1, ()), h), by simp only [f_slices_Index_int_int_L5, hlt, decide_false, cond_false], rfl, ⟨fun h => by simp only at h; omega, fun h => absurd h hi⟩⟩)
  have q1 : h' = h := q1
  subst q1
  exact ⟨z, by simp only [f_slices_Index_int_int, hr.lenB, Option.bind_some, e], q2⟩
theorem has_ok (hr : Rds h 1 s L.length (iz .i64 L)) (hn : L.length + 1 ≤ n) (hl : L.length < 4611686018427387904) : f_blocks_Has n s t h = some ((decide (t ∈ L), ()), h) := by
  obtain ⟨z, e, hz⟩ := index_ok (n := n) (t := t) hr hn hl
  simp only [f_blocks_Has, f_slices_Contains_int_int, e, Option.bind_some, hz]
def Ris (L : List Int) (j : Nat) : Prop := ∀ i, 1 ≤ i → (h : i < L.length) → i < j → L[i - 1] < L[i]
theorem is_ok (hr : Rds h 1 s L.length (iz .i64 L)) (hn : 100 ≤ n) : f_blocks_Is n s h = some ((isB L, ()), h) := by
  by_cases h1 : (L.length : Int) < 1
  · rw [isB_false (fun g => by have := g.1; omega)]
    simp only [f_blocks_Is, hr.lenB, Option.bind_some, h1, decide_true, cond_true]
  by_cases h2 : 16 < (L.length : Int)
  · rw [isB_false (fun g => by have := g.2.1; omega)]
    simp only [f_blocks_Is, hr.lenB, Option.bind_some, h1, h2, decide_true, decide_false, cond_true, cond_false]
  have hl0 : 0 < L.length := by omega
  obtain ⟨q0, e1, e2⟩ := hr.int hl0
  by_cases h3 : L[0] < 0
  · rw [isB_false (fun g => by have := g.2.2.1 hl0; omega)]
    have e1 : ixB 1 s 0 = some q0 := e1
    simp only [f_blocks_Is, hr.lenB, Option.bind_some, h1, h2, e1, e2, h3, decide_true, decide_false, cond_true, cond_false]
  obtain ⟨q1, e3, e4⟩ := hr.int (i := L.length - 1) (by omega)
  have hw : IntKind.i64.wrap ((L.length : Int) - 1) = ((L.length - 1 : Nat) : Int) := by rw [wrap_i64 (by omega) (by omega)]; omega
  have e1 : ixB 1 s 0 = some q0 := e1
  by_cases h4 : 64 ≤ L[L.length - 1]
  · rw [isB_false (fun g => by have := g.2.2.2.1 hl0; omega)]
    simp only [f_blocks_Is, hr.lenB, Option.bind_some, h1, h2, e1, e2, h3, hw, e3, e4, h4, decide_true, decide_false, cond_true, cond_false]
  obtain ⟨r, e, q⟩ := loopT_up (f := fun a => f_blocks_Is_L15 n s a.1.1 a.2)
    (fun j (a : (Int × Unit) × Heap) => a = ((((j + 1 : Nat) : Int), ()), h) ∧ Ris L (j + 1)) (fun r => r = ((isB L, ()), h)) (N := L.length - 1) (k := n) (j := 0) (a := ((1, ()), h)) (by omega) (by omega) ⟨rfl, fun i h1 _ h2 => by omega⟩
    (fun j a hj hi => by
      obtain ⟨rfl, hi⟩ := hi
      have hlt : ((j + 1 : Nat) : Int) < (L.length : Int) := by omega
      obtain ⟨q, f1, f2⟩ := hr.int (i := j + 1) (by omega)
      obtain ⟨q', f3, f4⟩ := hr.int (i := j) (by omega)
      have hw1 : IntKind.i64.wrap (((j + 1 : Nat) : Int) - 1) = (j : Int) := by rw [wrap_i64 (by omega) (by omega)]; omega
      by_cases hc : L[j + 1] ≤ L[j]
      · refine .inr ⟨((false, ()), h), by simp only [f_blocks_Is_L15, hr.lenB, hlt, decide_true, cond_true, f1, f2, hw1, f3, f4, Option.bind_some, hc], ?_⟩
        rw [isB_false (fun g => by have := g.2.2.2.2 (j + 1) (by omega) (by omega); simp only [Nat.add_sub_cancel] at this; omega)]
      · refine .inl ⟨_, by simp only [f_blocks_Is_L15, hr.lenB, hlt, decide_true, cond_true, f1, f2, hw1, f3, f4, Option.bind_some, hc, decide_false, cond_false, wrap_succ (show j + 1 < 4611686018427387904 by omega)], rfl, fun i g1 g2 g3 => ?_⟩
        by_cases hij : i < j + 1
        · exact hi i g1 g2 hij
        · obtain rfl : i = j + 1 := by omega
          simp only [Nat.add_sub_cancel]; omega)
    (fun a hi => by
      obtain ⟨rfl, hi⟩ := hi
      have he : L.length - 1 + 1 = L.length := by omega
      rw [he] at hi ⊢
      have hlt : ¬ (L.length : Int) < (L.length : Int) := by omega
      refine ⟨((true, ()), h), by simp only [f_blocks_Is_L15, hr.lenB, Option.bind_some, hlt, decide_false, cond_false], ?_⟩
      rw [isB_true ⟨by omega, by omega, fun _ => by omega, fun _ => by omega, fun j g1 g2 => hi j g1 g2 g2⟩])
  simp only [f_blocks_Is, hr.lenB, Option.bind_some, h1, h2, e1, e2, h3, hw, e3, e4, h4, decide_false, cond_false, e, q]
/-- The list's tail is cleared. -/
theorem clear_tail {kk : Nat} (hp : pre.length = off) (ho : Own h ((b, Blk pre X rest) :: F)) (hk : kk ≤ X.length) (c1 : X.length ≤ c) (c2 : c ≤ X.length + rest.length) :
    ∃ h', clearK h [.int .i64 0] (.slice (some ⟨b, off + kk * 1, sp⟩) (X.length - kk) (c - kk)) = some (.tuple #[], h') ∧ Own h' ((b, Blk pre (X.take kk ++ List.replicate (X.length - kk) 0) rest) :: F) ∧
      Slc 1 (.slice (some ⟨b, off, sp⟩) kk c) kk (iz .i64 (X.take kk)) [(b, Blk pre (X.take kk ++ List.replicate (X.length - kk) 0) rest)] := by
  have p26 := clearK_of (zs := [.int .i64 0]) (n := X.length - kk) (c := c - kk) (sp := sp) (off := off + kk * 1) ho.head (by simp; omega)
  have hw : writeAt (pre ++ (iz .i64 X ++ rest)) (off + kk * 1) (List.replicate (X.length - kk) [Value.int .i64 0]).flatten = pre ++ (iz .i64 (X.take kk ++ List.replicate (X.length - kk) 0) ++ rest) := by
    have hz : (List.replicate (X.length - kk) [Value.int .i64 0]).flatten = iz .i64 (List.replicate (X.length - kk) 0) := by
      generalize X.length - kk = m
      induction m with
      | zero => rfl
      | succ m ih => rw [List.replicate_succ, List.flatten_cons, ih]; rfl
    rw [hz, Nat.mul_one, ← hp, writeAt_mid (by simp; omega), writeAt_eq _ _ _ (by simp; omega)]
    congr 2
    rw [List.drop_eq_nil_of_le (by simp; omega), List.append_nil, iz_append]
    simp [iz, List.map_take]
  rw [hw] at p26
  refine ⟨_, p26, ho.put _, ?_⟩
  have hk2 : (X.take kk).length = kk := by rw [List.length_take]; omega
  have := blk_slc (b := b) (sp := sp) (c := c) (rest := rest) (X := X.take kk ++ List.replicate (X.length - kk) 0) (i := kk) hp (by rw [List.length_append, hk2]; omega) (by omega) (by rw [List.length_append, hk2, List.length_replicate]; omega)
  rwa [List.take_append_of_le_length (by omega), List.take_take, Nat.min_self] at this
/-- What is asked of an element that may stay. -/
theorem both1_ok {x : Int} {k : Nat} (ho : Own h ((p, .cells [u] false 0) :: F)) (hr : Rds h 1 u M.length (iz .i64 M)) (hn : M.length + 1 ≤ n) (hl : M.length < 4611686018427387904) : f_blocks_Both_1 n x (some ⟨p, 0, none⟩) h = some ((!decide (x ∈ M), ()), h) := by
  have l : ldT .any h (some ⟨p, 0, none⟩) = some u := by rw [ldT_of ho.head]; rfl
  simp only [f_blocks_Both_1, l, Option.bind_some, has_ok hr hn hl]
/-- What stays. -/
def keepL (L M : List Int) : List Int := L.filter fun x => decide (x ∈ M)
theorem keepL_snoc (hj : j < L.length) : keepL (L.take (j + 1)) M = keepL (L.take j) M ++ (if L[j] ∈ M then [L[j]] else []) := by
  rw [take_snoc hj, keepL, List.filter_append, keepL]
  congr 1
  by_cases h : L[j] ∈ M <;> simp [h]
theorem keepL_all (h : ∀ x ∈ L, x ∈ M) : keepL L M = L := List.filter_eq_self.2 fun x hx => by simp [h x hx]
theorem indexFunc_ok (hr0 : Rds h 1 s L.length (iz .i64 L)) (ho : Own h ((p, .cells [u] false 0) :: F)) (hr : Rds h 1 u M.length (iz .i64 M)) (hn : M.length + 1 ≤ n) (hn2 : L.length + 2 ≤ n) (hl : M.length < 4611686018427387904) (hl2 : L.length < 4611686018427387904) :
    ∃ z : Int, f_slices_IndexFunc_int_int n s (some ⟨p, 0, none⟩, ()) h = some ((z, ()), h) ∧ ((z = -1 ∧ ∀ x ∈ L, x ∈ M) ∨ ∃ (i : Nat) (hi : i < L.length), z = (i : Int) ∧ ¬ L[i] ∈ M ∧ ∀ x ∈ L.take i, x ∈ M) := by
  obtain ⟨r, e, z, rfl, q⟩ := loopT_up (f := fun a => f_slices_IndexFunc_int_int_L6 n (some ⟨p, 0, none⟩, ()) s L.length a.1.1 a.2)
    (fun j (a : (Int × Unit) × Heap) => a = (((j : Int), ()), h) ∧ ∀ x ∈ L.take j, x ∈ M)
    (fun r => ∃ z : Int, r = ((z, ()), h) ∧ ((z = -1 ∧ ∀ x ∈ L, x ∈ M) ∨ ∃ (i : Nat) (hi : i < L.length), z = (i : Int) ∧ ¬ L[i] ∈ M ∧ ∀ x ∈ L.take i, x ∈ M)) (N := L.length) (k := n) (j := 0) (a := ((0, ()), h)) (by omega) (by omega) ⟨rfl, by simp⟩
    (fun j a hj hi => by
      obtain ⟨rfl, hi⟩ := hi
      have hlt : (j : Int) < (L.length : Int) := by omega
      obtain ⟨q, e1, e2⟩ := hr0.int hj
      have e3 := both1_ok (n := n) (x := L[j]) (k := 0) ho hr hn hl
      by_cases hm : L[j] ∈ M
      · refine .inl ⟨((((j + 1 : Nat) : Int), ()), h), by simp only [f_slices_IndexFunc_int_int_L6, hlt, decide_true, cond_true, e1, e2, Option.bind_some, e3, hm, Bool.not_true, cond_false, wrap_succ (show j < 4611686018427387904 by omega)], rfl, fun x hx => ?_⟩
        rw [take_snoc hj, List.mem_append, List.mem_singleton] at hx
        exact hx.elim (hi x) fun e => e ▸ hm
      · exact .inr ⟨(((j : Int), ()), h), by simp only [f_slices_IndexFunc_int_int_L6, hlt, decide_true, cond_true, e1, e2, Option.bind_some, e3, hm, decide_false, Bool.not_false], _, rfl, .inr ⟨j, hj, rfl, hm, hi⟩⟩)
    (fun a hi => by
      obtain ⟨rfl, hi⟩ := hi
      rw [List.take_length] at hi
      have hlt : ¬ (L.length : Int) < (L.length : Int) := by omega
      exact ⟨((-1, ()), h), by simp only [f_slices_IndexFunc_int_int_L6, hlt, decide_false, cond_false], _, rfl, .inl ⟨rfl, hi⟩⟩)
  exact ⟨z, by simp only [f_slices_IndexFunc_int_int, hr0.lenB, Option.bind_some, e], q⟩
theorem deleteFunc_ok (hs : Slc 1 s L.length (iz .i64 L) A) (hb : Sow 1 u M.length (iz .i64 M) G) (ho : Own h (A ++ ((p, .cells [u] false 0) :: (G ++ F)))) (hn : M.length + 1 ≤ n) (hn2 : L.length + 2 ≤ n) (hl : M.length < 4611686018427387904) (hl2 : L.length < 4611686018427387904) :
    ∃ s' h' A', f_slices_DeleteFunc_int_int n s (some ⟨p, 0, none⟩, ()) h = some ((s', ()), h') ∧ Slc 1 s' (keepL L M).length (iz .i64 (keepL L M)) A' ∧ Own h' (A' ++ ((p, .cells [u] false 0) :: (G ++ F))) := by
  obtain ⟨z, e, q⟩ := indexFunc_ok (n := n) (hs.rds ho) (u := u) (p := p) (M := M) (F := A ++ (G ++ F)) (ho.to fun x => by simp only [cnt_append, cnt_cons]; omega) (hb.rds (F := A ++ ((p, .cells [u] false 0) :: F)) (ho.to fun x => by simp only [cnt_append, cnt_cons]; omega)) hn hn2 hl hl2
  rcases q with ⟨rfl, hall⟩ | ⟨i, hi, rfl, hni, hall⟩
  · exact ⟨s, h, A, by simp only [f_slices_DeleteFunc_int_int, e, Option.bind_some, decide_true, cond_true, hs.notT, Bool.not_false], by rw [keepL_all hall]; exact hs, ho⟩
  · rcases slc_blk hs with ⟨_, rfl, _⟩ | ⟨b, off, sp, c, pre, rest, rfl, rfl, hp, c1, c2⟩
    · exact absurd hi (by simp)
    have hne : ¬ ((i : Int) = -1) := by omega
    obtain ⟨⟨⟨v, _⟩, h12⟩, e12, kk, X, x0, x1, x2, x3, o12⟩ := loopT_up (f := fun a => f_slices_DeleteFunc_int_int_L11 n (some ⟨p, 0, none⟩, ()) (.slice (some ⟨b, off, sp⟩) L.length c) a.1.1 a.1.2.1 a.2)
      (fun k' (a : (Int × Int × Unit) × Heap) => ∃ (j : Nat), j = k' + (i + 1) ∧ ∃ (kk : Nat) (X : List Int), a.1 = ((kk : Int), ((j : Int), ())) ∧ X.length = L.length ∧ (∀ i, j ≤ i → X[i]? = L[i]?) ∧ kk < j ∧ X.take kk = keepL (L.take j) M ∧ Own a.2 ((b, Blk pre X rest) :: ((p, .cells [u] false 0) :: (G ++ F))))
      (fun r => ∃ (kk : Nat) (X : List Int), r.1 = ((kk : Int), ()) ∧ X.length = L.length ∧ kk ≤ L.length ∧ X.take kk = keepL L M ∧ Own r.2 ((b, Blk pre X rest) :: ((p, .cells [u] false 0) :: (G ++ F)))) (N := L.length - (i + 1)) (k := n) (j := 0) (a := (((i : Int), (((i + 1 : Nat) : Int), ())), h)) (by omega) (by omega)
      ⟨i + 1, by omega, i, L, rfl, rfl, fun _ _ => rfl, by omega, by rw [keepL_snoc hi, if_neg hni, List.append_nil, keepL_all hall], ho⟩
      (fun k' a hk hi' => by
        obtain ⟨⟨v1, v2, _⟩, h3⟩ := a
        obtain ⟨j, hj, kk, X, e0, x1, x2, x3, x4, o3⟩ := hi'
        cases e0
        have o3 : Own h3 _ := o3
        have hjl : j < L.length := by omega
        have hlt : (j : Int) < (L.length : Int) := by omega
        have g1 := ix1 (b := b) (off := off) (sp := sp) (c := c) hjl
        have g2 := blk_ld (i := j) hp o3 (by omega) rfl
        have hxj : X[j]'(by omega) = L[j] := by have := x2 j (Nat.le_refl _); rw [List.getElem?_eq_getElem (by omega), List.getElem?_eq_getElem (by omega)] at this; exact Option.some.inj this
        rw [hxj] at g2
        have e3 := both1_ok (n := n) (x := L[j]) (k := 0) (p := p) (u := u) (M := M) (h := h3) (F := (b, Blk pre X rest) :: (G ++ F)) (o3.to fun x => by simp only [cnt_append, cnt_cons]; omega) (hb.rds (F := (b, Blk pre X rest) :: ((p, .cells [u] false 0) :: F)) (o3.to fun x => by simp only [cnt_append, cnt_cons]; omega)) hn hl
        refine .inl ?_
        by_cases hm : L[j] ∈ M
        · have g5 := ix1 (b := b) (off := off) (sp := sp) (c := c) (m := L.length) (i := kk) (by omega)
          obtain ⟨h9, g6, o9⟩ := blk_st (i := kk) (o := off + kk) (z := L[j]) hp o3 (by omega) rfl
          refine ⟨((((kk + 1 : Nat) : Int), (((j + 1 : Nat) : Int), ())), h9), by simp only [f_slices_DeleteFunc_int_int_L11, Go.Proofs.Ytebfdmecajomeaa.lenB, Option.bind_some, hlt, decide_true, cond_true, g1, g2, e3, hm, Bool.not_true, Bool.not_false, g5, g6, wrap_succ (show kk < 4611686018427387904 by omega), wrap_succ (show j < 4611686018427387904 by omega)], j + 1, by omega, kk + 1, _, rfl, by simp [x1], fun i hi => by rw [List.getElem?_set_ne (by omega)]; exact x2 i (by omega), by omega, ?_, o9⟩
          rw [keepL_snoc hjl, if_pos hm, ← x4, take_snoc (by simp; omega), List.take_set_of_le (Nat.le_refl _)]
          simp
        · refine ⟨(((kk : Int), (((j + 1 : Nat) : Int), ())), h3), by simp only [f_slices_DeleteFunc_int_int_L11, Go.Proofs.Ytebfdmecajomeaa.lenB, Option.bind_some, hlt, decide_true, cond_true, g1, g2, e3, hm, decide_false, Bool.not_false, Bool.not_true, cond_false, wrap_succ (show j < 4611686018427387904 by omega)], j + 1, by omega, kk, X, rfl, x1, fun i hi => x2 i (by omega), by omega, ?_, o3⟩
          rw [keepL_snoc hjl, if_neg hm, List.append_nil]; exact x4)
      (fun a hi' => by
        obtain ⟨⟨v1, v2, _⟩, h3⟩ := a
        obtain ⟨j, hj, kk, X, e0, x1, x2, x3, x4, o3⟩ := hi'
        obtain rfl : j = L.length := by omega
        cases e0
        have hlt : ¬ (L.length : Int) < (L.length : Int) := by omega
        rw [List.take_length] at x4
        exact ⟨(((kk : Int), ()), h3), by simp only [f_slices_DeleteFunc_int_int_L11, Go.Proofs.Ytebfdmecajomeaa.lenB, Option.bind_some, hlt, decide_false, cond_false], kk, X, rfl, x1, by omega, x4, o3⟩)
    cases x0
    have o12 : Own h12 _ := o12
    have p13 := sliceK_l (h := h12) (es := 1) (k' := .i64) (b := b) (off := off) (sp := sp) (n := L.length) (c := c) (j := kk) x2 c1
    obtain ⟨h14, p14, o14, y14⟩ := clear_tail (c := c) (sp := sp) (kk := kk) hp o12 (by omega) (by omega) (by omega)
    rw [x1] at p14 o14 y14
    have p15 := sliceK_h (h := h14) (es := 1) (k' := .i64) (b := b) (off := off) (sp := sp) (n := L.length) (c := c) (j := kk) (by omega)
    refine ⟨.slice (some ⟨b, off, sp⟩) kk c, h14, [(b, Blk pre (X.take kk ++ List.replicate (L.length - kk) 0) rest)], by simp only [f_slices_DeleteFunc_int_int, e, Option.bind_some, hne, decide_false, cond_false, wrap_succ (show i < 4611686018427387904 by omega), e12, p13, p14, p15, isTuple, Bool.not_false, cond_true], ?_, o14⟩
    have : (keepL L M).length = kk := by rw [← x3, List.length_take]; omega
    rw [this, ← x3]
    exact y14
/-- What both have, in its one form. -/
def bothL (L M : List Int) : List Int := form (keepL L M)
theorem bothL_mem {x : Int} : x ∈ bothL L M ↔ x ∈ L ∧ x ∈ M := by rw [bothL, form_mem, keepL, List.mem_filter, decide_eq_true_eq]
theorem bothL_len : (bothL L M).length ≤ L.length := Nat.le_trans form_len (List.length_filter_le _ _)
theorem both_ok (ha : Sow 1 s L.length (iz .i64 L) G) (hb : Sow 1 u M.length (iz .i64 M) G) (ho : Own h (G ++ F)) (hn : M.length + 1 ≤ n) (hn2 : L.length + 2 ≤ n) (hl : M.length < 4611686018427387904) (hl2 : L.length * 8 ≤ 140737488355328) :
    ∃ v h' A', f_blocks_Both n s u h = some ((v, ()), h') ∧ Slc 1 v (bothL L M).length (iz .i64 (bothL L M)) A' ∧ Own h' (A' ++ (G ++ F)) := by
  obtain ⟨a, c, hf⟩ := (hb.rds ho).form
  have hcu : cellsOf u = [u] := by rw [hf]; rfl
  have hiu : isCell u = true := by rw [hf]; rfl
  have o0 := ho.new (.cells [u] false 0)
  generalize hp : h.next = p at o0
  generalize hh0 : h.new (.cells [u] false 0) = h0 at o0
  obtain ⟨s1, h1, A1, e1, y1, o1⟩ := cloneI_ok (n := n) ha (h := h0) (F := (p, .cells [u] false 0) :: F) (o0.to fun x => by simp only [cnt_append, cnt_cons]; omega) hl2
  obtain ⟨s2, h2, A2, e2, y2, o2⟩ := deleteFunc_ok (n := n) (p := p) y1 hb (h := h1) (F := F) (o1.to fun x => by simp only [cnt_append, cnt_cons]; omega) hn hn2 hl (by omega)
  have hkl : (keepL L M).length ≤ L.length := List.length_filter_le _ _
  obtain ⟨s3, h3, A3, e3, y3, o3⟩ := rising_ok (n := n) y2.sow o2 (by omega) (by omega)
  exact ⟨s3, h3, A3, by simp only [f_blocks_Both, hcu, List.all_cons, hiu, List.all_nil, Bool.and_true, cond_true, bnd_eq, hh0, e1, Option.bind_some, nwA_eq, hp, e2, e3, y3.notT, Bool.not_false], y3, o3.to fun x => by simp only [cnt_append, cnt_cons]; omega⟩
/-- The element of a number. -/
def nextE (L : List Int) (z : Int) : Int × Bool := if z < 0 ∨ (L.length : Int) ≤ z then (0, false) else (L[z.toNat]!, true)
theorem next_ok (hr : Rds h 1 s L.length (iz .i64 L)) : f_blocks_Next n s z h = some (((nextE L z).1, ((nextE L z).2, ())), h) := by
  by_cases h1 : z < 0
  · simp only [f_blocks_Next, h1, decide_true, cond_true, Option.bind_some, nextE, true_or, if_true]
  · by_cases h2 : (L.length : Int) ≤ z
    · simp only [f_blocks_Next, h1, decide_false, cond_false, hr.lenB, h2, decide_true, cond_true, Option.bind_some, nextE, or_true, if_true]
    · obtain ⟨i, rfl⟩ : ∃ i : Nat, z = (i : Int) := ⟨z.toNat, by omega⟩
      have hi : i < L.length := by omega
      obtain ⟨q, e1, e2⟩ := hr.int hi
      have : L[((i : Int)).toNat]! = L[i] := by rw [Int.toNat_natCast, getElem!_pos L i hi]
      simp only [f_blocks_Next, h1, decide_false, cond_false, hr.lenB, h2, Option.bind_some, e1, e2, nextE, false_or, if_false, or_self, this]
end
end Go.Proofs.Ytebfdmecajomeaa

/- What stands in both, the next one, forms: as the document says it. -/
namespace Go.Proofs.Ytebfdmecajomeaa
open Go
set_option linter.unusedVariables false
set_option linter.unusedSimpArgs false
section
variable {n m b off i j c : Nat} {sp : Option Nat} {s u : Value} {L M O X Y : List Int} {t z x : Int} {h : Heap} {G F A B : Ch} {cs pre rest : List Value} {p : Nat}
theorem Good.lt (h : Good L) : ∀ {j i : Nat} (hj : j < L.length) (hi : i < j), L[i]'(by omega) < L[j] := by
  intro j
  induction j with
  | zero => intro i hj hi; omega
  | succ j ih =>
    intro i hj hi
    have h1 := h.2.2.2.2 (j + 1) (by omega) hj
    simp only [Nat.add_sub_cancel] at h1
    rcases Nat.lt_or_ge i j with h2 | h2
    · have := ih (i := i) (by omega) h2; omega
    · obtain rfl : i = j := by omega
      exact h1
theorem ris_ok (hr : Rds h 1 s L.length (iz .i64 L)) (hn : 100 ≤ n) : f_wicketref05_Is n s h = some ((isB L, ()), h) := by
  by_cases h1 : (L.length : Int) < 1
  · rw [isB_false (fun g => by have := g.1; omega)]
    simp only [f_wicketref05_Is, hr.lenB, Option.bind_some, h1, decide_true, cond_true]
  by_cases h2 : 16 < (L.length : Int)
  · rw [isB_false (fun g => by have := g.2.1; omega)]
    simp only [f_wicketref05_Is, hr.lenB, Option.bind_some, h1, h2, decide_true, decide_false, cond_true, cond_false]
  obtain ⟨r, e, q⟩ := loopT_up (f := fun a => f_wicketref05_Is_L15 n s a.1.1 a.2)
    (fun j (a : (Int × Unit) × Heap) => a = (((j : Int), ()), h) ∧ Ris L j ∧ ∀ i, (h : i < L.length) → i < j → 0 ≤ L[i] ∧ L[i] < 64) (fun r => r = ((isB L, ()), h)) (N := L.length) (k := n) (j := 0) (a := ((0, ()), h)) (by omega) (by omega) ⟨rfl, fun i h1 _ h2 => by omega, fun i _ h => by omega⟩
    (fun j a hj hi => by
      obtain ⟨rfl, hi, hi2⟩ := hi
      have hlt : (j : Int) < (L.length : Int) := by omega
      obtain ⟨q, f1, f2⟩ := hr.int hj
      by_cases c1 : L[j] < 0
      · refine .inr ⟨((false, ()), h), by simp only [f_wicketref05_Is_L15, hr.lenB, hlt, decide_true, cond_true, f1, f2, Option.bind_some, c1], ?_⟩
        rw [isB_false (fun g => by
          have := g.2.2.1 (by omega)
          rcases Nat.eq_zero_or_pos j with rfl | h0
          · omega
          · have := g.lt hj h0; omega)]
      by_cases c2 : 64 ≤ L[j]
      · refine .inr ⟨((false, ()), h), by simp only [f_wicketref05_Is_L15, hr.lenB, hlt, decide_true, cond_true, f1, f2, Option.bind_some, c1, c2, decide_false, cond_false], ?_⟩
        rw [isB_false (fun g => by
          have := g.2.2.2.1 (by omega)
          by_cases h0 : j = L.length - 1
          · subst h0; omega
          · have := g.lt (j := L.length - 1) (i := j) (by omega) (by omega); omega)]
      rcases Nat.eq_zero_or_pos j with rfl | h0
      · refine .inl ⟨_, by simp only [f_wicketref05_Is_L15, hr.lenB, hlt, decide_true, cond_true, f1, f2, Option.bind_some, c1, c2, decide_false, cond_false, show (decide ((0 : Int) < ((0 : Nat) : Int))) = false from rfl, wrap_succ (show 0 < 4611686018427387904 by omega)], rfl, fun i g1 g2 g3 => by omega, fun i g1 g2 => ?_⟩
        obtain rfl : i = 0 := by omega
        omega
      · have hj0 : (0 : Int) < (j : Int) := by omega
        obtain ⟨q', f3, f4⟩ := hr.int (i := j - 1) (by omega)
        have hw1 : IntKind.i64.wrap ((j : Int) - 1) = ((j - 1 : Nat) : Int) := by rw [wrap_i64 (by omega) (by omega)]; omega
        by_cases hc : L[j] ≤ L[j - 1]
        · refine .inr ⟨((false, ()), h), by simp only [f_wicketref05_Is_L15, hr.lenB, hlt, decide_true, cond_true, f1, f2, hw1, f3, f4, Option.bind_some, c1, c2, hj0, hc, decide_false, cond_false], ?_⟩
          rw [isB_false (fun g => by have := g.2.2.2.2 j (by omega) (by omega); omega)]
        · refine .inl ⟨_, by simp only [f_wicketref05_Is_L15, hr.lenB, hlt, decide_true, cond_true, f1, f2, hw1, f3, f4, Option.bind_some, c1, c2, hj0, hc, decide_false, cond_false, wrap_succ (show j < 4611686018427387904 by omega)], rfl, fun i g1 g2 g3 => ?_, fun i g1 g2 => ?_⟩
          · by_cases hij : i < j
            · exact hi i g1 g2 hij
            · obtain rfl : i = j := by omega
              omega
          · by_cases hij : i < j
            · exact hi2 i g1 hij
            · obtain rfl : i = j := by omega
              omega)
    (fun a hi => by
      obtain ⟨rfl, hi, hi2⟩ := hi
      have hlt : ¬ (L.length : Int) < (L.length : Int) := by omega
      refine ⟨((true, ()), h), by simp only [f_wicketref05_Is_L15, hr.lenB, Option.bind_some, hlt, decide_false, cond_false], ?_⟩
      rw [isB_true ⟨by omega, by omega, fun h => (hi2 0 h h).1, fun h => (hi2 (L.length - 1) (by omega) (by omega)).2, fun j g1 g2 => hi j g1 g2 g2⟩])
  simp only [f_wicketref05_Is, hr.lenB, Option.bind_some, h1, h2, decide_false, cond_false, e, q]
theorem rnext_ok (hr : Rds h 1 s L.length (iz .i64 L)) : f_wicketref05_Next n s z h = some (((nextE L z).1, ((nextE L z).2, ())), h) := next_ok (n := n) hr
/-- One more, put in its place. -/
theorem ins_lt {k : Nat} (hO : O.Pairwise (· < ·)) (hk : k ≤ O.length) (h1 : ∀ y ∈ O.take k, y < x) (h2 : ∀ y ∈ O.drop k, x < y) : (O.take k ++ x :: O.drop k).Pairwise (· < ·) := by
  have h3 : (O.take k ++ O.drop k).Pairwise (· < ·) := by rw [List.take_append_drop]; exact hO
  rw [List.pairwise_append] at h3
  rw [List.pairwise_append, List.pairwise_cons]
  refine ⟨h3.1, ⟨h2, h3.2.1⟩, fun y hy w hw => ?_⟩
  rcases List.mem_cons.1 hw with rfl | hw
  · exact h1 y hy
  · exact h3.2.2 y hy w hw
theorem bubble_ok (hp : pre.length = off) (ho : Own h ((b, Blk pre (O ++ [x]) rest) :: F)) (hO : O.Pairwise (· < ·)) (hx : ¬ x ∈ O) (hn : O.length + 2 ≤ n) (hl : O.length < 4611686018427387000) :
    ∃ h' X, loopT (fun a => f_wicketref05_Both_L32 n (.slice (some ⟨b, off, sp⟩) (O.length + 1) c, h) a.1.1 a.2) n (((O.length : Int), ()), h) = some ((.slice (some ⟨b, off, sp⟩) (O.length + 1) c, ()), h') ∧ X.length = O.length + 1 ∧ X.Pairwise (· < ·) ∧ (∀ y, y ∈ X ↔ y ∈ O ∨ y = x) ∧ Own h' ((b, Blk pre X rest) :: F) := by
  obtain ⟨⟨⟨v, _⟩, h'⟩, e, X, q0, q1, q2, q3, q4⟩ := loopT_up (f := fun a => f_wicketref05_Both_L32 n (.slice (some ⟨b, off, sp⟩) (O.length + 1) c, h) a.1.1 a.2)
    (fun t (a : (Int × Unit) × Heap) => ∃ k : Nat, k + t = O.length ∧ a.1 = ((k : Int), ()) ∧ (∀ y ∈ O.drop k, x < y) ∧ Own a.2 ((b, Blk pre (O.take k ++ x :: O.drop k) rest) :: F))
    (fun r => ∃ X : List Int, r.1 = (.slice (some ⟨b, off, sp⟩) (O.length + 1) c, ()) ∧ X.length = O.length + 1 ∧ X.Pairwise (· < ·) ∧ (∀ y, y ∈ X ↔ y ∈ O ∨ y = x) ∧ Own r.2 ((b, Blk pre X rest) :: F)) (N := O.length) (k := n) (j := 0) (a := (((O.length : Int), ()), h)) (by omega) (by omega)
    ⟨O.length, rfl, rfl, (by rw [List.drop_length]; exact fun _ h => absurd h List.not_mem_nil : ∀ y ∈ O.drop O.length, x < y), by rw [List.take_length, List.drop_length]; exact ho⟩
    (fun t a ht hi => by
      obtain ⟨⟨v17, _⟩, h18⟩ := a
      obtain ⟨k, hk, e0, i1, o⟩ := hi
      cases e0
      have o : Own h18 _ := o
      have hk0 : 0 < k := by omega
      have hlt : (0 : Int) < (k : Int) := by omega
      have w1 := wrap_pred (j := k) (by omega) (by omega)
      have hlen : (O.take k ++ x :: O.drop k).length = O.length + 1 := by simp; omega
      have tk : (O.take k).length = k := by rw [List.length_take]; omega
      have g1 := ix1 (b := b) (off := off) (sp := sp) (c := c) (m := O.length + 1) (i := k - 1) (by omega)
      have g2 := blk_ld (i := k - 1) hp o (by omega) rfl
      have g3 := ix1 (b := b) (off := off) (sp := sp) (c := c) (m := O.length + 1) (i := k) (by omega)
      have g4 := blk_ld (i := k) hp o (by omega) rfl
      have v1 : (O.take k ++ x :: O.drop k)[k - 1]'(by omega) = O[k - 1]'(by omega) := by rw [List.getElem_append_left (by omega), List.getElem_take]
      have v2 : (O.take k ++ x :: O.drop k)[k]'(by omega) = x := by rw [List.getElem_append_right (by omega)]; simp [tk]
      rw [v1] at g2
      rw [v2] at g4
      by_cases hc : x < O[k - 1]'(by omega)
      · obtain ⟨h29, g5, o29⟩ := blk_st (i := k - 1) (z := x) hp o (by omega) rfl
        obtain ⟨h31, g6, o31⟩ := blk_st (i := k) (z := O[k - 1]'(by omega)) hp o29 (by simp; omega) rfl
        refine .inl ⟨((((k - 1 : Nat) : Int), ()), h31), by simp only [f_wicketref05_Both_L32, hlt, decide_true, cond_true, w1, g1, g2, g3, g4, Option.bind_some, hc, g5, g6], k - 1, by omega, rfl, fun y hy => ?_, ?_⟩
        · rw [List.drop_eq_getElem_cons (by omega), List.mem_cons, show k - 1 + 1 = k by omega] at hy
          rcases hy with rfl | hy
          · exact hc
          · exact i1 y hy
        · have e : ((O.take k ++ x :: O.drop k).set (k - 1) x).set k (O[k - 1]'(by omega)) = O.take (k - 1) ++ x :: O.drop (k - 1) := by
            have e1 : O.take k = O.take (k - 1) ++ [O[k - 1]'(by omega)] := by
              have := take_snoc (l := O) (j := k - 1) (by omega)
              rwa [show k - 1 + 1 = k by omega] at this
            have e2 : O.drop (k - 1) = O[k - 1]'(by omega) :: O.drop k := by
              have := List.drop_eq_getElem_cons (l := O) (i := k - 1) (by omega)
              rwa [show k - 1 + 1 = k by omega] at this
            have t2 : (O.take (k - 1)).length = k - 1 := by rw [List.length_take]; omega
            rw [e1, e2, List.append_assoc, List.set_append_right _ _ (by omega), t2, Nat.sub_self, List.cons_append, List.set_cons_zero, List.set_append_right _ _ (by omega), t2, show k - (k - 1) = 0 + 1 by omega, List.set_cons_succ, List.nil_append, List.set_cons_zero]
          rw [e] at o31; exact o31
      · have hlt2 : O[k - 1]'(by omega) < x := by
          have : O[k - 1]'(by omega) ≠ x := fun e => hx (e ▸ List.getElem_mem _)
          omega
        refine .inr ⟨((.slice (some ⟨b, off, sp⟩) (O.length + 1) c, ()), h18), by simp only [f_wicketref05_Both_L32, hlt, decide_true, cond_true, w1, g1, g2, g3, g4, Option.bind_some, hc, decide_false, cond_false], _, rfl, hlen, ins_lt hO (by omega) (fun y hy => ?_) i1, fun y => ?_, o⟩
        · obtain ⟨i, hi, rfl⟩ := List.mem_iff_getElem.1 hy
          rw [List.getElem_take]
          by_cases h5 : i = k - 1
          · subst h5; exact hlt2
          · have := lt_first hO (by omega : i < k - 1) (by omega); omega
        · rw [List.mem_append, List.mem_cons]
          have := List.take_append_drop k O
          constructor
          · rintro (h | rfl | h)
            · exact .inl (List.mem_of_mem_take h)
            · exact .inr rfl
            · exact .inl (List.mem_of_mem_drop h)
          · rintro (h | rfl)
            · rw [← this, List.mem_append] at h
              exact h.elim .inl fun h => .inr (.inr h)
            · exact .inr (.inl rfl))
    (fun a hi => by
      obtain ⟨⟨v17, _⟩, h18⟩ := a
      obtain ⟨k, hk, e0, i1, o⟩ := hi
      obtain rfl : k = 0 := by omega
      cases e0
      have hlt : ¬ (0 : Int) < ((0 : Nat) : Int) := by omega
      rw [List.take_zero, List.drop_zero, List.nil_append] at o
      rw [List.drop_zero] at i1
      exact ⟨((.slice (some ⟨b, off, sp⟩) (O.length + 1) c, ()), h18), by simp only [f_wicketref05_Both_L32, hlt, decide_false, cond_false, Option.bind_some], x :: O, rfl, by simp, List.pairwise_cons.2 ⟨i1, hO⟩, fun y => by rw [List.mem_cons]; exact or_comm, o⟩)
  cases q0
  exact ⟨h', X, e, q1, q2, q3, q4⟩
theorem rboth_ok (ha : Sow 1 s L.length (iz .i64 L) G) (hb : Sow 1 u M.length (iz .i64 M) G) (ho : Own h (G ++ F)) (hn : M.length + 1 ≤ n) (hn2 : L.length + 10 ≤ n) (hl : M.length < 4611686018427387904) (hl2 : L.length * 8 ≤ 140737488355328) :
    ∃ v h' A', f_wicketref05_Both n s u h = some ((v, ()), h') ∧ Slc 1 v (bothL L M).length (iz .i64 (bothL L M)) A' ∧ Own h' (A' ++ (G ++ F)) := by
  have hlb := (ha.rds ho).lenB
  obtain ⟨⟨⟨v, _⟩, h'⟩, e, A', q1, q2⟩ := loopT_up (f := fun a => f_wicketref05_Both_L34 n u s a.1.1 a.1.2.1 a.2)
    (fun j (a : (Value × Int × Unit) × Heap) => a.1.2 = ((j : Int), ()) ∧ ∃ (O : List Int) (A' : Ch), O.length ≤ j ∧ O.Pairwise (· < ·) ∧ (∀ y, y ∈ O ↔ y ∈ L.take j ∧ y ∈ M) ∧ Slc 1 a.1.1 O.length (iz .i64 O) A' ∧ Own a.2 (A' ++ (G ++ F)))
    (fun r => ∃ A', Slc 1 r.1.1 (bothL L M).length (iz .i64 (bothL L M)) A' ∧ Own r.2 (A' ++ (G ++ F))) (N := L.length) (k := n) (j := 0) (a := ((.slice none 0 0, (0, ())), h)) (by omega) (by omega)
    ⟨rfl, [], [], Nat.le_refl _, .nil, fun y => by simp, .nil, ho⟩
    (fun j a hj hi => by
      obtain ⟨⟨v0, v1, _⟩, h2⟩ := a
      obtain ⟨e0, O, A1, hol, hO, hm, y, o⟩ := hi
      cases e0
      have o : Own h2 _ := o
      have y : Slc 1 v0 _ _ _ := y
      have hlt : (j : Int) < (L.length : Int) := by omega
      obtain ⟨q, g1, g2⟩ := (ha.rds (h := h2) (F := A1 ++ F) (o.to fun x => by simp only [cnt_append]; omega)).int hj
      have g3 := rhas_ok (n := n) (t := L[j]) (hb.rds (h := h2) (F := A1 ++ F) (o.to fun x => by simp only [cnt_append]; omega)) hn hl
      have hmt : ∀ y, y ∈ L.take (j + 1) ↔ y ∈ L.take j ∨ y = L[j] := fun y => by rw [take_snoc hj, List.mem_append, List.mem_singleton]
      refine .inl ?_
      by_cases c1 : L[j] ∈ M
      · have g4 := rhas_ok (n := n) (t := L[j]) (y.rds o) (by omega) (by omega)
        by_cases c2 : L[j] ∈ O
        · refine ⟨((v0, (((j + 1 : Nat) : Int), ())), h2), by simp only [f_wicketref05_Both_L34, hlb, hlt, decide_true, cond_true, g1, g2, g3, g4, Option.bind_some, c1, c2, Bool.not_true, cond_false, wrap_succ (show j < 4611686018427387904 by omega)], rfl, O, A1, by omega, hO, fun y => ?_, y, o⟩
          rw [hm, hmt]
          constructor
          · rintro ⟨h1, h2⟩; exact ⟨.inl h1, h2⟩
          · rintro ⟨h1 | rfl, h2⟩
            · exact ⟨h1, h2⟩
            · exact ⟨((hm _).1 c2).1, h2⟩
        · have f1 : fillL [.int .i64 0] [(0, 1, .int .i64 L[j])] = some [.int .i64 L[j]] := rfl
          obtain ⟨v15, h15, A15, e15, y15, o15⟩ := y.push (new := [.int .i64 L[j]]) (h := h2) o (by decide) rfl (bytes := 8) (by omega)
          have y15 : Slc 1 v15 (O ++ [L[j]]).length (iz .i64 (O ++ [L[j]])) A15 := by simpa using y15
          have hl15 := y15.lenB
          rcases slc_blk y15 with ⟨_, hnil, _⟩ | ⟨b, off, sp, c, pre, rest, hv, hA, hp, c3, c4⟩
          · exact absurd hnil (by simp)
          subst hA
          rw [List.length_append, List.length_singleton] at hv hl15 c3 c4
          obtain ⟨h31, X, e31, x1, x2, x3, o31⟩ := bubble_ok (n := n) (c := c) (sp := sp) hp o15 hO c2 (by omega) (by omega)
          have w1 : IntKind.i64.wrap (((O.length + 1 : Nat) : Int) - 1) = (O.length : Int) := by rw [wrap_i64 (by omega) (by omega)]; omega
          rw [← hv] at e31
          refine ⟨((v15, (((j + 1 : Nat) : Int), ())), h31), by simp only [f_wicketref05_Both_L34, hlb, hlt, decide_true, cond_true, g1, g2, g3, g4, Option.bind_some, c1, c2, Bool.not_true, cond_false, decide_false, f1, bnd_eq, e15, hl15, w1, e31, wrap_succ (show j < 4611686018427387904 by omega)], rfl, X, [(b, Blk pre X rest)], by omega, x2, fun y => ?_, ?_, o31⟩
          · rw [x3, hm, hmt]
            constructor
            · rintro (⟨h1, h2⟩ | rfl)
              · exact ⟨.inl h1, h2⟩
              · exact ⟨.inr rfl, c1⟩
            · rintro ⟨h1 | rfl, h2⟩
              · exact .inl ⟨h1, h2⟩
              · exact .inr rfl
          · have := blk_slc (b := b) (sp := sp) (c := c) (rest := rest) (X := X) (i := X.length) hp (Nat.le_refl _) (by omega) (by omega)
            rw [List.take_length, x1] at this
            rw [hv, x1]
            exact this
      · refine ⟨((v0, (((j + 1 : Nat) : Int), ())), h2), by simp only [f_wicketref05_Both_L34, hlb, hlt, decide_true, cond_true, g1, g2, g3, Option.bind_some, c1, decide_false, Bool.not_false, wrap_succ (show j < 4611686018427387904 by omega)], rfl, O, A1, by omega, hO, fun y => ?_, y, o⟩
        rw [hm, hmt]
        constructor
        · rintro ⟨h1, h2⟩; exact ⟨.inl h1, h2⟩
        · rintro ⟨h1 | rfl, h2⟩
          · exact ⟨h1, h2⟩
          · exact absurd h2 c1)
    (fun a hi => by
      obtain ⟨⟨v0, v1, _⟩, h2⟩ := a
      obtain ⟨e0, O, A1, hol, hO, hm, y, o⟩ := hi
      cases e0
      have y : Slc 1 v0 _ _ _ := y
      have hlt : ¬ (L.length : Int) < (L.length : Int) := by omega
      rw [List.take_length] at hm
      have : bothL L M = O := lt_ext form_lt hO fun y => by rw [hm]; exact bothL_mem
      exact ⟨((v0, ()), h2), by simp only [f_wicketref05_Both_L34, hlb, hlt, decide_false, cond_false, Option.bind_some, y.notT, Bool.not_false, cond_true, Option.map_some], A1, by rw [this]; exact y, o⟩)
  exact ⟨v, h', A', by simp only [f_wicketref05_Both, e], q1, q2⟩
end
end Go.Proofs.Ytebfdmecajomeaa

/- The law: every Is, Has, Next, Both. -/
namespace Go.Proofs.Ytebfdmecajomeaa
open Go
set_option linter.unusedVariables false
set_option linter.unusedSimpArgs false
theorem fill5 {a b c d e : Value} (ha : ∃ x k l, a = .slice x k l) (hb : ∃ x k l, b = .slice x k l) (hc : ∃ x k l, c = .slice x k l) (hd : ∃ x k l, d = .slice x k l) (he : ∃ x k l, e = .slice x k l) :
    fillL (List.replicate 5 (.slice none 0 0)) [(0, 1, a), (1, 1, b), (2, 1, c), (3, 1, d), (4, 1, e)] = some [a, b, c, d, e] := by
  obtain ⟨_, _, _, rfl⟩ := ha
  obtain ⟨_, _, _, rfl⟩ := hb
  obtain ⟨_, _, _, rfl⟩ := hc
  obtain ⟨_, _, _, rfl⟩ := hd
  obtain ⟨_, _, _, rfl⟩ := he
  rfl
section
variable {n : Nat} {s u u0 u1 : Value} {L M X Y : List Int} {b m t z : Int} {h : Heap} {G F A B : Ch} {cs pre rest : List Value}
theorem Slc.form3 {es k : Nat} (hs : Slc es s k cs A) : ∃ x k l, s = .slice x k l := by obtain ⟨a, c, e⟩ := hs.form; exact ⟨_, _, _, e⟩
theorem turn_ok (hs : Slc 1 s L.length (iz .i64 L) A) (ho : Own h (A ++ F)) (hn : L.length + 2 ≤ n) (hl : L.length < 4611686018427387904) :
    ∃ h' X A', f_wicketlaw05_turn n s h = some ((), h') ∧ X.length = L.length ∧ Slc 1 s X.length (iz .i64 X) A' ∧ Own h' (A' ++ F) := by
  rcases slc_blk hs with ⟨rfl, rfl, rfl⟩ | ⟨b, off, sp, c, pre, rest, rfl, rfl, hp, c1, c2⟩
  · obtain ⟨k, rfl⟩ : ∃ k, n = k + 1 := ⟨n - 1, by omega⟩
    exact ⟨h, [], [], rfl, rfl, .nil, ho⟩
  · obtain ⟨h', X, e, x1, x2, o⟩ := turn_blk (n := n) (c := c) (sp := sp) hp ho hn hl
    refine ⟨h', X, [(b, Blk pre X rest)], e, x1, ?_, o⟩
    have := blk_slc (b := b) (sp := sp) (c := c) (rest := rest) (X := X) (i := X.length) hp (Nat.le_refl _) (by omega) (by omega)
    rw [List.take_length] at this
    rw [x1] at this ⊢
    exact this
theorem blocksLists_ok (hu0 : Sow 1 u0 L.length (iz .i64 L) G) (hu1 : Sow 1 u1 M.length (iz .i64 M) G) (ho : Own h G)
    (hL : (L.length + 80) * 8 ≤ 140737488355328) (hM : (M.length + 80) * 8 ≤ 140737488355328) (hn : L.length + 1000 ≤ n) (hn2 : M.length + 1000 ≤ n) : ∃ h', f_wicketlaw05_BlocksLists n u0 u1 z h = some ((true, ()), h') := by
  have aw : f_wicketlaw05_awake n h = some ((true, ()), h) := rfl
  obtain ⟨v1, h1, A1, e1, y1, o1⟩ := rboth_ok (n := n) hu0 hu1 (h := h) (F := []) (by simpa using ho) (by omega) (by omega) (by omega) (by omega)
  have o1 : Own h1 (A1 ++ G) := by simpa using o1
  have e2 := rnext_ok (n := n) (z := z) (hu0.rds (h := h1) (F := A1) (o1.to fun x => by simp only [cnt_append]; omega))
  obtain ⟨v3, h3, A3, e3, y3, o3⟩ := roomy_ok (n := n) hu0 (h := h1) (F := A1) (o1.to fun x => by simp only [cnt_append]; omega) (by omega)
  obtain ⟨v4, h4, A4, e4, y4, o4⟩ := roomy_ok (n := n) hu1 (h := h3) (F := A3 ++ A1) (o3.to fun x => by simp only [cnt_append]; omega) (by omega)
  have s3 : Sow 1 v3 L.length (iz .i64 L) (A3 ++ A4) := y3.slc.sow.mono fun x hx => List.mem_append_left _ hx
  have s4 : Sow 1 v4 M.length (iz .i64 M) (A3 ++ A4) := y4.slc.sow.mono fun x hx => List.mem_append_right _ hx
  obtain ⟨v5, h5, A5, e5, y5, o5⟩ := both_ok (n := n) s3 s4 (h := h4) (F := A1 ++ G) (o4.to fun x => by simp only [cnt_append]; omega) (by omega) (by omega) (by omega) (by omega)
  have o5 : Own h5 (A5 ++ (A4 ++ (A3 ++ (A1 ++ G)))) := o5.to fun x => by simp only [cnt_append]; omega
  have hbl := bothL_len (L := L) (M := M)
  have r3 := y3.slc.rds (h := h5) (F := A5 ++ (A4 ++ (A1 ++ G))) (o5.to fun x => by simp only [cnt_append]; omega)
  have r0 := hu0.rds (h := h5) (F := A5 ++ (A4 ++ (A3 ++ A1))) (o5.to fun x => by simp only [cnt_append]; omega)
  have e6 := next_ok (n := n) (z := z) r3
  have e7 := same5_ok (n := n) (y5.rds o5) (y1.rds (h := h5) (F := A5 ++ (A4 ++ (A3 ++ G))) (o5.to fun x => by simp only [cnt_append]; omega)) (by omega) (by omega)
  have e8 := is_ok (n := n) r3 (by omega)
  have e9 := ris_ok (n := n) r0 (by omega)
  have e10 := has_ok (n := n) (t := z) r3 (by omega) (by omega)
  have e11 := rhas_ok (n := n) (t := z) r0 (by omega) (by omega)
  obtain ⟨v13, h13, A13, e13, y13, o13⟩ := both_ok (n := n) s3 s4 (h := h5) (F := A5 ++ (A1 ++ G)) (o5.to fun x => by simp only [cnt_append]; omega) (by omega) (by omega) (by omega) (by omega)
  have e14 := same5_ok (n := n) (y13.rds o13) (y1.rds (h := h13) (F := A13 ++ (A3 ++ (A4 ++ (A5 ++ G)))) (o13.to fun x => by simp only [cnt_append]; omega)) (by omega) (by omega)
  have f15 : fillL [.int .i64 0, .int .i64 0, .int .i64 0] [(0, 1, .int .i64 1), (1, 1, .int .i64 2), (2, 1, .int .i64 3)] = some (iz .i64 [1, 2, 3]) := rfl
  have o16 := o13.new (.cells (iz .i64 [1, 2, 3]) false 1)
  generalize hr : h13.next = r at o16
  generalize hh16 : h13.new (.cells (iz .i64 [1, 2, 3]) false 1) = h16 at o16
  have y16 : Slc 1 (.slice (some ⟨r, 0, some 0⟩) 3 3) ([1, 2, 3] : List Int).length (iz .i64 [1, 2, 3]) [(r, .cells ([] ++ (iz .i64 [1, 2, 3] ++ [])) false 1)] := .mk rfl rfl rfl
  generalize hA16 : [(r, AObj.cells ([] ++ (iz .i64 [1, 2, 3] ++ [])) false 1)] = A16 at y16
  have o16 : Own h16 (A16 ++ (A13 ++ (A3 ++ (A4 ++ (A5 ++ (A1 ++ G)))))) := by subst hA16; exact o16.to fun x => by simp only [cnt_append, cnt_cons, cnt_nil, List.nil_append, List.append_nil]; omega
  obtain ⟨v17, h17, A17, e17, y17, o17⟩ := both_ok (n := n) (G := A4 ++ A16) (y4.slc.sow.mono fun x hx => List.mem_append_left _ hx) (y16.sow.mono fun x hx => List.mem_append_right _ hx) (h := h16) (F := A13 ++ (A3 ++ (A5 ++ (A1 ++ G)))) (o16.to fun x => by simp only [cnt_append]; omega) (by simp; omega) (by omega) (by simp) (by omega)
  have hbl2 := bothL_len (L := M) (M := [1, 2, 3])
  obtain ⟨v18, h18, A18, e18, y18, o18⟩ := both_ok (n := n) s3 s4 (h := h17) (F := A17 ++ (A16 ++ (A13 ++ (A5 ++ (A1 ++ G))))) (o17.to fun x => by simp only [cnt_append]; omega) (by omega) (by omega) (by omega) (by omega)
  have o18 : Own h18 (A18 ++ (A17 ++ (A16 ++ (A13 ++ (A5 ++ (A4 ++ (A3 ++ (A1 ++ G)))))))) := o18.to fun x => by simp only [cnt_append]; omega
  have r1 := y1.rds (h := h18) (F := A18 ++ (A17 ++ (A16 ++ (A13 ++ (A5 ++ (A4 ++ (A3 ++ G))))))) (o18.to fun x => by simp only [cnt_append]; omega)
  have e19 := same5_ok (n := n) (y18.rds o18) r1 (by omega) (by omega)
  have e20 := same5_ok (n := n) (y5.rds (h := h18) (F := A18 ++ (A17 ++ (A16 ++ (A13 ++ (A4 ++ (A3 ++ (A1 ++ G))))))) (o18.to fun x => by simp only [cnt_append]; omega)) r1 (by omega) (by omega)
  have e21 := same5_ok (n := n) (y13.rds (h := h18) (F := A18 ++ (A17 ++ (A16 ++ (A5 ++ (A4 ++ (A3 ++ (A1 ++ G))))))) (o18.to fun x => by simp only [cnt_append]; omega)) r1 (by omega) (by omega)
  have e22 := heldI_ok (n := n) y3 hu0 (h := h18) (F := A18 ++ (A17 ++ (A16 ++ (A13 ++ (A5 ++ (A4 ++ A1)))))) (o18.to fun x => by simp only [cnt_append]; omega) (by omega) (by omega)
  have e23 := heldI_ok (n := n) y4 hu1 (h := h18) (F := A18 ++ (A17 ++ (A16 ++ (A13 ++ (A5 ++ (A3 ++ A1)))))) (o18.to fun x => by simp only [cnt_append]; omega) (by omega) (by omega)
  -- written over
  obtain ⟨h25, X, A25, e25, hX, y25, o25⟩ := turn_ok (n := n) y3.slc (h := h18) (F := A18 ++ (A17 ++ (A16 ++ (A13 ++ (A5 ++ (A4 ++ (A1 ++ G))))))) (o18.to fun x => by simp only [cnt_append]; omega) (by omega) (by omega)
  obtain ⟨v26, h26, A26, e26, y26, o26⟩ := ownI_ok (n := n) y25.sow o25 (by omega)
  obtain ⟨v27, h27, A27, e27, y27, o27⟩ := rboth_ok (n := n) (L := X) (G := A26 ++ G) (y26.sow.mono fun x hx => List.mem_append_left _ hx) (hu1.mono fun x hx => List.mem_append_right _ hx) (h := h26) (F := A25 ++ (A18 ++ (A17 ++ (A16 ++ (A13 ++ (A5 ++ (A4 ++ A1))))))) (o26.to fun x => by simp only [cnt_append]; omega) (by omega) (by omega) (by omega) (by omega)
  obtain ⟨v28, h28, A28, e28, y28, o28⟩ := ownI_ok (n := n) y25.sow (h := h27) (F := A27 ++ (A26 ++ (A18 ++ (A17 ++ (A16 ++ (A13 ++ (A5 ++ (A4 ++ (A1 ++ G))))))))) (o27.to fun x => by simp only [cnt_append]; omega) (by omega)
  have e29 := rnext_ok (n := n) (z := z) (y28.rds o28)
  have s25 : Sow 1 v3 X.length (iz .i64 X) (A25 ++ A4) := y25.sow.mono fun x hx => List.mem_append_left _ hx
  have s25b : Sow 1 v4 M.length (iz .i64 M) (A25 ++ A4) := y4.slc.sow.mono fun x hx => List.mem_append_right _ hx
  obtain ⟨v30, h30, A30, e30, y30, o30⟩ := both_ok (n := n) s25 s25b (h := h28) (F := A28 ++ (A27 ++ (A26 ++ (A18 ++ (A17 ++ (A16 ++ (A13 ++ (A5 ++ (A1 ++ G))))))))) (o28.to fun x => by simp only [cnt_append]; omega) (by omega) (by omega) (by omega) (by omega)
  have o30 : Own h30 (A30 ++ (A28 ++ (A27 ++ (A26 ++ (A25 ++ (A18 ++ (A17 ++ (A16 ++ (A13 ++ (A5 ++ (A4 ++ (A1 ++ G)))))))))))) := o30.to fun x => by simp only [cnt_append]; omega
  have hbl3 := bothL_len (L := X) (M := M)
  have r25 := y25.rds (h := h30) (F := A30 ++ (A28 ++ (A27 ++ (A26 ++ (A18 ++ (A17 ++ (A16 ++ (A13 ++ (A5 ++ (A4 ++ (A1 ++ G))))))))))) (o30.to fun x => by simp only [cnt_append]; omega)
  have e31 := next_ok (n := n) (z := z) r25
  have e32 := same5_ok (n := n) (y30.rds o30) (y27.rds (h := h30) (F := A30 ++ (A28 ++ (A26 ++ (A25 ++ (A18 ++ (A17 ++ (A16 ++ (A13 ++ (A5 ++ (A4 ++ (A1 ++ G))))))))))) (o30.to fun x => by simp only [cnt_append]; omega)) (by omega) (by omega)
  have e33 := is_ok (n := n) r25 (by omega)
  have e34 := ris_ok (n := n) r25 (by omega)
  have e35 := has_ok (n := n) (t := z) r25 (by omega) (by omega)
  have e36 := rhas_ok (n := n) (t := z) r25 (by omega) (by omega)
  -- apart
  have f37 := fill5 y5.form3 y13.form3 y17.form3 y18.form3 y30.form3
  have o38 := o30.new (.cells [v5, v13, v17, v18, v30] false 1)
  generalize hq : h30.next = q at o38
  generalize hh38 : h30.new (.cells [v5, v13, v17, v18, v30] false 1) = h38 at o38
  have hu : Slc 1 (.slice (some ⟨q, 0, some 0⟩) 5 5) 5 [v5, v13, v17, v18, v30] [(q, .cells ([] ++ ([v5, v13, v17, v18, v30] ++ [])) false 1)] := .mk rfl rfl rfl
  obtain ⟨K, hK1, hK2, hK⟩ : ∃ K, L.length ≤ K ∧ M.length ≤ K ∧ (K + 80) * 8 ≤ 140737488355328 ∧ K + 1000 ≤ n := by
    rcases Nat.le_total L.length M.length with h | h
    · exact ⟨M.length, h, Nat.le_refl _, hM, hn2⟩
    · exact ⟨L.length, Nat.le_refl _, h, hL, hn⟩
  obtain ⟨h39, e39, o39⟩ := apart5_ok (n := n) (B := K) (h := h38) (xs := [⟨v5, _, _, A5⟩, ⟨v13, _, _, A13⟩, ⟨v17, _, _, A17⟩, ⟨v18, _, _, A18⟩, ⟨v30, _, _, A30⟩]) (F := A28 ++ (A27 ++ (A26 ++ (A25 ++ (A16 ++ (A4 ++ (A1 ++ G))))))) hu
    (fun x hx => by
      simp only [List.mem_cons, List.not_mem_nil, or_false] at hx
      rcases hx with rfl | rfl | rfl | rfl | rfl
      · exact ⟨y5, by simp only; omega⟩
      · exact ⟨y13, by simp only; omega⟩
      · exact ⟨y17, by simp only; omega⟩
      · exact ⟨y18, by simp only; omega⟩
      · exact ⟨y30, by simp only; omega⟩)
    (o38.to fun x => by simp only [List.flatMap_cons, List.flatMap_nil, cnt_append, cnt_cons, cnt_nil, List.nil_append, List.append_nil]; omega) (by omega) (by simp) (by omega) (by simp; omega)
  refine ⟨h39, ?_⟩
  simp only [f_wicketlaw05_BlocksLists, aw, Option.bind_some, Bool.not_true, cond_false, e1, e2, e3, e4, e5, e6, e7, decide_true, beq_self_eq_true, e8, e9, e10, e11, e13, e14, f15, bnd_eq, hr, hh16, e17, e18, e19, e20, e21, e22, e23, e25, e26, e27, e28, e29, e30, e31, e32, cond_true, e33, e34, e35, e36, f37, hq, hh38, e39]
end
end Go.Proofs.Ytebfdmecajomeaa

