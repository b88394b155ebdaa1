/- What is owned: blocks by number with what they hold; each once. Plain functions over it. -/
import Derived.Test.YtdlfdieehioolaaDoorB8
namespace Go.Proofs.YtdlfdieehioolaaDoor
open Go
set_option linter.unusedVariables false
set_option linter.unusedSimpArgs false
abbrev Ch := List (Nat × AObj)
noncomputable def cnt (x : Nat × AObj) (L : Ch) : Nat := by classical exact L.count x
theorem cnt_nil {x} : cnt x [] = 0 := by simp [cnt]
theorem cnt_append {x} {A B : Ch} : cnt x (A ++ B) = cnt x A + cnt x B := by simp [cnt]
noncomputable def cn1 (x y : Nat × AObj) : Nat := cnt x [y]
theorem cnt_cons {x y} {A : Ch} : cnt x (y :: A) = cn1 x y + cnt x A := by
  rw [cn1, ← cnt_append]; rfl
theorem cnt_pos {x} {A : Ch} (h : x ∈ A) : 0 < cnt x A := by
  classical
  simp only [cnt]; exact List.count_pos_iff.2 h
theorem mem_cnt {x} {A : Ch} (h : 0 < cnt x A) : x ∈ A := by
  classical
  simp only [cnt] at h; exact List.count_pos_iff.1 h
structure Own (h : Heap) (L : Ch) : Prop where
  get : ∀ x ∈ L, h.get x.1 = some x.2
  nodup : (L.map (·.1)).Nodup
  lt : ∀ x ∈ L, x.1 < h.next
theorem subperm_of_cnt : ∀ {B A : Ch}, (∀ x, cnt x B ≤ cnt x A) → ∃ C, (B ++ C).Perm A := by
  intro B
  induction B with
  | nil => intro A _; exact ⟨A, List.Perm.refl _⟩
  | cons y B ih =>
    intro A h
    have hy : y ∈ A := mem_cnt (by have := h y; have h1 := cnt_pos (x := y) (A := y :: B) (List.mem_cons_self ..); omega)
    obtain ⟨l1, l2, rfl⟩ := List.append_of_mem hy
    obtain ⟨C, hC⟩ := ih (A := l1 ++ l2) fun x => by
      have := h x
      simp only [cnt_cons, cnt_append] at this ⊢
      omega
    exact ⟨C, ((List.Perm.cons y hC).trans List.perm_middle.symm)⟩
section
variable {h h' : Heap} {A B F L X : Ch} {b : Nat} {o o' : AObj}
theorem Own.to (ho : Own h A) (hc : ∀ x, cnt x B ≤ cnt x A) : Own h B := by
  obtain ⟨C, hp⟩ := subperm_of_cnt hc
  have hm : ∀ x ∈ B, x ∈ A := fun x hx => hp.subset (List.mem_append_left _ hx)
  refine ⟨fun x hx => ho.get x (hm x hx), ?_, fun x hx => ho.lt x (hm x hx)⟩
  have := (hp.map (·.1)).nodup_iff.2 ho.nodup
  rw [List.map_append, List.nodup_append] at this
  exact this.1
theorem Own.nil : Own h [] := ⟨fun _ h => absurd h List.not_mem_nil, List.nodup_nil, fun _ h => absurd h List.not_mem_nil⟩
theorem Own.head (ho : Own h ((b, o) :: F)) : h.get b = some o := ho.get _ (List.mem_cons_self ..)
theorem Own.tail {x} (ho : Own h (x :: F)) : Own h F := ⟨fun y hy => ho.get y (List.mem_cons_of_mem _ hy), by have := ho.nodup; simp only [List.map_cons, List.nodup_cons] at this; exact this.2, fun y hy => ho.lt y (List.mem_cons_of_mem _ hy)⟩
theorem Own.notin {x} (ho : Own h (x :: F)) : ∀ y ∈ F, y.1 ≠ x.1 := fun y hy e => by
  have := ho.nodup
  simp only [List.map_cons, List.nodup_cons] at this
  exact this.1 (List.mem_map.2 ⟨y, hy, e⟩)
theorem Own.right (ho : Own h (A ++ B)) : Own h B := ho.to fun x => by rw [cnt_append]; omega
theorem Own.apart {x y} (ho : Own h (A ++ B)) (hx : x ∈ A) (hy : y ∈ B) : x.1 ≠ y.1 := fun e => by
  have := ho.nodup
  rw [List.map_append, List.nodup_append] at this
  exact this.2.2 _ (List.mem_map.2 ⟨x, hx, rfl⟩) _ (List.mem_map.2 ⟨y, hy, rfl⟩) e
theorem Own.cons (ho : Own h F) (hg : h.get b = some o) (hl : b < h.next) (hn : ∀ y ∈ F, y.1 ≠ b) : Own h ((b, o) :: F) := by
  refine ⟨fun x hx => ?_, ?_, fun x hx => ?_⟩
  · rcases List.mem_cons.1 hx with rfl | hx
    · exact hg
    · exact ho.get x hx
  · simp only [List.map_cons, List.nodup_cons]
    refine ⟨fun hm => ?_, ho.nodup⟩
    obtain ⟨y, hy, e⟩ := List.mem_map.1 hm
    exact hn y hy e
  · rcases List.mem_cons.1 hx with rfl | hx
    · exact hl
    · exact ho.lt x hx
theorem Own.keep (ho : Own h F) (hk : ∀ x ∈ F, h'.get x.1 = h.get x.1) (hn : h.next ≤ h'.next) : Own h' F :=
  ⟨fun x hx => by rw [hk x hx]; exact ho.get x hx, ho.nodup, fun x hx => Nat.lt_of_lt_of_le (ho.lt x hx) hn⟩
theorem Own.new (ho : Own h F) (o : AObj) : Own (h.new o) ((h.next, o) :: F) := by
  refine Own.cons (ho.keep (fun x hx => ?_) (Nat.le_succ _)) (by simp) (Nat.lt_succ_self _) fun y hy => ?_
  · rw [Heap.get_new, if_neg (Nat.ne_of_lt (ho.lt x hx))]
  · exact Nat.ne_of_lt (ho.lt y hy)
theorem Own.put (ho : Own h ((b, o) :: F)) (o' : AObj) : Own (h.put b o') ((b, o') :: F) := by
  refine Own.cons (ho.tail.keep (fun x hx => ?_) (Nat.le_refl _)) (by simp) (ho.lt _ (List.mem_cons_self ..)) ho.notin
  rw [Heap.get_put, if_neg (ho.notin x hx)]
theorem Own.drop (ho : Own h ((b, o) :: F)) : Own (h.drop b) F := ho.tail.keep (fun x hx => by rw [Heap.get_drop, if_neg (ho.notin x hx)]) (Nat.le_refl _)
theorem Own.hole (ho : Own h F) : Own h.hole F := ho.keep (fun x hx => by rw [hole_get, if_neg (Nat.ne_of_lt (ho.lt x hx))]) (Nat.le_succ _)
theorem Own.dropAll1 (ho : Own h ((b, o) :: F)) : Own (h.dropAll [b]) F := ho.drop
theorem Own.ro {r : Nat} {cs : List Value} {ro : Bool} {es : Nat} (ho : Own h ((r, .cells cs ro es) :: F)) : Own (hid h [] [r]) ((r, .cells cs true es) :: F) := by
  have hg := ho.head
  refine Own.cons (ho.tail.keep (fun x hx => ?_) (by rw [next_hid]; exact Nat.le_refl _)) ?_ (by rw [next_hid]; exact ho.lt _ (List.mem_cons_self ..)) ho.notin
  · rw [get_hid, if_neg (by simpa using ho.notin x hx)]; simp
  · rw [get_hid, if_pos (by simp)]; simp [hg, AObj.roOf]
theorem Own.back {h0 : Heap} {r : Nat} {cs : List Value} {ro : Bool} {es : Nat} (ho : Own h ((r, .cells cs true es) :: X)) (h0g : h0.get r = some (.cells cs ro es)) : Own (h.putBack h0 [r]) ((r, .cells cs ro es) :: X) := by
  refine Own.cons (ho.tail.keep (fun x hx => ?_) (by rw [Heap.next_putBack]; exact Nat.le_refl _)) ?_ (by rw [Heap.next_putBack]; exact ho.lt _ (List.mem_cons_self ..)) ho.notin
  · rw [Heap.get_putBack, if_neg (by simpa using ho.notin x hx)]
  · rw [Heap.get_putBack, if_pos (by simp)]; exact h0g
end
/- reading and writing in a block -/
section
variable {h : Heap} {b o k : Nat} {sp : Option Nat} {cs : List Value} {ro : Bool} {es : Nat} {ty : Ty}
@[simp] theorem fa_mk : fa ⟨b, o, sp⟩ k = ⟨b, o + k, none⟩ := rfl
theorem take_one_drop {i : Nat} {v : Value} (h : cs[i]? = some v) : (cs.drop i).take 1 = [v] := by
  have hlt := (List.getElem?_eq_some_iff.1 h).1
  rw [List.drop_eq_getElem_cons hlt, List.take_succ_cons, List.take_zero, (List.getElem?_eq_some_iff.1 h).2]
theorem ldT_of (hg : h.get b = some (.cells cs ro es)) : ldT ty h (some ⟨b, o, sp⟩) = (cs[o]?).bind ty.prj := by
  simp only [ldT, Option.bind_some]
  cases hc : cs[o]? with
  | none =>
    have : cs.length ≤ o := List.getElem?_eq_none_iff.1 hc
    simp [readCells, hg, ble_false (show cs.length < o + 1 by omega)]
  | some v =>
    have hlt := (List.getElem?_eq_some_iff.1 hc).1
    rw [readCells_of hg (by omega), take_one_drop hc]; rfl
theorem ldA_of {sz : Nat} (hg : h.get b = some (.cells cs ro es)) (hl : o + sz ≤ cs.length) : ldA sz h (some ⟨b, o, sp⟩) = some ((cs.drop o).take sz) := by
  simp only [ldA, Option.bind_some]; exact readCells_of hg hl
theorem stB_of {sz : Nat} {v : Value} (hg : h.get b = some (.cells cs false es)) (h1 : (cellsOf v).length = sz) (h2 : (cellsOf v).all isCell = true) (hl : o + sz ≤ cs.length) :
    stB sz v h (some ⟨b, o, sp⟩) = some (h.put b (.cells (writeAt cs o (cellsOf v)) false es)) := by
  subst h1
  simp only [stB, Option.bind_some, h2, Nat.beq_refl, Bool.and_self, cond_true]
  exact writeCells_of hg hl
@[simp] theorem prj_int {k : IntKind} {z : Int} : Ty.prj (.int k) (.int k z) = some z := by simp [Ty.prj]
@[simp] theorem prj_bool {z : Bool} : Ty.prj .bool (.bool z) = some z := rfl
@[simp] theorem prj_ptr {z : Option Addr} : Ty.prj .ptr (.pointer z) = some z := rfl
@[simp] theorem prj_any {z : Value} : Ty.prj .any z = some z := rfl
@[simp] theorem bnd_eq {A B : Type} {a : A} {f : A → B} : bnd a f = f a := rfl
@[simp] theorem thenB_inl {A R : Type} {a : A} {k : A → Option R} : thenB (some (.inl a)) k = k a := rfl
@[simp] theorem thenB_inr {A R : Type} {r : R} {k : A → Option R} : thenB (some (.inr r)) k = some r := rfl
@[simp] theorem nwA_eq : nwA h = ⟨h.next, 0, none⟩ := rfl
@[simp] theorem eqVals_fn {g c : Nat} {a : Ptrs c} : eqVals h .func (Ty.val (.fn g c) a) .nilFunc = some false := rfl
@[simp] theorem lenB_slice {a n c} : lenB (.slice a n c) = some n := rfl
end
/- loops -/
theorem loopT_up {A B : Type} {f : A → Option (A ⊕ B)} (I : Nat → A → Prop) (Q : B → Prop) {N : Nat} : ∀ {k j : Nat} {a : A}, N < k + j → j ≤ N → I j a →
    (∀ j a, j < N → I j a → (∃ a', f a = some (.inl a') ∧ I (j + 1) a') ∨ ∃ r, f a = some (.inr r) ∧ Q r) → (∀ a, I N a → ∃ r, f a = some (.inr r) ∧ Q r) → ∃ r, loopT f k a = some r ∧ Q r := by
  intro k
  induction k with
  | zero => intro j a h1 h2; omega
  | succ k ih =>
    intro j a h1 h2 hi step stop
    rcases Nat.lt_or_ge j N with h | h
    · rcases step j a h hi with ⟨a', e, hi'⟩ | ⟨r, e, hq⟩
      · obtain ⟨r, e2, hq⟩ := ih (j := j + 1) (by omega) (by omega) hi' step stop
        exact ⟨r, by simp only [loopT, e, e2], hq⟩
      · exact ⟨r, by simp only [loopT, e], hq⟩
    · obtain rfl : j = N := by omega
      obtain ⟨r, e, hq⟩ := stop a hi
      exact ⟨r, by simp only [loopT, e], hq⟩
/- slices -/
inductive Slc (es : Nat) : Value → Nat → List Value → Ch → Prop
  | nil : Slc es (.slice none 0 0) 0 [] []
  | mk' {b off : Nat} {sp : Option Nat} {n c : Nat} {pre cs rest : List Value} (hp : pre.length = off) (hl : cs.length = n * es) (hr : (1 ≤ es → n ≤ c) ∧ c * es ≤ cs.length + rest.length) : Slc es (.slice (some ⟨b, off, sp⟩) n c) n cs [(b, .cells (pre ++ (cs ++ rest)) false es)]
theorem Slc.mk {es b off : Nat} {sp : Option Nat} {n c : Nat} {pre cs rest : List Value} (hp : pre.length = off) (hl : cs.length = n * es) (hr : cs.length + rest.length = c * es) : Slc es (.slice (some ⟨b, off, sp⟩) n c) n cs [(b, .cells (pre ++ (cs ++ rest)) false es)] :=
  .mk' hp hl ⟨fun h => Nat.le_of_mul_le_mul_right (by omega : n * es ≤ c * es) h, by omega⟩
section
variable {h : Heap} {es n m : Nat} {s y : Value} {cs new : List Value} {A F : Ch}
theorem Slc.len (hs : Slc es s n cs A) : cs.length = n * es := by
  cases hs with
  | nil => simp
  | mk' hp hl hr => exact hl
theorem Slc.form (hs : Slc es s n cs A) : ∃ a c, s = .slice a n c := by
  cases hs with
  | nil => exact ⟨_, _, rfl⟩
  | mk' hp hl hr => exact ⟨_, _, rfl⟩
theorem Slc.lenB (hs : Slc es s n cs A) : lenB s = some n := by obtain ⟨a, c, rfl⟩ := hs.form; rfl
theorem Slc.notT (hs : Slc es s n cs A) : isTuple s = false := by obtain ⟨a, c, rfl⟩ := hs.form; rfl
theorem Slc.isCell (hs : Slc es s n cs A) : isCell s = true := by obtain ⟨a, c, rfl⟩ := hs.form; rfl
theorem Slc.cellsOf (hs : Slc es s n cs A) : cellsOf s = [s] := by obtain ⟨a, c, rfl⟩ := hs.form; rfl
def At (h : Heap) (q : Addr) (cs : List Value) : Prop := ∀ o k, o + k ≤ cs.length → readCells h q.block (q.off + o) k = some ((cs.drop o).take k)
theorem At.ldT {q : Addr} (ha : At h q cs) {ty : Ty} {o : Nat} {v : Value} (hv : cs[o]? = some v) : ldT ty h (some (fa q o)) = ty.prj v := by
  have hlt := (List.getElem?_eq_some_iff.1 hv).1
  simp only [Go.Proofs.YtdlfdieehioolaaDoor.ldT, Option.bind_some, fa]
  rw [ha o 1 (by omega), take_one_drop hv]; rfl
theorem At.ldT0 {q : Addr} (ha : At h q cs) {ty : Ty} {v : Value} (hv : cs[0]? = some v) : Go.Proofs.YtdlfdieehioolaaDoor.ldT ty h (some q) = ty.prj v := by
  have hlt := (List.getElem?_eq_some_iff.1 hv).1
  have := ha 0 1 (by omega)
  rw [Nat.add_zero, take_one_drop hv] at this
  simp only [Go.Proofs.YtdlfdieehioolaaDoor.ldT, Option.bind_some, this]; rfl
theorem At.ldA0 {q : Addr} (ha : At h q cs) {k : Nat} (hk : k ≤ cs.length) : Go.Proofs.YtdlfdieehioolaaDoor.ldA k h (some q) = some (cs.take k) := by
  have := ha 0 k (by omega)
  rw [Nat.add_zero, List.drop_zero] at this
  simp only [Go.Proofs.YtdlfdieehioolaaDoor.ldA, Option.bind_some, this]
structure Rds (h : Heap) (es : Nat) (s : Value) (n : Nat) (cs : List Value) : Prop where
  form : ∃ a c, s = .slice a n c
  len : cs.length = n * es
  ix : ∀ i, i < n → ∃ q, ixB es s (i : Int) = some q ∧ At h q ((cs.drop (i * es)).take es)
  src : ∃ a c, s = .slice a n c ∧ srcCells h a (n * es) = some cs
theorem Rds.lenB (hs : Rds h es s n cs) : Go.Proofs.YtdlfdieehioolaaDoor.lenB s = some n := by obtain ⟨a, c, rfl⟩ := hs.form; rfl
def Sow (es : Nat) (s : Value) (n : Nat) (cs : List Value) (G : Ch) : Prop := ∀ h : Heap, (∀ x ∈ G, h.get x.1 = some x.2) → Rds h es s n cs
theorem Sow.rds {G : Ch} (hs : Sow es s n cs G) (ho : Own h (G ++ F)) : Rds h es s n cs := hs h fun x hx => ho.get x (List.mem_append_left _ hx)
theorem Slc.sow (hs : Slc es s n cs A) : Sow es s n cs A := by
  intro h ho
  refine ⟨hs.form, hs.len, fun i hi => ?_, ?_⟩
  · cases hs with
    | nil => omega
    | @mk' b off sp _ c pre _ rest hp hl hr =>
      subst hp
      have hg := ho (b, .cells (pre ++ (cs ++ rest)) false es) (by simp)
      refine ⟨⟨b, pre.length + i * es, none⟩, ?_, fun o k hk => ?_⟩
      · show (bif Nat.blt i n then _ else none) = _
        rw [show Nat.blt i n = true from Nat.ble_eq_true_of_le hi]; rfl
      · have h1 : (i + 1) * es ≤ n * es := Nat.mul_le_mul_right es hi
        rw [Nat.add_mul, Nat.one_mul] at h1
        have hk' : o + k ≤ es := by simp at hk; omega
        show readCells h b (pre.length + i * es + o) k = _
        have hb : pre.length + i * es + o + k ≤ (pre ++ (cs ++ rest)).length := by simp; omega
        rw [readCells_of hg hb]
        congr 1
        apply List.ext_getElem?
        intro j
        by_cases hj : j < k
        · rw [List.getElem?_take, if_pos hj, List.getElem?_drop, List.getElem?_take, if_pos hj, List.getElem?_drop, List.getElem?_take, if_pos (by omega), List.getElem?_drop, List.getElem?_append_right (by omega), List.getElem?_append_left (by omega)]
          congr 1; omega
        · rw [List.getElem?_take, if_neg hj, List.getElem?_take, if_neg hj]
  · cases hs with
    | nil => exact ⟨none, 0, rfl, rfl⟩
    | @mk' b off sp _ c pre _ rest hp hl hr =>
      have hg := ho (b, .cells (pre ++ (cs ++ rest)) false es) (by simp)
      refine ⟨_, c, rfl, ?_⟩
      show readCells h b off (n * es) = _
      rw [readCells_of hg (by simp; omega)]
      congr 1
      rw [← hp, List.drop_left, ← hl, List.take_left]
theorem Slc.rds (hs : Slc es s n cs A) (ho : Own h (A ++ F)) : Rds h es s n cs := hs.sow.rds ho
theorem Slc.appL (hs : Slc es s n cs A) (ho : Own h (A ++ F)) (hes : 1 ≤ es) (hn : new.length = m * es) {bytes : Nat} (hb : (n + m) * bytes ≤ 140737488355328) :
    ∃ a c s' h' A', s = .slice a n c ∧ appendL h bytes es a n c m new = some (s', h') ∧ Slc es s' (n + m) (cs ++ new) A' ∧ Own h' (A' ++ F) := by
  cases hs with
  | nil =>
    refine ⟨none, 0, ?_⟩
    by_cases hm : m = 0
    · subst hm
      have : new = [] := List.eq_nil_of_length_eq_zero (by omega)
      subst this
      exact ⟨_, h, [], rfl, by simp [appendL, putCells, cond_ble], .nil, ho⟩
    · refine ⟨_, _, _, rfl, by simp only [appendL]; rw [cond_ble (by simpa using hb), cond_nble (by omega)]; rfl, Slc.mk (pre := []) (rest := []) rfl (by simp [hn]) (by simp [hn]), ?_⟩
      have := ho.new (.cells new false es)
      simpa using this
  | @mk' b off sp _ c pre _ rest hp hl hr =>
    subst hp
    refine ⟨some ⟨b, pre.length, sp⟩, c, ?_⟩
    have hg := ho.get (b, .cells (pre ++ (cs ++ rest)) false es) (by simp)
    by_cases hc : n + m ≤ c
    · have h1 : (n + m) * es ≤ c * es := Nat.mul_le_mul_right es hc
      rw [Nat.add_mul] at h1
      have hlen : pre.length + n * es + new.length ≤ (pre ++ (cs ++ rest)).length := by simp; omega
      refine ⟨.slice (some ⟨b, pre.length, sp⟩) (n + m) c, h.put b (.cells (pre ++ ((cs ++ new) ++ rest.drop new.length)) false es), _, rfl, ?_, Slc.mk' (rest := rest.drop new.length) rfl (by simp [hl, hn, Nat.add_mul]) ⟨fun _ => hc, by simp; rw [hn]; omega⟩, ?_⟩
      · simp only [appendL]
        rw [cond_ble hb, cond_ble hc]
        simp only [putCells]
        rw [writeCells_of hg hlen, writeAt_eq _ _ _ hlen]
        simp only [Option.map_some, Option.some.injEq, Prod.mk.injEq, true_and]
        congr 2
        rw [← hl]
        have e1 : (pre ++ (cs ++ rest)).take (pre.length + cs.length) = pre ++ cs := by
          rw [← List.append_assoc, ← List.length_append, List.take_left]
        have e2 : (pre ++ (cs ++ rest)).drop (pre.length + cs.length + new.length) = rest.drop new.length := by
          rw [← List.append_assoc, ← List.length_append, ← List.drop_drop, List.drop_left]
        rw [e1, e2]; simp
      · exact Own.put (F := F) ho _
    · have hread : readCells h b pre.length (n * es) = some cs := by
        rw [readCells_of hg (by simp; omega)]
        congr 1
        rw [List.drop_left, ← hl, List.take_left]
      have key : ∃ h1, letGo h ⟨b, pre.length, sp⟩ c es = some h1 ∧ Own h1 F ∧ h1.next = h.next := by
        cases sp with
        | some k => exact ⟨h, rfl, ho.tail, rfl⟩
        | none =>
          refine ⟨h.drop b, ?_, Own.drop (F := F) ho, rfl⟩
          simp only [letGo, hg]
          rw [Nat.beq_refl, Nat.ble_eq_true_of_le (by simp; omega)]
          rfl
      obtain ⟨h1, k1, k2, k3⟩ := key
      refine ⟨.slice (some ⟨h.next, 0, none⟩) (n + m) (n + m), h1.new (.cells (cs ++ new) false es), [(h.next, .cells ([] ++ ((cs ++ new) ++ [])) false es)], rfl, ?_, Slc.mk (pre := []) (rest := []) rfl (by simp [hl, hn, Nat.add_mul]) (by simp [hl, hn, Nat.add_mul]), ?_⟩
      · simp only [appendL]
        rw [cond_ble hb, cond_nble (by omega)]
        simp only [growCells, hread, k1, Option.bind_some, Option.map_some]
      · have := k2.new (.cells (cs ++ new) false es)
        rw [k3] at this
        simpa using this
theorem Slc.app (hs : Slc es s n cs A) (ho : Own h (A ++ F)) (hy : Rds h es y m new) (hes : 1 ≤ es) {bytes : Nat} (hb : (n + m) * bytes ≤ 140737488355328) :
    ∃ s' h' A', appendK h bytes es s y = some (s', h') ∧ Slc es s' (n + m) (cs ++ new) A' ∧ Own h' (A' ++ F) := by
  obtain ⟨b, c, rfl, hsrc⟩ := hy.src
  obtain ⟨a, c', s', h', A', rfl, h1, h2, h3⟩ := hs.appL ho hes hy.len hb
  exact ⟨s', h', A', by simp only [appendK, hsrc, Option.bind_some, h1], h2, h3⟩
theorem Sow.app {G : Ch} (hy : Sow es y m new G) (hs : Slc es s n cs A) (ho : Own h (A ++ (G ++ F))) (hes : 1 ≤ es) {bytes : Nat} (hb : (n + m) * bytes ≤ 140737488355328) :
    ∃ s' h' A', appendK h bytes es s y = some (s', h') ∧ Slc es s' (n + m) (cs ++ new) A' ∧ Own h' (A' ++ (G ++ F)) :=
  hs.app ho (hy h fun x hx => ho.get x (by simp [hx])) hes hb
theorem Slc.push (hs : Slc es s n cs A) (ho : Own h (A ++ F)) (hes : 1 ≤ es) (hn : new.length = es) {bytes : Nat} (hb : (n + 1) * bytes ≤ 140737488355328) :
    ∃ s' h' A', appendK (h.new (.cells new false es)) bytes es s (.slice (some ⟨h.next, 0, some 0⟩) 1 1) = some (s', h') ∧ Slc es s' (n + 1) (cs ++ new) A' ∧ Own h' (A' ++ F) := by
  have h1 : Own (h.new (.cells new false es)) ([(h.next, .cells ([] ++ (new ++ [])) false es)] ++ (A ++ F)) := by simpa using ho.new (.cells new false es)
  have hy : Slc es (.slice (some ⟨h.next, 0, some 0⟩) 1 1) 1 new [(h.next, .cells ([] ++ (new ++ [])) false es)] := .mk rfl (by simp [hn]) (by simp [hn])
  obtain ⟨s', h', A', e1, e2, e3⟩ := hs.app (F := F) (h1.to fun x => by simp only [cnt_append, cnt_cons, cnt_nil]; omega) (hy.rds h1) hes hb
  exact ⟨s', h', A', e1, e2, e3⟩
end
end Go.Proofs.YtdlfdieehioolaaDoor
