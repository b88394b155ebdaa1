/- A region whose order is drawn: the plan. -/
import Derived.Test.YtdlfdieehioolaaDoorCode2
namespace Go.Proofs.YtdlfdieehioolaaDoor
open Go
set_option linter.unusedVariables false
set_option linter.unusedSimpArgs false
theorem map_some {α β : Type} {x : Option α} {f : α → β} {b : β} (h : x.map f = some b) : ∃ a, x = some a ∧ f a = b := by
  cases x with
  | none => cases h
  | some a => exact ⟨a, rfl, by simpa using h⟩
theorem cond_some {α : Type} {c : Bool} {x : Option α} {y : α} (h : (bif c then x else none) = some y) : c = true ∧ x = some y := by
  cases c
  · cases h
  · exact ⟨rfl, h⟩
theorem small_shape {ev : Operand → Value} {H H' : Heap} {a : AOp} {v : Value} (hs : smallOp a = true) (h : aop ev H a = some (v, H')) : H' = H ∨ ∃ ob, H' = H.new ob := by
  cases a with
  | move x => simp only [aop] at h; cases h; exact .inl rfl
  | lenC n => simp only [aop] at h; cases h; exact .inl rfl
  | pick c a b => simp only [aop] at h; (repeat' split at h) <;> (first | (cases h; done) | (cases h; exact .inl rfl))
  | nilCheck x => simp only [aop] at h; (repeat' split at h) <;> (first | (cases h; done) | (cases h; exact .inl rfl))
  | conv k x => simp only [aop] at h; (repeat' split at h) <;> (first | (cases h; done) | (cases h; exact .inl rfl))
  | fieldAddr o x => simp only [aop] at h; (repeat' split at h) <;> (first | (cases h; done) | (cases h; exact .inl rfl))
  | extract x i => simp only [aop] at h; (repeat' split at h) <;> (first | (cases h; done) | (cases h; exact .inl rfl))
  | lenS x => simp only [aop] at h; (repeat' split at h) <;> (first | (cases h; done) | (cases h; exact .inl rfl))
  | lenStr x => simp only [aop] at h; (repeat' split at h) <;> (first | (cases h; done) | (cases h; exact .inl rfl))
  | lenM x => simp only [aop] at h; (repeat' split at h) <;> (first | (cases h; done) | (cases h; exact .inl rfl))
  | capS x => simp only [aop] at h; (repeat' split at h) <;> (first | (cases h; done) | (cases h; exact .inl rfl))
  | indexStr x i => simp only [aop] at h; (repeat' split at h) <;> (first | (cases h; done) | (cases h; exact .inl rfl))
  | lookup k z m key ok => simp only [aop] at h; (repeat' split at h) <;> (first | (cases h; done) | (cases h; exact .inl rfl))
  | alloc z => simp only [aop] at h; cases h; exact .inr ⟨_, rfl⟩
  | makeMap => simp only [aop] at h; cases h; exact .inr ⟨_, rfl⟩
  | box x => simp only [aop] at h; obtain ⟨_, h⟩ := cond_some h; cases h; exact .inr ⟨_, rfl⟩
  | makeFunc f x y => simp only [aop] at h; obtain ⟨_, h⟩ := cond_some h; cases h; exact .inl rfl
  | build z ps => simp only [aop] at h; obtain ⟨_, _, h⟩ := bind_some h; cases h; exact .inl rfl
  | buildSlice n e z ps => simp only [aop] at h; obtain ⟨_, _, h⟩ := bind_some h; cases h; exact .inr ⟨_, rfl⟩
  | load g s x =>
    simp only [aop] at h
    split at h
    · obtain ⟨_, _, h⟩ := bind_some h; obtain ⟨_, _, h⟩ := bind_some h; cases h; exact .inl rfl
    · cases h
  | bin op x y =>
    simp only [aop] at h
    split at h
    · obtain ⟨_, _, h⟩ := map_some h; cases h; exact .inl rfl
    · cases h
  | eqv g k x y => simp only [aop] at h; obtain ⟨_, _, h⟩ := map_some h; cases h; exact .inl rfl
  | un op x =>
    simp only [aop] at h
    split at h
    · obtain ⟨_, _, h⟩ := map_some h; cases h; exact .inl rfl
    · obtain ⟨_, _, h⟩ := map_some h; cases h; exact .inl rfl
    · cases h
  | idxSlice e x i =>
    simp only [aop] at h
    split at h
    · split at h
      · obtain ⟨_, h⟩ := cond_some h; cases h; exact .inl rfl
      · cases h
    · cases h
  | idxArr n e x i =>
    simp only [aop] at h
    split at h
    · split at h
      · obtain ⟨_, h⟩ := cond_some h; cases h; exact .inl rfl
      · cases h
    · cases h
  | slice e x lo hi mx =>
    simp only [aop] at h
    split at h
    · obtain ⟨_, _, h⟩ := bind_some h; split at h <;> (cases h; exact .inl rfl)
    · cases h
  | sliceArr n e x lo hi mx =>
    simp only [aop] at h
    split at h
    · split at h
      · obtain ⟨_, _, h⟩ := bind_some h; cases h; exact .inl rfl
      · cases h
    · cases h
  | field g o s x =>
    simp only [aop] at h
    split at h
    · obtain ⟨_, h⟩ := cond_some h; obtain ⟨_, _, h⟩ := map_some h; cases h; exact .inl rfl
    · cases h
  | index g n e x i =>
    simp only [aop] at h
    split at h
    · split at h
      · obtain ⟨_, h⟩ := cond_some h; obtain ⟨_, _, h⟩ := map_some h; cases h; exact .inl rfl
      · cases h
    · cases h
  | minmax m xs =>
    simp only [aop] at h
    split at h
    · obtain ⟨_, _, h⟩ := bind_some h; cases h; exact .inl rfl
    · cases h
  | arrAt n x =>
    simp only [aop] at h
    split at h
    · obtain ⟨_, h⟩ := cond_some h; cases h; exact .inl rfl
    · cases h
  | makeSlice b e z l c =>
    simp only [aop] at h
    split at h
    · split at h
      · obtain ⟨_, h⟩ := cond_some h; cases h; exact .inr ⟨_, rfl⟩
      · cases h
    · cases h
  | toStr x =>
    simp only [aop] at h
    split at h
    · cases h; exact .inl rfl
    · split at h
      · split at h
        · cases h; exact .inl rfl
        · cases h
      · cases h
    · cases h
  | bins op x y =>
    simp only [aop] at h
    split at h
    · obtain ⟨_, _, h⟩ := map_some h; cases h; exact .inl rfl
    · cases h
  | _ => cases hs
theorem Heap.get_dropAll : ∀ (l : List Nat) (H : Heap) (r : Nat), (H.dropAll l).get r = if r ∈ l then none else H.get r := by
  intro l
  induction l with
  | nil => intro H r; simp [Heap.dropAll]
  | cons a l ih =>
    intro H r
    simp only [Heap.dropAll, ih, Heap.get_drop, List.mem_cons]
    by_cases h1 : r = a
    · simp [h1]
    · simp [h1]
@[simp] theorem Heap.next_dropAll : ∀ (l : List Nat) (H : Heap), (H.dropAll l).next = H.next := by
  intro l
  induction l with
  | nil => intro H; rfl
  | cons a l ih => intro H; simp [Heap.dropAll, ih]
theorem roOf_roOf (o : Option AObj) : (o.bind AObj.roOf).bind AObj.roOf = o.bind AObj.roOf := by
  cases o with
  | none => rfl
  | some o => cases o <;> rfl
theorem Heap.get_roAt (H : Heap) (r k : Nat) : (H.roAt r).get k = if k = r then (H.get r).bind AObj.roOf else H.get k := by
  unfold Heap.roAt
  cases h : H.get r with
  | none =>
    by_cases e : k = r
    · rw [if_pos e, e, h]; rfl
    · rw [if_neg e]
  | some o => exact Tr.get_set _ _ _ _
@[simp] theorem Heap.next_roAt (H : Heap) (r : Nat) : (H.roAt r).next = H.next := by
  unfold Heap.roAt; split <;> rfl
theorem Heap.get_roAll : ∀ (l : List Nat) (H : Heap) (k : Nat), (H.roAll l).get k = if k ∈ l then (H.get k).bind AObj.roOf else H.get k := by
  intro l
  induction l with
  | nil => intro H k; simp [Heap.roAll]
  | cons a l ih =>
    intro H k
    simp only [Heap.roAll, ih, Heap.get_roAt, List.mem_cons]
    by_cases h1 : k = a
    · subst h1
      by_cases h2 : k ∈ l
      · simp [h2, roOf_roOf]
      · simp [h2]
    · by_cases h2 : k ∈ l
      · simp [h1, h2]
      · simp [h1, h2]
@[simp] theorem Heap.next_roAll : ∀ (l : List Nat) (H : Heap), (H.roAll l).next = H.next := by
  intro l
  induction l with
  | nil => intro H; rfl
  | cons a l ih => intro H; simp [Heap.roAll, ih]
theorem Heap.get_putBack (H0 : Heap) : ∀ (l : List Nat) (H : Heap) (r : Nat), (H.putBack H0 l).get r = if r ∈ l then H0.get r else H.get r := by
  intro l
  induction l with
  | nil => intro H r; simp [Heap.putBack]
  | cons a l ih =>
    intro H r
    have : (H.putBack H0 (a :: l)).get r = if r = a then H0.get a else (H.putBack H0 l).get r := Tr.get_set _ _ _ _
    rw [this, ih]
    by_cases h1 : r = a
    · simp [h1]
    · simp [h1]
@[simp] theorem Heap.next_putBack (H0 : Heap) : ∀ (l : List Nat) (H : Heap), (H.putBack H0 l).next = H.next := by
  intro l
  induction l with
  | nil => intro H; rfl
  | cons a l ih => intro H; simp [Heap.putBack, ih]
/- ===== what a plan is ===== -/
structure PlanF (P : Program) (N : Nat) (ops : Array Oper) (ds : List DOper) : Prop where
  comp : ∀ d ∈ ds, ∃ o, ops[d.i]? = some o ∧ compOper P N ops o = some d.o
  all : ∀ i, i < ops.size → ∃ d ∈ ds, d.i = i
  direct : ∀ d ∈ ds, ∀ o, ops[d.i]? = some o → ∀ y ∈ directs o, y ∈ d.anc
  anc : ∀ d ∈ ds, ∀ o, ops[d.i]? = some o → ∀ a ∈ d.anc, a ∈ directs o ∨ ∃ y ∈ directs o, ∃ d' ∈ ds, d'.i = y ∧ a ∈ d'.anc
  order : ∀ (pre : List DOper) (d : DOper) (post : List DOper), ds = pre ++ d :: post → (∀ a ∈ d.anc, ∃ e ∈ pre, e.i = a) ∧ (∀ e ∈ pre, e.big = true → e.i ∈ d.anc) ∧ (∀ e ∈ pre, e.i ≠ d.i) ∧ d.i ∉ d.anc
  tmps : ∀ x ∈ ds, ∀ y ∈ ds, x.i ≠ y.i → ∀ t, dstOf ops y.i = some t → dstOf ops x.i ≠ some t ∧ (t ∈ readsTmp ops x.i → y.i ∈ x.anc ∨ (y.big = true ∧ x.i ∈ y.anc))
  own : ∀ x ∈ ds, ∀ t, dstOf ops x.i = some t → t ∉ readsTmp ops x.i
  small : ∀ x ∈ ds, x.big = false → smallOp x.o.op = true
  len : ds.length = ops.size
theorem planGo_mem {ops : List DOper} : ∀ (f : Nat) (done : List Nat) (acc : List DOper), (∀ d ∈ acc, d ∈ ops) → ∀ d ∈ planGo ops f done acc, d ∈ ops := by
  intro f
  induction f with
  | zero => intro done acc h d hd; exact h d (by simpa [planGo] using hd)
  | succ f ih =>
    intro done acc h d hd
    simp only [planGo] at hd
    split at hd
    · rename_i e he
      refine ih _ _ ?_ d hd
      intro x hx
      rcases List.mem_cons.1 hx with rfl | hx
      · exact (List.mem_filter.1 (List.mem_of_find?_eq_some he)).1
      · exact h x hx
    · split at hd
      · rename_i e es he
        refine ih _ _ ?_ d hd
        intro x hx
        rcases List.mem_cons.1 hx with rfl | hx
        · have : x ∈ ops.filter fun d => !done.contains d.i && d.anc.all done.contains := by rw [he]; exact List.mem_cons_self ..
          exact (List.mem_filter.1 this).1
        · exact h x hx
      · exact h d (by simpa using hd)
theorem order_of_fold : ∀ (ds : List DOper) (acc : List DOper) (b : Bool),
    (ds.foldl (fun (acc : Bool × List DOper) d =>
      (acc.1 && d.anc.all (fun a => acc.2.any fun e => Nat.beq e.i a) && acc.2.all (fun e => !e.big || d.anc.contains e.i) && !d.anc.contains d.i && !(acc.2.any fun e => Nat.beq e.i d.i), d :: acc.2)) (b, acc)).1 = true →
    b = true ∧ ∀ (pre : List DOper) (d : DOper) (post : List DOper), ds = pre ++ d :: post →
      (∀ a ∈ d.anc, ∃ e, (e ∈ pre ∨ e ∈ acc) ∧ e.i = a) ∧ (∀ e, e ∈ pre ∨ e ∈ acc → e.big = true → e.i ∈ d.anc) ∧ (∀ e, e ∈ pre ∨ e ∈ acc → e.i ≠ d.i) ∧ d.i ∉ d.anc := by
  intro ds
  induction ds with
  | nil => intro acc b h; exact ⟨h, fun pre d post hp => by simp at hp⟩
  | cons x ds ih =>
    intro acc b h
    simp only [List.foldl_cons] at h
    obtain ⟨h1, h2⟩ := ih _ _ h
    simp only [Bool.and_eq_true] at h1
    obtain ⟨⟨⟨⟨hb, c1⟩, c2⟩, c3⟩, c4⟩ := h1
    refine ⟨hb, ?_⟩
    intro pre d post hp
    cases pre with
    | nil =>
      simp only [List.nil_append, List.cons.injEq] at hp
      obtain ⟨rfl, rfl⟩ := hp
      refine ⟨?_, ?_, ?_, ?_⟩
      · intro a ha
        obtain ⟨e, he, hea⟩ := List.any_eq_true.1 (List.all_eq_true.1 c1 a ha)
        exact ⟨e, .inr he, Nat.eq_of_beq_eq_true hea⟩
      · intro e he hbig
        rcases he with he | he
        · cases he
        · have := List.all_eq_true.1 c2 e he
          rw [hbig] at this; simpa using this
      · intro e he heq
        rcases he with he | he
        · cases he
        · simp only [Bool.not_eq_true', List.any_eq_false] at c4
          exact c4 e he (by rw [heq]; simp)
      · simpa using c3
    | cons p pre =>
      simp only [List.cons_append, List.cons.injEq] at hp
      obtain ⟨rfl, rfl⟩ := hp
      obtain ⟨g1, g2, g3, g4⟩ := h2 pre d post rfl
      refine ⟨?_, ?_, ?_, g4⟩
      · intro a ha
        obtain ⟨e, he, hea⟩ := g1 a ha
        refine ⟨e, ?_, hea⟩
        rcases he with he | he
        · exact .inl (List.mem_cons_of_mem _ he)
        · rcases List.mem_cons.1 he with rfl | he
          · exact .inl (List.mem_cons_self ..)
          · exact .inr he
      · intro e he
        rcases he with he | he
        · rcases List.mem_cons.1 he with rfl | he
          · exact g2 e (.inr (List.mem_cons_self ..))
          · exact g2 e (.inl he)
        · exact g2 e (.inr (List.mem_cons_of_mem _ he))
      · intro e he
        rcases he with he | he
        · rcases List.mem_cons.1 he with rfl | he
          · exact g3 e (.inr (List.mem_cons_self ..))
          · exact g3 e (.inl he)
        · exact g3 e (.inr (List.mem_cons_of_mem _ he))
theorem doperOf_inv {P : Program} {N : Nat} {ops : Array Oper} {an : List (List Nat)} {i : Nat} {o : Oper} {d : DOper} (h : doperOf P N ops an i o = some d) : compOper P N ops o = some d.o ∧ d.i = i := by
  unfold doperOf at h
  obtain ⟨a, ha, h⟩ := bind_some h
  cases h
  exact ⟨ha, rfl⟩
theorem planF_of {P : Program} {N : Nat} {ops : Array Oper} {an : List (List Nat)} {ds : List DOper} (hds : mapM? (fun p : Oper × Nat => doperOf P N ops an p.2 p.1) ops.toList.zipIdx = some ds)
    {f : Nat} (hp : planOk ops (planGo ds f [] []) = true) : PlanF P N ops (planGo ds f [] []) := by
  have hmem := planGo_mem (ops := ds) f [] [] (fun d h => by cases h)
  generalize planGo ds f [] [] = pl at hp hmem ⊢
  unfold planOk at hp
  simp only [Bool.and_eq_true] at hp
  obtain ⟨⟨⟨⟨⟨⟨h1, h2⟩, h3⟩, h4⟩, h5⟩, h6⟩, h7⟩ := hp
  have hord := (order_of_fold pl [] true h4).2
  refine ⟨?_, ?_, ?_, ?_, ?_, ?_, ?_, ?_, Nat.eq_of_beq_eq_true h1⟩
  · intro d hd
    have hA := mapM?_all2 hds
    have key : ∀ {l : List (Oper × Nat)} {m : List DOper}, All2 (fun (p : Oper × Nat) d => doperOf P N ops an p.2 p.1 = some d) l m → ∀ d ∈ m, ∃ p ∈ l, doperOf P N ops an p.2 p.1 = some d := by
      intro l m h
      induction h with
      | nil => intro d hd; cases hd
      | cons hh _ ih =>
        intro d hd
        rcases List.mem_cons.1 hd with rfl | hd
        · exact ⟨_, List.mem_cons_self .., hh⟩
        · obtain ⟨p, hp, hq⟩ := ih d hd; exact ⟨p, List.mem_cons_of_mem _ hp, hq⟩
    obtain ⟨p, hp, hq⟩ := key hA d (hmem d hd)
    obtain ⟨hq1, hq2⟩ := doperOf_inv hq
    have hz := List.mem_zipIdx' hp
    refine ⟨p.1, ?_, hq1⟩
    rw [hq2, ← Array.getElem?_toList, List.getElem?_eq_getElem hz.1, ← hz.2]
  · intro i hi
    obtain ⟨d, hd, he⟩ := List.any_eq_true.1 (List.all_eq_true.1 h2 i (List.mem_range.2 hi))
    exact ⟨d, hd, Nat.eq_of_beq_eq_true he⟩
  · intro d hd o ho y hy
    have := List.all_eq_true.1 h3 d hd
    simp only [ho, Bool.and_eq_true] at this
    simpa using List.all_eq_true.1 this.1 y hy
  · intro d hd o ho a ha
    have := List.all_eq_true.1 h3 d hd
    simp only [ho, Bool.and_eq_true] at this
    have := List.all_eq_true.1 this.2 a ha
    simp only [Bool.or_eq_true] at this
    rcases this with h | h
    · exact .inl (by simpa using h)
    · obtain ⟨y, hy, h⟩ := List.any_eq_true.1 h
      obtain ⟨d', hd', h⟩ := List.any_eq_true.1 h
      simp only [Bool.and_eq_true] at h
      exact .inr ⟨y, hy, d', hd', Nat.eq_of_beq_eq_true h.1, by simpa using h.2⟩
  · intro pre d post hp
    obtain ⟨g1, g2, g3, g4⟩ := hord pre d post hp
    refine ⟨fun a ha => ?_, fun e he => g2 e (.inl he), fun e he => g3 e (.inl he), g4⟩
    obtain ⟨e, he, hea⟩ := g1 a ha
    rcases he with he | he
    · exact ⟨e, he, hea⟩
    · cases he
  · intro x hx y hy hne t ht
    have := List.all_eq_true.1 (List.all_eq_true.1 h5 x hx) y hy
    simp only [Bool.or_eq_true, ht, Bool.and_eq_true] at this
    rcases this with h | ⟨h, h'⟩
    · exact absurd (Nat.eq_of_beq_eq_true h) hne
    · constructor
      · intro hx'
        rw [hx'] at h
        simp at h
      · intro hr
        rcases h' with (h' | h') | h'
        · simp only [Bool.not_eq_true', List.contains_eq_mem, decide_eq_false_iff_not] at h'; exact absurd hr h'
        · exact .inl (by simpa using h')
        · exact .inr ⟨h'.1, by simpa using h'.2⟩
  · intro x hx t ht
    have := List.all_eq_true.1 h6 x hx
    rw [ht] at this
    simpa using this
  · intro x hx hb
    have := List.all_eq_true.1 h7 x hx
    rw [hb] at this
    simpa using this
end Go.Proofs.YtdlfdieehioolaaDoor
