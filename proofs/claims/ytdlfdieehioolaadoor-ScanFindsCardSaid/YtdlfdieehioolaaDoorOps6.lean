/- The operations that make a block. -/
import Derived.Test.YtdlfdieehioolaaDoorOps5
namespace Go.Proofs.YtdlfdieehioolaaDoor
open Go
set_option linter.unusedVariables false
set_option linter.unusedSimpArgs false
/- ===== writing into a list ===== -/
theorem writeAt_length : ∀ (cs : List Value) (o : Nat) (vs : List Value), (writeAt cs o vs).length = cs.length := by
  intro cs
  induction cs with
  | nil => intro o vs; cases o <;> cases vs <;> simp [writeAt]
  | cons c cs ih =>
    intro o vs
    cases o with
    | zero => cases vs <;> simp [writeAt, ih]
    | succ o => simp [writeAt, ih]
theorem writeAt_get : ∀ (cs : List Value) (o : Nat) (vs : List Value) (i : Nat), o + vs.length ≤ cs.length →
    (writeAt cs o vs)[i]? = if o ≤ i ∧ i < o + vs.length then vs[i - o]? else cs[i]? := by
  intro cs
  induction cs with
  | nil =>
    intro o vs i h
    have h1 : o = 0 := by simp at h; omega
    have h2 : vs = [] := by cases vs with | nil => rfl | cons => simp at h
    subst h1; subst h2
    simp [writeAt]
  | cons c cs ih =>
    intro o vs i h
    cases o with
    | zero =>
      cases vs with
      | nil =>
        simp only [writeAt, List.length_nil, Nat.add_zero]
        rw [if_neg (by omega)]
      | cons v vs =>
        simp only [writeAt]
        cases i with
        | zero => simp
        | succ i =>
          simp only [List.getElem?_cons_succ]
          rw [ih 0 vs i (by simp at h; omega)]
          simp only [Nat.zero_add, Nat.zero_le, true_and, List.length_cons, Nat.sub_zero, List.getElem?_cons_succ, Nat.add_lt_add_iff_right]
    | succ o =>
      simp only [writeAt]
      cases i with
      | zero => simp
      | succ i =>
        simp only [List.getElem?_cons_succ]
        rw [ih o vs i (by simp at h; omega)]
        simp only [Nat.add_le_add_iff_right, Nat.succ_sub_succ]
        congr 1
        simp; omega
theorem All2.writeAt {R : Value → Value → Prop} {cs cs' vs vs' : List Value} (h : All2 R cs cs') (hv : All2 R vs vs') (o : Nat) (hl : o + vs.length ≤ cs.length) :
    All2 R (writeAt cs o vs) (Go.Proofs.YtdlfdieehioolaaDoor.writeAt cs' o vs') := by
  refine All2.of_get (by rw [writeAt_length, writeAt_length, h.length]) ?_
  intro i a b ha hb
  rw [writeAt_get _ _ _ _ hl] at ha
  rw [writeAt_get _ _ _ _ (by rw [← hv.length, ← h.length]; exact hl)] at hb
  rw [← hv.length] at hb
  split at ha
  · rename_i hc
    rw [if_pos hc] at hb
    obtain ⟨b', g1, g2⟩ := hv.get ha
    rw [hb] at g1; cases g1; exact g2
  · rename_i hc
    rw [if_neg hc] at hb
    obtain ⟨b', g1, g2⟩ := h.get ha
    rw [hb] at g1; cases g1; exact g2
theorem fold_writeAt : ∀ (vs : List Value) (off k : Nat) (cells : Array Value), off + k + vs.length ≤ cells.size →
    ((vs.zipIdx k).foldl (fun (cs : Array Value) (p : Value × Nat) => cs.setIfInBounds (off + p.2) p.1) cells).toList = writeAt cells.toList (off + k) vs := by
  intro vs
  induction vs with
  | nil =>
    intro off k cells h
    apply List.ext_getElem?
    intro i
    rw [writeAt_get _ _ _ _ (by simpa using h)]
    simp
    intro h1 h2; omega
  | cons v vs ih =>
    intro off k cells h
    simp only [List.zipIdx_cons, List.foldl_cons]
    rw [ih off (k + 1) _ (by simp at h ⊢; omega)]
    apply List.ext_getElem?
    intro i
    rw [writeAt_get _ _ _ _ (by simp at h ⊢; omega), writeAt_get _ _ _ _ (by simpa using h)]
    simp only [List.length_cons, Array.toList_setIfInBounds, List.getElem?_set, Array.length_toList]
    by_cases h1 : off + k = i
    · subst h1
      rw [if_neg (by omega), if_pos rfl, if_pos (by simp at h; omega), if_pos (by omega)]
      simp
    · by_cases h2 : off + k ≤ i ∧ i < off + k + (vs.length + 1)
      · rw [if_pos (by omega), if_pos h2, show i - (off + k) = (i - (off + (k + 1))) + 1 by omega]
        simp
      · rw [if_neg (by omega), if_neg h2, if_neg h1]
section
variable {P : Program} {ι : Emb} {H H' : Heap} {w : World} {ev ρ : Operand → Value} {v : Value} {dst : Option Tmp} {ty : TypeId} {pos : String} {after : Array Edge} {guard : Option (Nat × Bool)}
theorem fill_ok {place : Nat → Option (Nat × Nat)} : ∀ (ps : List (Nat × Operand)) (qs : List (Nat × Nat × Operand)) (cs cs' r : List Value),
    All2 (fun (p : Nat × Operand) (q : Nat × Nat × Operand) => place p.1 = some (q.1, q.2.1) ∧ q.2.2 = p.2 ∧ VR ι (ev p.2) (ρ p.2)) ps qs →
    All2 (CellR ι) cs cs' → fillL cs (qs.map fun q => (q.1, q.2.1, ev q.2.2)) = some r →
    ∃ r', Instr.fill place ⟨cs'⟩ (ps.map fun p => (p.1, ρ p.2)) = some ⟨r'⟩ ∧ All2 (CellR ι) r r' := by
  intro ps
  induction ps with
  | nil => intro qs cs cs' r h1 h2 h3; cases h1; simp [fillL] at h3; subst h3; exact ⟨cs', rfl, h2⟩
  | cons p ps ih =>
    intro qs cs cs' r h1 h2 h3
    cases h1 with
    | @cons _ q _ qs hq h1 =>
      obtain ⟨hp, hq2, hvr⟩ := hq
      obtain ⟨off, sz, x⟩ := q
      simp only at hp hq2
      subst hq2
      simp only [List.map_cons, fillL] at h3
      cases hc : (Nat.beq (cellsOf (ev p.2)).length sz && Nat.ble (off + sz) cs.length && (cellsOf (ev p.2)).all isCell) with
      | false => rw [hc] at h3; cases h3
      | true =>
        rw [hc] at h3
        simp only [cond_true] at h3
        simp only [Bool.and_eq_true] at hc
        obtain ⟨⟨c1, c2⟩, c3⟩ := hc
        have c1 := Nat.eq_of_beq_eq_true c1
        have c2 := Nat.le_of_ble_eq_true c2
        have hA := hvr.cells c3
        have hl := hA.length
        obtain ⟨r', g1, g2⟩ := ih qs _ (writeAt cs' off (cellsOf (ρ p.2))) r h1 (h2.writeAt hA off (by omega)) h3
        refine ⟨r', ?_, g2⟩
        simp only [List.map_cons, Instr.fill, hp]
        have s1 : (ρ p.2).cells.size = sz := by rw [← Array.length_toList, cellsOf_cells]; omega
        rw [if_neg (by simp [s1]; rw [← h2.length]; omega)]
        have := fold_writeAt (cellsOf (ρ p.2)) off 0 ⟨cs'⟩ (by simp; rw [← h2.length, ← hl]; omega)
        rw [← g1]
        congr 1
        apply Array.ext'
        rw [← Array.foldl_toList, Array.toList_zipIdx, cellsOf_cells]
        simpa using this
theorem mapM_run {α β : Type} {f : α → Sem β} {g : α → Option β} : ∀ (l : List α), (∀ a ∈ l, ∃ b, g a = some b ∧ (f a).run P w = .ok b w) →
    ∃ bs, (l.mapM f).run P w = .ok bs w ∧ l.map g = bs.map some := by
  intro l
  induction l with
  | nil => intro _; exact ⟨[], by simp, rfl⟩
  | cons a l ih =>
    intro h
    obtain ⟨b, h1, h2⟩ := h a (List.mem_cons_self ..)
    obtain ⟨bs, h3, h4⟩ := ih fun x hx => h x (List.mem_cons_of_mem _ hx)
    exact ⟨b :: bs, by simp [List.mapM_cons, h2, h3], by simp [h1, h4]⟩
theorem mapM?_all2 {α β : Type} {f : α → Option β} : ∀ {l : List α} {bs : List β}, mapM? f l = some bs → All2 (fun a b => f a = some b) l bs := by
  intro l
  induction l with
  | nil => intro bs h; simp [mapM?] at h; subst h; exact .nil
  | cons a l ih =>
    intro bs h
    simp only [mapM?] at h
    cases h1 : f a with
    | none => simp [h1] at h
    | some b =>
      cases h2 : mapM? f l with
      | none => simp [h1, h2] at h
      | some bs' => simp [h1, h2] at h; subst h; exact .cons h1 (ih h2)
theorem s_build_arr {t e : TypeId} {n s : Nat} {z : Value} {ps : Array (Nat × Operand)} (hz : zeroOf P t = some z) (hu : P.underlying t = some (.array n e)) (hs : szOf P e = some s)
    (he : aop ev H (.build z.cells.toList (ps.toList.map fun p => (p.1 * s, s, p.2))) = some (v, H')) (hx : ∀ p ∈ ps.toList, VR ι (ev p.2) (ρ p.2)) :
    Small P ι H w (execOp ρ ⟨dst, .build t ps, ty, pos, after, guard⟩) v H' := by
  simp only [aop] at he
  obtain ⟨cs, h1, h2⟩ := bind_some he
  cases h2
  have hA : All2 (fun (p : Nat × Operand) (q : Nat × Nat × Operand) => (fun i => some (i * s, s)) p.1 = some (q.1, q.2.1) ∧ q.2.2 = p.2 ∧ VR ι (ev p.2) (ρ p.2)) ps.toList (ps.toList.map fun p => (p.1 * s, s, p.2)) := by
    have : ∀ l : List (Nat × Operand), (∀ p ∈ l, VR ι (ev p.2) (ρ p.2)) → All2 (fun (p : Nat × Operand) (q : Nat × Nat × Operand) => (fun i => some (i * s, s)) p.1 = some (q.1, q.2.1) ∧ q.2.2 = p.2 ∧ VR ι (ev p.2) (ρ p.2)) l (l.map fun p => (p.1 * s, s, p.2)) := by
      intro l
      induction l with
      | nil => intro _; exact .nil
      | cons a l ih => intro h; exact .cons ⟨rfl, rfl, h a (List.mem_cons_self ..)⟩ (ih fun p hp => h p (List.mem_cons_of_mem _ hp))
    exact this _ hx
  obtain ⟨r', g1, g2⟩ := fill_ok (place := fun i => some (i * s, s)) (ρ := ρ) _ _ _ _ _ hA (valOk_cells (ι := ι) (zeroOf_ok hz)) h1
  refine .pure (v' := .agg ⟨r'⟩) ?_ (.val (.agg g2))
  have e1 : (ps.map fun p => (p.1, ρ p.2)).toList = ps.toList.map fun p => (p.1, ρ p.2) := by simp
  have e2 : z.cells = ⟨cellsOf z⟩ := rfl
  simp only [execOp, Instr.build, Sem.run_bind, r_zero hz, r_und hu, r_size hs, Result.andThen_ok]
  rw [e1, e2, g1]
  simp
theorem s_build_struct {t : TypeId} {fs : Array Field} {z : Value} {ps : Array (Nat × Operand)} {qs : List (Nat × Nat × Operand)} (hz : zeroOf P t = some z) (hu : P.underlying t = some (.struct fs))
    (hq : mapM? (partOf P fs) ps.toList = some qs) (hall : fs.toList.all (fun f => (szOf P f.type).isSome) = true)
    (he : aop ev H (.build z.cells.toList qs) = some (v, H')) (hx : ∀ p ∈ ps.toList, VR ι (ev p.2) (ρ p.2)) :
    Small P ι H w (execOp ρ ⟨dst, .build t ps, ty, pos, after, guard⟩) v H' := by
  simp only [aop] at he
  obtain ⟨cs, h1, h2⟩ := bind_some he
  cases h2
  obtain ⟨places, hp1, hp2⟩ := mapM_run (P := P) (w := w) (f := fun f : Field => do pure (f.offset, ← sizeOf f.type)) (g := fun f : Field => (szOf P f.type).map fun s => (f.offset, s)) fs.toList (by
    intro f hf
    have := List.all_eq_true.1 hall f hf
    obtain ⟨s, hs⟩ := Option.isSome_iff_exists.1 this
    exact ⟨(f.offset, s), by simp [hs], by simp [r_size hs]⟩)
  have hplace : ∀ (i : Nat) (f : Field) (s : Nat), fs[i]? = some f → szOf P f.type = some s → (⟨places⟩ : Array (Nat × Nat))[i]? = some (f.offset, s) := by
    intro i f s hf hs
    have : (fs.toList.map fun f : Field => (szOf P f.type).map fun s => (f.offset, s))[i]? = (places.map some)[i]? := by rw [hp2]
    rw [List.getElem?_map, List.getElem?_map, Array.getElem?_toList, hf] at this
    simp [hs] at this
    cases hpl : places[i]? with
    | none => simp [hpl] at this
    | some x => simp [hpl] at this; simp [hpl, this]
  have hA : All2 (fun (p : Nat × Operand) (q : Nat × Nat × Operand) => ((⟨places⟩ : Array (Nat × Nat))[·]?) p.1 = some (q.1, q.2.1) ∧ q.2.2 = p.2 ∧ VR ι (ev p.2) (ρ p.2)) ps.toList qs := by
    have key : ∀ (l : List (Nat × Operand)) (qs : List (Nat × Nat × Operand)), (∀ p ∈ l, VR ι (ev p.2) (ρ p.2)) →
        All2 (fun (p : Nat × Operand) q => partOf P fs p = some q) l qs →
        All2 (fun (p : Nat × Operand) (q : Nat × Nat × Operand) => ((⟨places⟩ : Array (Nat × Nat))[·]?) p.1 = some (q.1, q.2.1) ∧ q.2.2 = p.2 ∧ VR ι (ev p.2) (ρ p.2)) l qs := by
      intro l qs hl h
      induction h with
      | nil => exact .nil
      | @cons a b as bs hab _ ih =>
        unfold partOf at hab
        cases hf : fs[a.1]? with
        | none => simp [hf] at hab
        | some f =>
        cases hs : szOf P f.type with
        | none => simp [hf, hs] at hab
        | some s =>
        simp only [hf, hs, Option.some.injEq] at hab
        subst hab
        exact .cons ⟨hplace _ _ _ hf hs, rfl, hl a (List.mem_cons_self ..)⟩ (ih fun p hp => hl p (List.mem_cons_of_mem _ hp))
    exact key _ _ hx (mapM?_all2 hq)
  obtain ⟨r', g1, g2⟩ := fill_ok (place := ((⟨places⟩ : Array (Nat × Nat))[·]?)) (ρ := ρ) _ _ _ _ _ hA (valOk_cells (ι := ι) (zeroOf_ok hz)) h1
  refine .pure (v' := .agg ⟨r'⟩) ?_ (.val (.agg g2))
  have e1 : (ps.map fun p => (p.1, ρ p.2)).toList = ps.toList.map fun p => (p.1, ρ p.2) := by simp
  have e2 : z.cells = ⟨cellsOf z⟩ := rfl
  have e3 : (fs.mapM fun f : Field => do pure (f.offset, ← sizeOf f.type) : Sem (Array (Nat × Nat))).run P w = .ok ⟨places⟩ w := by
    rw [Array.mapM_eq_mapM_toList]
    simp only [Sem.run_map]
    rw [hp1]; rfl
  simp only [execOp, Instr.build, Sem.run_bind, r_zero hz, r_und hu, Result.andThen_ok]
  rw [e3]
  simp only [Result.andThen_ok]
  rw [e1, e2, g1]
  simp
/- ===== what is made ===== -/
theorem made_cells {ι2 : Emb} {cs cs' : List Value} {e : TypeId} {es : Nat} (h : All2 (CellR ι2) cs cs') : ObjR P ι2 (.cells cs false es) (.cells ⟨cs'⟩ e (0, 0)) 0 0 := by
  refine ⟨fun _ => .inl rfl, by simp [h.length], fun i v hi => ?_⟩
  obtain ⟨v', g1, g2⟩ := h.get hi
  exact ⟨v', by simpa using g1, g2⟩
theorem Small.made {s : Sem Next} {ob : AObj} {c : Obj} {e : Nat} {v v' : Value} (hs : s.run P w = .ok (.value v') (w.alloc c))
    (h : ∀ ι2, Ext ι ι2 → ι2 H.next = some (w.heap.size, 0, e) → VR ι2 v v' ∧ ObjR P ι2 ob c 0 e) (ho : ob.rw = true := by rfl) : Small P ι H w s v (H.new ob) :=
  .inr ⟨ob, c, e, ho, rfl, fun ι2 h1 h2 => ⟨v', .inl hs, (h ι2 h1 h2).1, (h ι2 h1 h2).2⟩⟩
theorem s_alloc {t : TypeId} {z : Value} (hz : zeroOf P t = some z) (he : aop ev H (.alloc z.cells.toList) = some (v, H')) :
    Small P ι H w (execOp ρ ⟨dst, .alloc t, ty, pos, after, guard⟩) v H' := by
  simp only [aop, Option.some.injEq, Prod.mk.injEq] at he
  obtain ⟨rfl, rfl⟩ := he
  refine .made (c := .cells z.cells t) (e := 0) (v' := .pointer (some ⟨w.heap.size, 0, none⟩)) ?_ ?_
  · simp [execOp, Instr.alloc, r_zero hz, newVar, newRow]
  · intro ι2 h1 h2
    exact ⟨.atom (.ptr 0 h2), made_cells (valOk_cells (zeroOf_ok hz))⟩
theorem s_box {t : TypeId} {x : Operand} (he : aop ev H (.box x) = some (v, H')) (hx : VR ι (ev x) (ρ x)) :
    Small P ι H w (execOp ρ ⟨dst, .box t x, ty, pos, after, guard⟩) v H' := by
  simp only [aop] at he
  cases hc : (cellsOf (ev x)).all isCell with
  | false => rw [hc] at he; cases he
  | true =>
    rw [hc] at he
    simp only [cond_true, Option.some.injEq, Prod.mk.injEq] at he
    obtain ⟨rfl, rfl⟩ := he
    refine .made (c := .cells (ρ x).cells t) (e := 0) (v' := .pointer (some ⟨w.heap.size, 0, none⟩)) ?_ ?_
    · simp [execOp, Instr.box, newVar, newRow]
    · intro ι2 h1 h2
      exact ⟨.atom (.ptr 0 h2), made_cells ((hx.mono h1).cells hc)⟩
theorem s_makeMap {t : TypeId} {r : Option Operand} (hr : r = none ∨ ∃ k e n i, P.underlying t = some (.map k e) ∧ r = some (.const (.int n i))) (hρ : ∀ c, ρ (.const c) = c) (he : aop ev H .makeMap = some (v, H')) :
    Small P ι H w (execOp ρ ⟨dst, .makeMap t r, ty, pos, after, guard⟩) v H' := by
  simp only [aop, Option.some.injEq, Prod.mk.injEq] at he
  obtain ⟨rfl, rfl⟩ := he
  refine .made (c := .map #[] 0) (e := 0) (v' := .map (some w.heap.size)) ?_ ?_
  · rcases hr with rfl | ⟨k, e, n, i, hu, rfl⟩
    · simp [execOp, Instr.makeMap]
    · simp [execOp, Instr.makeMap, r_und hu, asInt, asIntOf, hρ]
  · intro ι2 h1 h2
    exact ⟨.atom (.map h2), .nil⟩
theorem zeros_eq (z : List Value) (n s : Nat) (hz : z.length = s) (h1 : 1 ≤ s) : ((Array.range (n * s)).map fun i => (⟨z⟩ : Array Value)[i % (⟨z⟩ : Array Value).size]!).toList = (List.replicate n z).flatten := by
  simp only [Array.toList_map, Array.toList_range, List.size_toArray]
  induction n with
  | zero => simp
  | succ n ih =>
    rw [Nat.succ_mul, List.range_add, List.map_append, ih, List.replicate_succ', List.flatten_append]
    congr 1
    rw [List.map_map]
    apply List.ext_getElem?
    intro i
    simp only [List.getElem?_map, List.flatten_cons, List.flatten_nil, List.append_nil]
    by_cases hi : i < s
    · rw [List.getElem?_range hi]
      simp only [Option.map_some, Function.comp]
      have : (n * s + i) % z.length = i := by rw [hz, Nat.mul_comm, Nat.mul_add_mod]; exact Nat.mod_eq_of_lt hi
      rw [this]
      rw [getElem!_pos (⟨z⟩ : Array Value) i (by simp; omega)]
      simp [List.getElem?_eq_getElem (show i < z.length by omega)]
    · rw [List.getElem?_eq_none (by simp; omega), List.getElem?_eq_none (by omega)]; rfl
theorem flatten_self {z : List Value} (h : All2 (CellR ι) z z) (n : Nat) : All2 (CellR ι) (List.replicate n z).flatten (List.replicate n z).flatten := by
  induction n with
  | zero => exact .nil
  | succ n ih => simpa [List.replicate_succ] using h.append ih
theorem s_buildSlice {t e : TypeId} {n s : Nat} {z : Value} {ps : Array (Nat × Operand)} (hu : P.underlying t = some (.slice e)) (hs : szOf P e = some s) (hz : zeroOf P e = some z)
    (hn : n * s ≤ 16777216) (hl : z.cells.toList.length = s) (h1s : 1 ≤ s)
    (he : aop ev H (.buildSlice n s ((List.replicate n z.cells.toList).flatten) (ps.toList.map fun p => (p.1 * s, s, p.2))) = some (v, H')) (hx : ∀ p ∈ ps.toList, VR ι (ev p.2) (ρ p.2)) :
    Small P ι H w (execOp ρ ⟨dst, .buildSlice t n ps, ty, pos, after, guard⟩) v H' := by
  simp only [aop] at he
  obtain ⟨cs, h1, h2⟩ := bind_some he
  cases h2
  have hA : ∀ l : List (Nat × Operand), (∀ p ∈ l, VR ι (ev p.2) (ρ p.2)) → All2 (fun (p : Nat × Operand) (q : Nat × Nat × Operand) => (fun i => some (i * s, s)) p.1 = some (q.1, q.2.1) ∧ q.2.2 = p.2 ∧ VR ι (ev p.2) (ρ p.2)) l (l.map fun p => (p.1 * s, s, p.2)) := by
    intro l
    induction l with
    | nil => intro _; exact .nil
    | cons a l ih => intro h; exact .cons ⟨rfl, rfl, h a (List.mem_cons_self ..)⟩ (ih fun p hp => h p (List.mem_cons_of_mem _ hp))
  obtain ⟨r', g1, g2⟩ := fill_ok (place := fun i => some (i * s, s)) (ρ := ρ) _ _ _ _ _ (hA _ hx) (flatten_self (ι := ι) (valOk_cells (zeroOf_ok hz)) n) h1
  refine .made (c := .cells ⟨r'⟩ e) (e := 0) (v' := .slice (some ⟨w.heap.size, 0, none⟩) n n) ?_ ?_
  · have e1 : (ps.map fun p => (p.1, ρ p.2)).toList = ps.toList.map fun p => (p.1, ρ p.2) := by simp
    have e2 : z.cells = ⟨cellsOf z⟩ := rfl
    simp only [execOp, Instr.buildSlice, Sem.run_bind, r_und hu, r_size hs, Result.andThen_ok]
    rw [if_neg (by omega)]
    simp only [Sem.run_pure, Result.andThen_ok]
    by_cases h0 : n * s = 0
    · have hn0 : n = 0 := by
        rcases Nat.mul_eq_zero.1 h0 with h | h
        · exact h
        · omega
      subst hn0
      simp only [Nat.zero_mul, if_true, Sem.run_pure, Sem.run_bind, Result.andThen_ok]
      simp only [List.replicate_zero, List.flatten_nil] at g1
      have e4 : ((Array.range 0).map fun i => (#[] : Array Value)[i % (#[] : Array Value).size]!) = ⟨[]⟩ := by simp
      rw [e4, e1, g1]
      simp [newRow]
    · rw [if_neg h0]
      simp only [Sem.run_bind, r_zero hz, Result.andThen_ok, Sem.run_pure]
      have e3 : ((Array.range (n * s)).map fun i => z.cells[i % z.cells.size]!) = ⟨(List.replicate n (cellsOf z)).flatten⟩ := by
        apply Array.ext'
        rw [e2]; exact zeros_eq _ _ _ hl h1s
      rw [e3, e1, g1]
      simp [newRow]
  · intro ι2 h3 h4
    exact ⟨.atom (.slice 0 (some 0) n n ⟨_, _, none⟩ n h4 rfl (.inl rfl)), made_cells (g2.mono fun _ _ h => h.mono h3)⟩
theorem s_makeSlice {t e : TypeId} {s by_ : Nat} {z : Value} {lo co : Operand} (hu : P.underlying t = some (.slice e)) (hs : szOf P e = some s) (hz : zeroOf P e = some z) (hb : byOf P e = some by_)
    (hl : z.cells.toList.length = s) (h1s : 1 ≤ s) (he : aop ev H (.makeSlice by_ s z.cells.toList lo co) = some (v, H')) (hlo : VR ι (ev lo) (ρ lo)) (hco : VR ι (ev co) (ρ co)) :
    Small P ι H w (execOp ρ ⟨dst, .makeSlice t lo co, ty, pos, after, guard⟩) v H' := by
  simp only [aop] at he
  cases hvl : ev lo with
  | int jl l =>
    cases hvc : ev co with
    | int jc c =>
      simp only [hvl, hvc] at he hlo hco
      have el := int_inv hlo
      have ec := int_inv hco
      cases hwl : IntKind.i64.wrap l with
      | negSucc _ => simp [hwl] at he
      | ofNat l' =>
        cases hwc : IntKind.i64.wrap c with
        | negSucc _ => simp [hwl, hwc] at he
        | ofNat c' =>
          simp only [hwl, hwc] at he
          cases hb2 : Nat.ble l' c' && Nat.ble (c' * by_) 140737488355328 with
          | false => rw [hb2] at he; cases he
          | true =>
            rw [hb2] at he
            simp only [cond_true, Option.some.injEq, Prod.mk.injEq] at he
            obtain ⟨rfl, rfl⟩ := he
            simp only [Bool.and_eq_true] at hb2
            have k1 := Nat.le_of_ble_eq_true hb2.1
            have k2 := Nat.le_of_ble_eq_true hb2.2
            obtain ⟨i, hi, hib⟩ : ∃ i, P.info? e = some i ∧ i.bytes = by_ := by
              unfold byOf at hb
              cases hi : P.info? e with
              | none => simp [hi] at hb
              | some i => simp [hi] at hb; exact ⟨i, rfl, hb⟩
            refine .made (c := .cells ⟨(List.replicate c' (cellsOf z)).flatten⟩ e) (e := 0) (v' := .slice (some ⟨w.heap.size, 0, none⟩) l' c') ?_ ?_
            · have hcond : ¬ ((decide ((Int.ofNat c' : Int) < 0) || decide ((i.bytes : Int) * Int.ofNat c' > 2 ^ 48)) || decide ((Int.ofNat l' : Int) < 0) || decide ((Int.ofNat l' : Int) > Int.ofNat c')) = true := by
                have : (i.bytes : Int) * Int.ofNat c' ≤ 140737488355328 := by
                  rw [hib]
                  have h1 : ((by_ * c' : Nat) : Int) ≤ ((140737488355328 : Nat) : Int) := Int.ofNat_le.2 (by rw [Nat.mul_comm]; exact k2)
                  rw [Int.natCast_mul] at h1
                  exact h1
                simp only [Bool.or_eq_true, decide_eq_true_eq, not_or, Int.not_lt, gt_iff_lt]
                have a1 : (0 : Int) ≤ Int.ofNat c' := Int.natCast_nonneg c'
                have a2 : (0 : Int) ≤ Int.ofNat l' := Int.natCast_nonneg l'
                have a3 : (Int.ofNat l' : Int) ≤ Int.ofNat c' := Int.ofNat_le.2 k1
                exact ⟨⟨⟨a1, by omega⟩, a2⟩, a3⟩
              have e2 : z.cells = ⟨cellsOf z⟩ := rfl
              simp only [execOp, Instr.makeSlice, Sem.run_bind, r_und hu, Result.andThen_ok, el, ec, asInt, asIntOf, Sem.run_pure, r_info hi, hwl, hwc]
              rw [if_neg hcond]
              simp only [Sem.run_pure, Result.andThen_ok, run_askRoom, r_size hs, Int.ofNat_eq_natCast, Int.toNat_natCast, Sem.run_bind]
              by_cases h0 : c' * s = 0
              · have hn0 : c' = 0 := by
                  rcases Nat.mul_eq_zero.1 h0 with h | h
                  · exact h
                  · omega
                subst hn0
                have e4 : ((Array.range (0 * s)).map fun i => (#[] : Array Value)[i % (#[] : Array Value).size]!) = ⟨[]⟩ := by simp
                simp only [h0, if_true, Sem.run_bind, Sem.run_pure, Result.andThen_ok]
                rw [Nat.zero_mul] at e4
                rw [e4]
                simp [newRow]
              · rw [if_neg h0]
                simp only [Sem.run_bind, r_zero hz, Result.andThen_ok, Sem.run_pure]
                have e3 : ((Array.range (c' * s)).map fun i => z.cells[i % z.cells.size]!) = ⟨(List.replicate c' (cellsOf z)).flatten⟩ := by
                  apply Array.ext'
                  rw [e2]; exact zeros_eq _ _ _ hl h1s
                rw [e3]
                simp [newRow]
            · intro ι2 h3 h4
              exact ⟨.atom (.slice 0 (some 0) l' c' ⟨_, _, none⟩ c' h4 rfl (.inl rfl)), made_cells (flatten_self (valOk_cells (zeroOf_ok hz)) c')⟩
    | _ => simp [hvl, hvc] at he
  | _ => simp [hvl] at he
end
end Go.Proofs.YtdlfdieehioolaaDoor
