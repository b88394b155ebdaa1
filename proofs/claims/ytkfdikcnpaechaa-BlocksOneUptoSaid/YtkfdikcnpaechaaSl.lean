/- Slices of the abstract machine: what they hold, growing them, reading them. -/
import Derived.Test.YtkfdikcnpaechaaSim
namespace Go.Proofs.Ytkfdikcnpaechaa
open Go
set_option linter.unusedVariables false
set_option linter.unusedSimpArgs false
section
variable {self : Self} {n : Nat} {rd : Option Nat} {st : St} {tm : Tr Value} {H H' : Heap} {ds : List Nat} {es : Nat} {s y : Value} {cs new : List Value} {m : Nat} {fp : List Nat}

@[simp] theorem iz_length {k : IntKind} {L : List Int} : (iz k L).length = L.length := by simp [iz]
@[simp] theorem iz_nil {k : IntKind} : iz k [] = [] := rfl
@[simp] theorem iz_cons {k : IntKind} {z : Int} {L : List Int} : iz k (z :: L) = .int k z :: iz k L := rfl
@[simp] theorem iz_append {k : IntKind} {A B : List Int} : iz k (A ++ B) = iz k A ++ iz k B := by simp [iz]
theorem wrap_i64 {z : Int} (h0 : -9223372036854775808 ≤ z) (h1 : z < 9223372036854775808) : IntKind.i64.wrap z = z := by
  simp [IntKind.wrap, IntKind.bits, IntKind.signed]; split <;> omega
theorem wrap_u64 {z : Int} (h0 : 0 ≤ z) (h1 : z < 18446744073709551616) : IntKind.u64.wrap z = z := by
  simp [IntKind.wrap, IntKind.bits, IntKind.signed]; omega

/-- Past a run that is known to end. -/
theorem thru {α : Type} {X : Option (α × St)} {Q : α → St → Prop} {G : Option (α × St) → Prop} (h : ∃ e s', X = some (e, s') ∧ Q e s') (k : ∀ e s', Q e s' → G (some (e, s'))) : G X := by
  obtain ⟨e, s', rfl, hq⟩ := h; exact k e s' hq

/-- A loop: k counts down. -/
theorem loopN_inv {f : St → Option (AExit × St)} {I : Nat → St → Prop} {Q : AExit → St → Prop}
    (step : ∀ k s, I k s → ∃ e s', f s = some (e, s') ∧ ((e = .normal ∧ ∃ j, k = j + 1 ∧ I j s') ∨ (e ≠ .normal ∧ Q e s'))) :
    ∀ k s n, I k s → k < n → ∃ e s', loopN f n s = some (e, s') ∧ e ≠ .normal ∧ Q e s' := by
  intro k
  induction k with
  | zero =>
    intro s n hi hn
    obtain ⟨n, rfl⟩ : ∃ j, n = j + 1 := ⟨n - 1, by omega⟩
    obtain ⟨e, s', he, ⟨_, j, hj, _⟩ | ⟨h1, h2⟩⟩ := step 0 s hi
    · omega
    · refine ⟨e, s', ?_, h1, h2⟩
      rw [loopN_succ, he]
      cases e with
      | normal => exact absurd rfl h1
      | _ => rfl
  | succ k ih =>
    intro s n hi hn
    obtain ⟨n, rfl⟩ : ∃ j, n = j + 1 := ⟨n - 1, by omega⟩
    obtain ⟨e, s', he, ⟨rfl, j, hj, hi'⟩ | ⟨h1, h2⟩⟩ := step (k + 1) s hi
    · obtain rfl : k = j := by omega
      obtain ⟨e2, s2, h3, h4, h5⟩ := ih s' n hi' (by omega)
      exact ⟨e2, s2, by rw [loopN_succ, he, loopK_normal]; exact h3, h4, h5⟩
    · refine ⟨e, s', ?_, h1, h2⟩
      rw [loopN_succ, he]
      cases e with
      | normal => exact absurd rfl h1
      | _ => rfl

theorem Sl.len (h : Sl H es s n cs) : cs.length = n * es := by
  cases h with
  | empty => simp
  | full hb hl hr => exact hl
theorem Sl.form (h : Sl H es s n cs) : ∃ a c, s = .slice a n c := by
  cases h with
  | empty => exact ⟨_, _, rfl⟩
  | full hb hl hr => exact ⟨_, _, rfl⟩
theorem Sl.keep (h : Sl H es s n cs) (hk : ∀ b ∈ blk s, ∀ o, H.get b = some o → H'.get b = some o) : Sl H' es s n cs := by
  cases h with
  | empty => exact .empty
  | full hb hl hr => exact .full (hk _ (by simp [blk]) _ hb) hl hr
theorem Sl.fr (h : Sl H es s n cs) (f : Fr H H' fp) (hd : ∀ b ∈ blk s, b ∉ fp) : Sl H' es s n cs :=
  h.keep fun b hb o ho => f.keep b o ho (hd b hb)
theorem Sl.lt (h : Sl H es s n cs) (wf : WF H) : ∀ b ∈ blk s, b < H.next := by
  cases h with
  | empty => simp [blk]
  | full hb hl hr => intro b hm; simp only [blk, List.mem_singleton] at hm; subst hm; exact wf.lt hb
theorem Sl.here (h : Sl H es s n cs) : ∀ b ∈ blk s, H.get b ≠ none := by
  cases h with
  | empty => simp [blk]
  | full hb hl hr => intro b hm; simp only [blk, List.mem_singleton] at hm; subst hm; rw [hb]; simp
theorem Sl.cells (h : Sl H es s n cs) {b : Nat} (hb : b ∈ blk s) : ∃ xs, H.get b = some (.cells xs false es) := by
  cases h with
  | empty => simp [blk] at hb
  | full hb' hl hr => simp only [blk, List.mem_singleton] at hb; subst hb; exact ⟨_, hb'⟩
theorem Sl.not (h : Sl H es s n cs) {q : Nat} {o : AObj} (hq : H.get q = some o) (hno : ∀ xs ro, o ≠ .cells xs ro es) : q ∉ blk s := by
  intro hm
  obtain ⟨xs, hx⟩ := h.cells hm
  rw [hq] at hx; cases hx; exact hno _ _ rfl
theorem Sl.notin (h : Sl H es s n cs) {q : Nat} {xs : List Value} {ro : Bool} {es' : Nat} (hq : H.get q = some (.cells xs ro es')) (hne : es' ≠ es) : q ∉ blk s := by
  cases h with
  | empty => simp [blk]
  | full hb hl hr =>
    simp only [blk, List.mem_singleton]
    rintro rfl
    rw [hq] at hb; cases hb; exact hne rfl
theorem Sl.src (h : Sl H es y m new) : ∃ b c, y = .slice b m c ∧ srcCells H b (m * es) = some new := by
  cases h with
  | empty => exact ⟨none, 0, rfl, rfl⟩
  | full hb hl hr =>
    refine ⟨_, _, rfl, ?_⟩
    show readCells H _ 0 (m * es) = _
    rw [readCells_of hb (by simp; omega)]
    simp [← hl]

/-- What 'append' gives. -/
theorem Sl.append (h : Sl H es s n cs) (wf : WF H) (hes : 1 ≤ es) (hn : new.length = m * es) {bytes : Nat} (hb : (n + m) * bytes ≤ 140737488355328) :
    ∃ a c s' H', s = .slice a n c ∧ appendL H bytes es a n c m new = some (s', H') ∧ Sl H' es s' (n + m) (cs ++ new) ∧ Fr H H' (blk s) ∧ (∀ b ∈ blk s', b ∈ blk s ∨ H.next ≤ b) ∧ capOf s' ≤ max (capOf s) (n + m) := by
  cases h with
  | empty =>
    refine ⟨none, 0, ?_⟩
    by_cases hm : m = 0
    · subst hm
      have : new = [] := List.eq_nil_of_length_eq_zero (by omega)
      subst this
      exact ⟨_, _, rfl, by simp [appendL, putCells, cond_ble], .empty, Fr.refl wf _, by simp [blk], by simp⟩
    · refine ⟨_, _, rfl, by simp only [appendL]; rw [cond_ble (by simpa using hb), cond_nble (by omega)]; rfl, ?_, Fr.new wf _, ?_, by simp⟩
      · exact .full (rest := []) (by simp) (by simp [hn]) (by simp [hn])
      · intro b hm; simp only [blk, List.mem_singleton] at hm; subst hm; exact .inr (Nat.le_refl _)
  | @full b sp n' c cs' rest hget hl hr =>
    refine ⟨some ⟨b, 0, sp⟩, c, ?_⟩
    by_cases hc : n + m ≤ c
    · have hlen : n * es + new.length ≤ (cs ++ rest).length := by
        have : (n + m) * es ≤ c * es := Nat.mul_le_mul_right es hc
        rw [Nat.add_mul] at this
        simp; omega
      refine ⟨.slice (some ⟨b, 0, sp⟩) (n + m) c, H.put b (.cells ((cs ++ new) ++ rest.drop new.length) false es), rfl, ?_, ?_, Fr.put wf (by rw [hget]; simp) (by simp [blk]), by simp [blk], by simp; omega⟩
      · simp only [appendL]
        rw [cond_ble hb, cond_ble hc]
        simp only [putCells, Nat.zero_add]
        rw [writeCells_of hget hlen, writeAt_eq _ _ _ hlen]
        simp only [Option.map_some, Option.some.injEq, Prod.mk.injEq, true_and]
        congr 2
        rw [← hl]
        simp [List.take_append, List.drop_append, List.drop_eq_nil_of_le]
      · refine .full (rest := rest.drop new.length) (by simp) (by simp [hl, hn, Nat.add_mul]) ?_
        have : (n + m) * es ≤ c * es := Nat.mul_le_mul_right es hc
        rw [Nat.add_mul] at this
        simp; omega
    · have hread : readCells H b 0 (n * es) = some cs := by
        rw [readCells_of hget (by simp; omega)]; simp [← hl]
      have fin : ∀ H1, Fr H H1 [b] → H1.next = H.next → Sl (H1.new (.cells (cs ++ new) false es)) es (.slice (some ⟨H.next, 0, none⟩) (n + m) (n + m)) (n + m) (cs ++ new) := by
        intro H1 h1 hn1
        exact .full (rest := []) (by simp [hn1]) (by simp [hl, hn, Nat.add_mul]) (by simp [hl, hn, Nat.add_mul])
      have key : ∃ H1, letGo H ⟨b, 0, sp⟩ c es = some H1 ∧ Fr H H1 [b] ∧ H1.next = H.next := by
        cases sp with
        | some k => exact ⟨H, rfl, Fr.refl wf _, rfl⟩
        | none =>
          refine ⟨H.drop b, ?_, Fr.drop wf (by simp), rfl⟩
          simp only [letGo, hget]
          rw [Nat.beq_refl, Nat.ble_eq_true_of_le (by simp; omega)]
          rfl
      obtain ⟨H1, k1, k2, k3⟩ := key
      refine ⟨.slice (some ⟨H.next, 0, none⟩) (n + m) (n + m), H1.new (.cells (cs ++ new) false es), rfl, ?_, fin H1 k2 k3, ?_, ?_, by simp; omega⟩
      · simp only [appendL]
        rw [cond_ble hb, cond_nble (by omega)]
        simp only [growCells, hread, k1, Option.bind_some, Option.map_some]
      · refine k2.trans wf (Fr.new k2.wf []) (by simp [blk]) (by simp)
      · intro b' hm; simp only [blk, List.mem_singleton] at hm; subst hm; exact .inr (Nat.le_refl _)

theorem append_in {b c : Nat} {sp : Option Nat} {xs : List Value} {bytes : Nat} (hget : H.get b = some (.cells xs false es)) (hc : n + m ≤ c) (hlen : n * es + new.length ≤ xs.length) (hb : (n + m) * bytes ≤ 140737488355328) :
    appendL H bytes es (some ⟨b, 0, sp⟩) n c m new = some (.slice (some ⟨b, 0, sp⟩) (n + m) c, H.put b (.cells (xs.take (n * es) ++ new ++ xs.drop (n * es + new.length)) false es)) := by
  simp only [appendL]
  rw [cond_ble hb, cond_ble hc]
  simp only [putCells, Nat.zero_add]
  rw [writeCells_of hget hlen, writeAt_eq _ _ _ hlen]
  rfl

/-- 'append(s, y...)'. -/
theorem Sl.appendK (h : Sl H es s n cs) (hy : Sl H es y m new) (wf : WF H) (hes : 1 ≤ es) {bytes : Nat} (hb : (n + m) * bytes ≤ 140737488355328) :
    ∃ s' H', appendK H bytes es s y = some (s', H') ∧ Sl H' es s' (n + m) (cs ++ new) ∧ Fr H H' (blk s) ∧ (∀ b ∈ blk s', b ∈ blk s ∨ H.next ≤ b) ∧ capOf s' ≤ max (capOf s) (n + m) := by
  obtain ⟨b, c, rfl, hsrc⟩ := hy.src
  obtain ⟨a, c', s', H', rfl, h1, h2, h3, h4, h5⟩ := h.append wf hes hy.len hb
  exact ⟨s', H', by simp only [Go.Proofs.Ytkfdikcnpaechaa.appendK, hsrc, Option.bind_some, h1], h2, h3, h4, h5⟩

/-- 'append(s, x)': behind the row of one that the call makes. -/
theorem Sl.append1 (h : Sl H es s n cs) (wf : WF H) (hes : 1 ≤ es) (hn : new.length = es) {bytes : Nat} (hb : (n + 1) * bytes ≤ 140737488355328) :
    ∃ s' H', Go.Proofs.Ytkfdikcnpaechaa.appendK (H.new (.cells new false es)) bytes es s (.slice (some ⟨H.next, 0, some 0⟩) 1 1) = some (s', H') ∧ Sl H' es s' (n + 1) (cs ++ new) ∧ Fr H H' (blk s) ∧ (∀ b ∈ blk s', b ∈ blk s ∨ H.next ≤ b) ∧ capOf s' ≤ max (capOf s) (n + 1) := by
  have f := Fr.new (o := .cells new false es) wf []
  have h1 : Sl (H.new (.cells new false es)) es s n cs := h.fr f (by simp)
  have hy : Sl (H.new (.cells new false es)) es (.slice (some ⟨H.next, 0, some 0⟩) 1 1) 1 new := .full (rest := []) (by simp) (by simp [hn]) (by simp [hn])
  obtain ⟨s', H', e, h2, h3, h4, hcap⟩ := h1.appendK hy wf.new hes hb
  refine ⟨s', H', e, h2, f.trans wf h3 (by simp) fun r hr => .inl hr, fun b hb => ?_, hcap⟩
  rcases h4 b hb with h5 | h5
  · exact .inl h5
  · exact .inr (Nat.le_of_succ_le h5)
theorem Sl.ne_nil (h : Sl H es s n cs) (hn : 0 < n) : ∃ b sp c, s = .slice (some ⟨b, 0, sp⟩) n c := by
  cases h with
  | empty => cases hn
  | full hb hl hr => exact ⟨_, _, _, rfl⟩
theorem Sl.read {b c : Nat} {sp : Option Nat} (h : Sl H es (.slice (some ⟨b, 0, sp⟩) n c) n cs) {o k : Nat} (hi : o + k ≤ n * es) : readCells H b o k = some ((cs.drop o).take k) := by
  cases h with
  | full hb hl hr =>
    rw [readCells_of hb (by simp; omega), List.drop_append_of_le_length (by omega), List.take_append_of_le_length (by simp; omega)]
theorem iz_at {k : IntKind} {L : List Int} {i : Nat} {x : Int} (h : L[i]? = some x) : ((iz k L).drop i).take 1 = [.int k x] := by
  have hlt : i < L.length := (List.getElem?_eq_some_iff.1 h).1
  have he : L[i] = x := (List.getElem?_eq_some_iff.1 h).2
  rw [List.drop_eq_getElem_cons (by simpa using hlt)]
  simp [iz, he]

/-- A slice that is handed in: it is looked at only. -/
inductive InSl (H : Heap) (es : Nat) : Value → Nat → List Value → Prop
  | empty : InSl H es (.slice none 0 0) 0 []
  | full {b n : Nat} {cs : List Value} {ro : Bool} {e : Nat} (hb : H.get b = some (.cells cs ro e)) (hl : cs.length = n * es) : InSl H es (.slice (some ⟨b, 0, none⟩) n n) n cs
theorem InSl.fr (h : InSl H es s n cs) (f : Fr H H' []) : InSl H' es s n cs := by
  cases h with
  | empty => exact .empty
  | full hb hl => exact .full (f.keep _ _ hb (by simp)) hl
theorem InSl.form (h : InSl H es s n cs) : ∃ a c, s = .slice a n c := by
  cases h with
  | empty => exact ⟨_, _, rfl⟩
  | full hb hl => exact ⟨_, _, rfl⟩
theorem InSl.len (h : InSl H es s n cs) : cs.length = n * es := by
  cases h with
  | empty => simp
  | full hb hl => exact hl
theorem InSl.read (h : InSl H es s n cs) {i : Nat} (hi : i < n) : ∃ b, s = .slice (some ⟨b, 0, none⟩) n n ∧ ∀ o k, o + k ≤ n * es → readCells H b o k = some ((cs.drop o).take k) := by
  cases h with
  | empty => omega
  | full hb hl => exact ⟨_, rfl, fun o k hk => readCells_of hb (by omega)⟩

/-- A slice that can be read. -/
structure Rd (H : Heap) (es : Nat) (v : Value) (n : Nat) (cs : List Value) : Prop where
  form : ∃ a c, v = .slice a n c
  read : ∀ i, i < n → ∃ b sp c, v = .slice (some ⟨b, 0, sp⟩) n c ∧ ∀ o k, o + k ≤ n * es → readCells H b o k = some ((cs.drop o).take k)
  src : ∃ b c, v = .slice b n c ∧ srcCells H b (n * es) = some cs
  len : cs.length = n * es
  cap : 1 ≤ es → n ≤ capOf v
theorem Sl.toRd (h : Sl H es s n cs) : Rd H es s n cs := by
  refine ⟨h.form, fun i hi => ?_, h.src, h.len, fun he => ?_⟩
  rotate_left 1
  · cases h with
    | empty => exact Nat.le_refl _
    | @full _ _ _ c _ _ hb hl hr => exact Nat.le_of_mul_le_mul_right (by omega : n * es ≤ c * es) he
  obtain ⟨b, sp, c, rfl⟩ := h.ne_nil (by omega)
  exact ⟨b, sp, c, rfl, fun o k hk => h.read hk⟩
theorem InSl.toRd (h : InSl H es s n cs) : Rd H es s n cs := by
  refine ⟨h.form, fun i hi => ?_, ?_, h.len, fun _ => by cases h <;> exact Nat.le_refl _⟩
  · obtain ⟨b, rfl, hr⟩ := h.read hi
    exact ⟨b, none, n, rfl, hr⟩
  · cases h with
    | empty => exact ⟨none, 0, rfl, rfl⟩
    | full hb hl =>
      refine ⟨_, _, rfl, ?_⟩
      show readCells H _ 0 (n * es) = _
      rw [readCells_of hb (by omega)]
      simp [← hl]

/-- 'append(s, y...)', of whatever can be read. -/
theorem Sl.appendR (h : Sl H es s n cs) (hy : Rd H es y m new) (wf : WF H) (hes : 1 ≤ es) {bytes : Nat} (hb : (n + m) * bytes ≤ 140737488355328) :
    ∃ s' H', Go.Proofs.Ytkfdikcnpaechaa.appendK H bytes es s y = some (s', H') ∧ Sl H' es s' (n + m) (cs ++ new) ∧ Fr H H' (blk s) ∧ (∀ b ∈ blk s', b ∈ blk s ∨ H.next ≤ b) ∧ capOf s' ≤ max (capOf s) (n + m) := by
  obtain ⟨b, c, rfl, hsrc⟩ := hy.src
  obtain ⟨a, c', s', H', rfl, h1, h2, h3, h4, h5⟩ := h.append wf hes hy.len hb
  exact ⟨s', H', by simp only [Go.Proofs.Ytkfdikcnpaechaa.appendK, hsrc, Option.bind_some, h1], h2, h3, h4, h5⟩

/-- 'append(s, y...)', of whatever can be copied out. -/
theorem Sl.appendS (h : Sl H es s n cs) {b : Option Addr} {c : Nat} (hsrc : srcCells H b (m * es) = some new) (hlen : new.length = m * es) (wf : WF H) (hes : 1 ≤ es) {bytes : Nat} (hb : (n + m) * bytes ≤ 140737488355328) :
    ∃ s' H', Go.Proofs.Ytkfdikcnpaechaa.appendK H bytes es s (.slice b m c) = some (s', H') ∧ Sl H' es s' (n + m) (cs ++ new) ∧ Fr H H' (blk s) ∧ (∀ b ∈ blk s', b ∈ blk s ∨ H.next ≤ b) ∧ capOf s' ≤ max (capOf s) (n + m) := by
  obtain ⟨a, c', s', H', rfl, h1, h2, h3, h4, h5⟩ := h.append wf hes hlen hb
  exact ⟨s', H', by simp only [Go.Proofs.Ytkfdikcnpaechaa.appendK, hsrc, Option.bind_some, h1], h2, h3, h4, h5⟩

/-- One round of a range over a function. -/
theorem yield_go {T : Nat → Option AFun} {l : Nat} {args : List Value} {ps : List Nat} {as bd : AC} {e : AExit} {s1 s2 : St}
    (hl : H.get l = some (.loop tm ps as bd .ready none)) (hlen : args.length = ps.length) (ha : run (exec T n) n (some l) as ⟨setAll tm ps args, H, []⟩ = some (.normal, s1)) (h1 : s1.h.get l = some (.loop tm ps as bd .ready none))
    (hb : run (exec T n) n (some l) bd ⟨s1.tm, s1.h.put l (.loop tm ps as bd .busy none), s1.ds⟩ = some (e, s2)) (h2 : s2.h.get l = some (.loop tm ps as bd .busy none)) :
    exec T (n + 1) (.yield l) args H = (match e with
      | .normal => some (.bool true, s2.h.put l (.loop tm ps as bd .ready none))
      | e => some (.bool false, s2.h.put l (.loop tm ps as bd .done (some e)))) := by
  simp only [exec, hl, hlen, Nat.beq_refl, cond_true, ha, h1, hb, h2]
  cases e <;> rfl

/-- A range over a function, outermost. -/
theorem run_range {f : Operand} {ps : List Nat} {as bd : AC} {g : Nat} {fs cap : List Value} {v : Value} {H2 : Heap} {e : AExit} {st0 : LoopState} {pe : Option AExit}
    (hf : St.val tm f = .func (.func g) ⟨fs⟩ ⟨cap⟩)
    (hc : self (.fn g) (fs ++ [.func (.yield (H.next + 1)) #[] #[]] ++ cap) ((H.new .defr).new (.loop tm ps as bd .ready none)) = some (v, H2))
    (hl : ∃ tm' ps' as' bd', H2.get (H.next + 1) = some (.loop tm' ps' as' bd' st0 pe)) (he : (st0 = .ready ∧ pe = none ∧ e = .normal) ∨ (st0 = .done ∧ pe = some e)) :
    run self n none (.range f ps as bd) ⟨tm, H, ds⟩ = some (e, ⟨tm, H2.drop (H.next + 1), H.next :: ds⟩) := by
  obtain ⟨tm', ps', as', bd', hl⟩ := hl
  simp only [run, hf, openLoop, Heap.next_new]
  rw [hc]
  simp only [shutLoop, Heap.next_new, hl]
  rcases he with ⟨rfl, rfl, rfl⟩ | ⟨rfl, rfl⟩ <;> rfl
end
end Go.Proofs.Ytkfdikcnpaechaa
