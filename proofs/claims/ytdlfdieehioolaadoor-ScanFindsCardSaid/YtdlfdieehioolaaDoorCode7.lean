/- Code as a whole. -/
import Derived.Test.YtdlfdieehioolaaDoorCode6
import Derived.LoopNIn
import Derived.RangeFuncRecord
import Derived.RangeFuncNested
import Derived.RangeFuncLeaves
namespace Go.Proofs.YtdlfdieehioolaaDoor
open Go
set_option linter.unusedVariables false
set_option linter.unusedSimpArgs false
theorem stepR_scope {P : Program} {b : Frame} {a : Act} {k : List Item} {cs : List Frame} {w : World} {c : Code} : step P (lone (b.atR a (.code (.scope c) :: k)) cs w) = .next (lone (b.atR a (.code c :: .inScope c :: k)) cs w) :=
  step_lone_go (by simp [stepG, stepG.exec, Frame.atR])
theorem stepR_inScope {P : Program} {b : Frame} {a : Act} {k : List Item} {cs : List Frame} {w : World} {c : Code} : step P (lone (b.atR a (.inScope c :: k)) cs w) = .next (lone (b.atR a k) cs w) :=
  step_lone_go (by simp [stepG, stepG.exec, Frame.atR])
theorem wpIn_scope {F : Fence} {n : Nat} {P : Program} {Q : Exit → Act → World → Prop} {a : Act} {w : World} {c : Code} (h : c.wpIn F n P (fun e a w => (∀ l, e ≠ .goto l) ∧ Q e a w) a w) : (Code.scope c).wpIn F n P Q a w := by
  intro b k cs hro hb hr
  have h0 : (lone (b.atR a (.code (.scope c) :: k)) cs w).fenced P F := fenced_calm hb hr rfl
  obtain ⟨e, a₁, w₁, ⟨hg, hq⟩, harr⟩ := h b (.inScope c :: k) cs hro hb hr
  cases e with
  | normal => exact ⟨.normal, a₁, w₁, hq, .head h0 stepR_scope (StepsIn.trans harr (.one (fenced_calm hb hr rfl) stepR_inScope))⟩
  | exit id =>
    have hx : exitTo id (.inScope c :: k) = exitTo id k := by simp [exitTo]
    exact ⟨.exit id, a₁, w₁, hq, fun k' hk => .head h0 stepR_scope (harr.1 k' (by rw [hx]; exact hk)),
      fun hr' hk => let ⟨k₁, h1, h2⟩ := harr.2 hr' (by rw [hx]; exact hk); ⟨k₁, h1, .head h0 stepR_scope h2⟩⟩
  | goto l => exact absurd rfl (hg l)
  | ret => exact ⟨_, a₁, w₁, hq, .of_steps (.one h0 stepR_scope) harr⟩
  | panic ch => exact ⟨_, a₁, w₁, hq, .of_steps (.one h0 stepR_scope) harr⟩
  | outgrown => exact ⟨_, a₁, w₁, hq, .of_steps (.one h0 stepR_scope) harr⟩
def AExit.toExit : AExit → Exit
  | .normal => .normal
  | .exit id => .exit id
  | .ret => .ret
def RdOk (ι : Emb) (F : Fence) : Option Nat → Prop
  | none => F = Fence.wide
  | some l => ∃ b d e, ι l = some (b, d, e) ∧ F = Fence.wide.inRound b
theorem RdOk.mono {ι ι' : Emb} {F : Fence} {rd : Option Nat} (h : RdOk ι F rd) (hx : Ext ι ι') : RdOk ι' F rd := by
  cases rd with
  | none => exact h
  | some l => obtain ⟨b, d, e, h1, h2⟩ := h; exact ⟨b, d, e, hx _ _ h1, h2⟩
theorem RdOk.fok {ι : Emb} {F : Fence} {rd : Option Nat} (h : RdOk ι F rd) : FOk F := by
  cases rd with
  | none => exact .inl h
  | some l => obtain ⟨b, d, e, h1, h2⟩ := h; exact .inr ⟨b, h2⟩
theorem Step.kill {P : Program} {ι : Emb} {H : Heap} {w w' : World} (h : Sat P ι H w) {r : Nat} {o0 : AObj} {b d e : Nat}
    (hr : H.get r = some o0) (hw0 : o0.rw = true) (hx : ι r = some (b, d, e))
    (hk : ∀ k, k ≠ b → w'.heap[k]? = w.heap[k]?) (hz : w'.heap.size = w.heap.size) (ho : w'.os = w.os) (ht : w'.tape = w.tape) (hp : w'.output = w.output) :
    Step P ι H w ι (H.drop r) w' := by
  refine ⟨Ext.refl _, ⟨?_, ?_, ?_⟩, fun _ _ h => .inl h, Nat.le_refl _, ?_, Nat.le_of_eq hz.symm, ho, ht, hp, ?_, ?_⟩
  · intro k o hko
    rw [Heap.get_drop] at hko
    by_cases e1 : k = r
    · rw [if_pos e1] at hko; cases hko
    · rw [if_neg e1] at hko
      obtain ⟨b', d', e', c', h1, h2, h3⟩ := h.obj k o hko
      exact ⟨b', d', e', c', h1, (hk b' (h.apart r k o0 o _ _ hr hko (Ne.symm e1) hw0 hx h1).symm).trans h2, h3⟩
  · intro k k' o o' x x' hko hko' hne how hxk hxk'
    rw [Heap.get_drop] at hko hko'
    by_cases e1 : k = r
    · rw [if_pos e1] at hko; cases hko
    · rw [if_neg e1] at hko
      by_cases e2 : k' = r
      · rw [if_pos e2] at hko'; cases hko'
      · rw [if_neg e2] at hko'
        exact h.apart k k' o o' x x' hko hko' hne how hxk hxk'
  · exact h.fresh
  · intro b' hb' hf
    exact hk b' fun e1 => hf r o0 _ hr hw0 hx e1.symm
  · intro k o x hko hxk
    rw [Heap.get_drop] at hko
    by_cases e1 : k = r
    · rw [if_pos e1] at hko; cases hko
    · rw [if_neg e1] at hko; exact .inr ⟨k, o, x, hko, id, hxk, rfl⟩
  · intro k o hko _
    rw [Heap.get_drop] at hko
    by_cases e1 : k = r
    · rw [if_pos e1] at hko; cases hko
    · rw [if_neg e1] at hko; exact hko
theorem putObj_ne {w : World} {b k : Nat} {o : Obj} (h : k ≠ b) : (w.putObj b o).heap[k]? = w.heap[k]? := by
  simp [World.putObj, Array.getElem?_setIfInBounds_ne (Ne.symm h)]
theorem putObj_eq {w : World} {b : Nat} {o : Obj} {c : Obj} (h : w.heap[b]? = some c) : (w.putObj b o).heap[b]? = some o := by
  have := (Array.getElem?_eq_some_iff.1 h).1
  simp [World.putObj, Array.getElem?_setIfInBounds, this]
theorem putObj_size {w : World} {b : Nat} {o : Obj} : (w.putObj b o).heap.size = w.heap.size := by simp [World.putObj]
section
variable {P : Program} {N : Nat}
theorem bool_val {ι : Emb} {tm : Tr Value} {a : Act} {c : Operand} {t : Bool} (htm : ∀ t, VR ι ((tm.get t).getD undef) (a.tmps.getD t undef)) (h : St.val tm c = .bool t) : a.eval c = .bool t := by
  cases c with
  | tmp u =>
    have h1 := htm u
    have h2 : (tm.get u).getD undef = .bool t := h
    rw [h2] at h1
    show a.tmps.getD u undef = _
    generalize a.tmps.getD u undef = y at h1
    cases h1 with
    | val h => cases h with
      | cell h => cases h with
        | atom h => cases h; rfl
  | const v => exact h
  | global g => cases h
  | func f => cases h
theorem loopN_sound {F : Fence} {c : Code} {f : St → Option (AExit × St)} {Q : Exit → Act → World → Prop} {rd : Option Nat}
    (hb : ∀ (s : St) (e : AExit) (s' : St) (ι : Emb) (a : Act) (w : World) (Q : Exit → Act → World → Prop), f s = some (e, s') → ActR P ι N s a w → RdOk ι F rd →
      (∀ ι' a' w', Step P ι s.h w ι' s'.h w' → ActR P ι' N s' a' w' → Q e.toExit a' w') → c.wpIn F 0 P Q a w) :
    ∀ (k : Nat) (s : St) (e : AExit) (s' : St) (ι : Emb) (a : Act) (w : World), loopN f k s = some (e, s') → ActR P ι N s a w → RdOk ι F rd →
      (∀ ι' a' w', Step P ι s.h w ι' s'.h w' → ActR P ι' N s' a' w' → Q e.toExit a' w') → Code.roundsIn F 0 P c Q k a w := by
  intro k
  induction k with
  | zero => intro s e s' ι a w h; simp [loopN] at h
  | succ k ih =>
    intro s e s' ι a w h ha hrd hQ
    simp only [loopN] at h
    rw [roundsIn_succ]
    cases hf : f s with
    | none => simp [hf] at h
    | some r =>
      obtain ⟨e1, s1⟩ := r
      refine hb s e1 s1 ι a w _ hf ha hrd ?_
      intro ι' a' w' hst ha'
      cases e1 with
      | normal =>
        simp only [hf] at h
        exact ih s1 e s' ι' a' w' h ha' (hrd.mono hst.ext) fun ι2 a2 w2 hst2 ha2 => hQ ι2 a2 w2 (hst.trans hst2) ha2
      | exit id =>
        simp only [hf, Option.some.injEq, Prod.mk.injEq] at h
        obtain ⟨rfl, rfl⟩ := h
        exact hQ ι' a' w' hst ha'
      | ret =>
        simp only [hf, Option.some.injEq, Prod.mk.injEq] at h
        obtain ⟨rfl, rfl⟩ := h
        exact hQ ι' a' w' hst ha'
theorem fnval_inv {ι : Emb} {g : Nat} {first captured : Array Value} {v' : Value} (h : VR ι (.func (.func g) first captured) v') :
    ∃ f' c' : List Value, v' = .func (.func g) ⟨f'⟩ ⟨c'⟩ ∧ All2 (VR ι) first.toList f' ∧ All2 (VR ι) captured.toList c' := by
  cases h with
  | val h => cases h with
    | cell h => cases h with
      | atom h => cases h
      | fn g h1 h2 => exact ⟨_, _, rfl, h1.mono fun _ _ h => .atom h, h2.mono fun _ _ h => .atom h⟩
theorem range_core {self : Self} (hself : SelfOk P self) {F : Fence} (hF : FOk F) {g : Operand} {ps : Array Tmp} {as bd : Code} {xas xbd : AC} (has : compCode P N as = some xas) (hbd : compCode P N bd = some xbd)
    (hps : ∀ p ∈ ps.toList, p < N) {gg : Nat} {first captured : Array Value} {s s1 : St} {ι ι1 : Emb} {a : Act} {w w1 : World} {mark : List Deferred} {D : Nat} {rv : Value} {H2 : Heap} {e : AExit} {s' : St} {Q : Exit → Act → World → Prop}
    (hg : VR ι (.func (.func gg) first captured) (a.eval g))
    (htm : ∀ t, VR ι ((s.tm.get t).getD undef) (a.tmps.getD t undef)) (hasz : N ≤ a.tmps.size)
    (hent : ∀ fn, (Instr.enterLoop fn a.tmps ps as bd F.round).run P w = .ok (w1.heap.size, mark) (w1.alloc (.loop { state := .ready, pending := none, fn, tmps := a.tmps, params := ps, assign := as, body := bd, defers := D })))
    (st1 : Step P ι s.h w ι1 s1.h w1) (ha1 : ActR P ι1 N s1 { a with defers := mark ++ a.defers } w1)
    (hcall : self (.fn gg) (first.toList ++ [.func (.yield s1.h.next) #[] #[]] ++ captured.toList) (s1.h.new (.loop s.tm ps.toList xas xbd .ready none)) = some (rv, H2))
    (hshut : shutLoop s1 s1.h.next H2 = some (e, s'))
    (hQ : ∀ ι' a' w', Step P ι s.h w ι' s'.h w' → ActR P ι' N s' a' w' → Q e.toExit a' w') : (Code.rangeFunc g ps as bd).wpIn F 0 P Q a w := by
  refine wpIn_rangeFunc fun fn _ => ?_
  have hnone : ι1 s1.h.next = none := ha1.sat.none (Nat.le_refl _)
  let rec0 : Loop := { state := .ready, pending := none, fn := fn, tmps := a.tmps, params := ps, assign := as, body := bd, defers := D }
  let w2 := w1.alloc (.loop rec0)
  let ι2 := ι1.set s1.h.next (w1.heap.size, 0, 0)
  have hx1 : Ext ι ι1 := st1.ext
  have hx2 : Ext ι1 ι2 := Ext.set hnone
  have hobj : ObjR P ι2 (.loop s.tm ps.toList xas xbd .ready none) (.loop rec0) 0 0 :=
    ⟨rfl, fun t => ((htm t).mono hx1).mono hx2, rfl, ⟨N, hasz, hps, has, hbd⟩, trivial⟩
  have st2 : Step P ι1 s1.h w1 ι2 (s1.h.new (.loop s.tm ps.toList xas xbd .ready none)) w2 := Step.new ha1.sat _ _ 0 hnone hobj
  obtain ⟨f', c', hfe, hf1, hc1⟩ := fnval_inv hg
  have hargs : All2 (VR ι2) (first.toList ++ [.func (.yield s1.h.next) #[] #[]] ++ captured.toList) (f' ++ [.func (.yield w1.heap.size) #[] #[]] ++ c') :=
    ((hf1.mono fun _ _ h => (h.mono hx1).mono hx2).append (.cons (.atom (.yield (by simp [ι2, Emb.set]; exact ⟨rfl, rfl⟩))) .nil)).append (hc1.mono fun _ _ h => (h.mono hx1).mono hx2)
  obtain ⟨hob, hcalls⟩ := hself _ _ _ _ _ hcall ι2 w2 _ st2.sat ((ha1.glob).mono hx2) hargs
  refine ⟨w1.heap.size, mark, w2, { target := .fn (.func gg) ⟨c'⟩, args := ⟨f' ++ [.func (.yield w1.heap.size) #[] #[]]⟩ }, w2, gg, ⟨f' ++ [.func (.yield w1.heap.size) #[] #[]] ++ c'⟩, w2, hent fn, ?_, fun f' _ => hF.fn f', ?_, ?_, ?_⟩
  · have e1 : (⟨f'⟩ : Array Value) ++ #[Value.func (.yield w1.heap.size) #[] #[]] = ⟨f' ++ [.func (.yield w1.heap.size) #[] #[]]⟩ := by apply Array.ext'; simp
    have e2 : (#[Operand.const (.func (.yield w1.heap.size) #[] #[])].map a.eval) = #[Value.func (.yield w1.heap.size) #[] #[]] := by simp [Act.eval]
    simp only [resolve, hfe, Deferred.ofValue, e2, e1]
    rfl
  · have e1 : (⟨f' ++ [.func (.yield w1.heap.size) #[] #[]]⟩ : Array Value) ++ (⟨c'⟩ : Array Value) = ⟨f' ++ [.func (.yield w1.heap.size) #[] #[]] ++ c'⟩ := by apply Array.ext'; simp
    simp only [invoke, e1]
    exact run_callFunc hob
  · rw [hF.depth]; intro h; cases h
  · refine CallsIn.mono (hF.calls hcalls) ?_
    rintro en w3 ⟨v', ι3, rfl, _, st3⟩
    have hl3 : ι3 s1.h.next = some (w1.heap.size, 0, 0) := st3.ext _ _ (by simp [ι2, Emb.set])
    unfold shutLoop at hshut
    -- what the record says at the end
    have key : ∀ (tm' : Tr Value) (ps' : List Nat) (as' bd' : AC) (st : LoopState) (pe : Option AExit), H2.get s1.h.next = some (.loop tm' ps' as' bd' st pe) → ∃ r : Loop, w3.heap[w1.heap.size]? = some (.loop r) ∧ r.state = st ∧ pendR pe r.pending := by
      intro tm' ps' as' bd' st pe hget
      obtain ⟨b, d, e', c, k1, k2, k3⟩ := st3.sat.obj _ _ hget
      rw [hl3] at k1; cases k1
      cases c with
      | loop r => exact ⟨r, k2, k3.1, k3.2.2.2.2⟩
      | _ => exact k3.elim
    have fin : ∀ (r : Loop) (o0 : AObj), H2.get s1.h.next = some o0 → o0.rw = true → s' = { s1 with h := H2.drop s1.h.next } → Q e.toExit { a with defers := mark ++ a.defers } (w3.putObj w1.heap.size (.loop { r with state := .exhausted })) := by
      intro r o0 hget hrw hs'
      have st4 : Step P ι3 H2 w3 ι3 (H2.drop s1.h.next) (w3.putObj w1.heap.size (.loop { r with state := .exhausted })) :=
        Step.kill st3.sat hget hrw hl3 (fun k hk => putObj_ne hk) putObj_size rfl rfl rfl
      subst hs'
      have hst := (((st1.trans st2).trans st3).trans st4)
      have hx : Ext ι1 ι3 := hx2.trans st3.ext
      exact hQ ι3 _ _ hst ⟨fun t => (ha1.tm t).mono hx, ha1.size, DefR.mono hx ha1.ds, st4.sat, ha1.glob.mono hx⟩
    split at hshut
    · rename_i tm' ps' as' bd' hget
      obtain ⟨r, k1, k2, k3⟩ := key _ _ _ _ _ _ hget
      simp only [Option.some.injEq, Prod.mk.injEq] at hshut
      obtain ⟨rfl, rfl⟩ := hshut
      refine ⟨r.pending, _, run_endLoop k1 (by rw [k2]; nofun), ?_⟩
      have hp : r.pending = none := by
        cases hp : r.pending with
        | none => rfl
        | some c => rw [hp] at k3; exact k3.elim
      rw [hp]
      exact fin { r with pending := none } _ hget rfl rfl
    · rename_i tm' ps' as' bd' e' hget
      obtain ⟨r, k1, k2, k3⟩ := key _ _ _ _ _ _ hget
      simp only [Option.some.injEq, Prod.mk.injEq] at hshut
      obtain ⟨rfl, rfl⟩ := hshut
      refine ⟨r.pending, _, run_endLoop k1 (by rw [k2]; nofun), ?_⟩
      cases hp : r.pending with
      | none => rw [hp] at k3; cases e' <;> exact k3.elim
      | some c =>
        rw [hp] at k3
        have hfin := fin r _ hget rfl rfl
        simp only [hp] at hfin
        cases e' with
        | normal => cases c <;> exact k3.elim
        | ret => cases c <;> first | exact wpIn_ret hfin | exact k3.elim
        | exit i => cases c <;> first | (cases (show i = _ from k3); exact wpIn_exit hfin) | exact k3.elim
    · cases hshut
theorem run_sound {self : Self} (hself : SelfOk P self) (hm : P.follows .mixedOrders = true) (n : Nat) : ∀ (c : Code) (x : AC) (rd : Option Nat) (F : Fence), compCode P N c = some x →
    ∀ (s : St) (e : AExit) (s' : St) (ι : Emb) (a : Act) (w : World) (Q : Exit → Act → World → Prop), run self n rd x s = some (e, s') → ActR P ι N s a w → RdOk ι F rd →
      (∀ ι' a' w', Step P ι s.h w ι' s'.h w' → ActR P ι' N s' a' w' → Q e.toExit a' w') → c.wpIn F 0 P Q a w := by
  intro c
  induction c with
  | skip =>
    intro x rd F hc s e s' ι a w Q hr ha hrd hQ
    simp only [compCode, Option.some.injEq] at hc; subst hc
    simp only [run, Option.some.injEq, Prod.mk.injEq] at hr
    obtain ⟨rfl, rfl⟩ := hr
    exact wpIn_skip (hQ ι a w (Step.refl ha.sat) ha)
  | label l =>
    intro x rd F hc s e s' ι a w Q hr ha hrd hQ
    simp only [compCode, Option.some.injEq] at hc; subst hc
    simp only [run, Option.some.injEq, Prod.mk.injEq] at hr
    obtain ⟨rfl, rfl⟩ := hr
    exact wpIn_label (hQ ι a w (Step.refl ha.sat) ha)
  | exit id =>
    intro x rd F hc s e s' ι a w Q hr ha hrd hQ
    simp only [compCode, Option.some.injEq] at hc; subst hc
    simp only [run, Option.some.injEq, Prod.mk.injEq] at hr
    obtain ⟨rfl, rfl⟩ := hr
    exact wpIn_exit (hQ ι a w (Step.refl ha.sat) ha)
  | ret =>
    intro x rd F hc s e s' ι a w Q hr ha hrd hQ
    simp only [compCode, Option.some.injEq] at hc; subst hc
    simp only [run, Option.some.injEq, Prod.mk.injEq] at hr
    obtain ⟨rfl, rfl⟩ := hr
    exact wpIn_ret (hQ ι a w (Step.refl ha.sat) ha)
  | goto l =>
    intro x rd F hc s e s' ι a w Q hr ha hrd hQ
    simp only [compCode, Option.some.injEq] at hc; subst hc
    simp [run] at hr
  | refuse r =>
    intro x rd F hc s e s' ι a w Q hr ha hrd hQ
    simp only [compCode, Option.some.injEq] at hc; subst hc
    simp [run] at hr
  | scope c ih =>
    intro x rd F hc s e s' ι a w Q hr ha hrd hQ
    simp only [compCode] at hc
    exact wpIn_scope (ih x rd F hc s e s' ι a w _ hr ha hrd fun ι' a' w' h1 h2 => ⟨fun l h => (by cases e <;> cases h), hQ ι' a' w' h1 h2⟩)
  | region id ops draw =>
    intro x rd F hc s e s' ι a w Q hr ha hrd hQ
    cases draw with
    | false =>
      simp only [compCode] at hc
      cases hos : mapM? (compOper P N ops) ops.toList with
      | none =>
        simp only [hos, Option.some.injEq] at hc; subst hc
        simp [run] at hr
      | some os =>
      simp only [hos, Option.some.injEq] at hc; subst hc
      simp only [run] at hr
      cases hrr : opsRun self os s with
      | none => simp [hrr] at hr
      | some s1 =>
        simp only [hrr, Option.some.injEq, Prod.mk.injEq] at hr
        obtain ⟨rfl, rfl⟩ := hr
        refine wpIn_region ?_
        rw [List.range_eq_range']
        have := ops_sound (ops := ops) (Q := Q) hself hrd.fok ops.toList 0 os s s1 ι a w (fun j => by simp) hos hrr ha (fun ι' a' w' h1 h2 _ _ => hQ ι' a' w' h1 h2)
        simpa using this
    | true =>
      simp only [compCode] at hc
      cases hds : mapM? (fun p : Oper × Nat => doperOf P N ops (ancs ops) p.2 p.1) ops.toList.zipIdx with
      | none =>
        simp only [hds, Option.some.injEq] at hc; subst hc
        simp [run] at hr
      | some ds =>
      simp only [hds] at hc
      split at hc
      · rename_i hp
        simp only [Option.some.injEq] at hc; subst hc
        simp only [run] at hr
        cases hrr : dopsRun self (planGo ds ops.size [] []) s [] with
        | none => simp [hrr] at hr
        | some s1 =>
          simp only [hrr, Option.some.injEq, Prod.mk.injEq] at hr
          obtain ⟨rfl, rfl⟩ := hr
          exact draw_sound hself (planF_of hds hp) hrd.fok hm hrr ha (fun ι' a' w' h1 h2 _ _ => hQ ι' a' w' h1 h2)
      · simp only [Option.some.injEq] at hc; subst hc
        simp [run] at hr
  | seq c d ihc ihd =>
    intro x rd F hc s e s' ι a w Q hr ha hrd hQ
    simp only [compCode] at hc
    obtain ⟨xc, hxc, hc⟩ := bind_some hc
    obtain ⟨xd, hxd, hc⟩ := bind_some hc
    simp only [Option.some.injEq] at hc; subst hc
    simp only [run] at hr
    cases hf : run self n rd xc s with
    | none => simp [hf] at hr
    | some r =>
      obtain ⟨e1, s1⟩ := r
      refine wpIn_seq (ihc xc rd F hxc s e1 s1 ι a w _ hf ha hrd ?_)
      intro ι' a' w' hst ha'
      cases e1 with
      | normal =>
        simp only [hf] at hr
        exact ihd xd rd F hxd s1 e s' ι' a' w' Q hr ha' (hrd.mono hst.ext) fun ι2 a2 w2 hst2 ha2 => hQ ι2 a2 w2 (hst.trans hst2) ha2
      | exit id =>
        simp only [hf, Option.some.injEq, Prod.mk.injEq] at hr
        obtain ⟨rfl, rfl⟩ := hr
        exact hQ ι' a' w' hst ha'
      | ret =>
        simp only [hf, Option.some.injEq, Prod.mk.injEq] at hr
        obtain ⟨rfl, rfl⟩ := hr
        exact hQ ι' a' w' hst ha'
  | cond t c d ihc ihd =>
    intro x rd F hc s e s' ι a w Q hr ha hrd hQ
    simp only [compCode] at hc
    obtain ⟨xc, hxc, hc⟩ := bind_some hc
    obtain ⟨xd, hxd, hc⟩ := bind_some hc
    simp only [Option.some.injEq] at hc; subst hc
    simp only [run] at hr
    split at hr
    · rename_i ht
      exact wpIn_cond_true (bool_val ha.tm ht) (ihc xc rd F hxc s e s' ι a w Q hr ha hrd hQ)
    · rename_i ht
      exact wpIn_cond_false (bool_val ha.tm ht) (ihd xd rd F hxd s e s' ι a w Q hr ha hrd hQ)
    · cases hr
  | block id c ih =>
    intro x rd F hc s e s' ι a w Q hr ha hrd hQ
    simp only [compCode] at hc
    obtain ⟨xc, hxc, hc⟩ := bind_some hc
    simp only [Option.some.injEq] at hc; subst hc
    simp only [run] at hr
    cases hf : run self n rd xc s with
    | none => simp [hf] at hr
    | some r =>
      obtain ⟨e1, s1⟩ := r
      refine wpIn_block (ih xc rd F hxc s e1 s1 ι a w _ hf ha hrd ?_)
      intro ι' a' w' hst ha'
      cases e1 with
      | normal =>
        simp only [hf, Option.some.injEq, Prod.mk.injEq] at hr
        obtain ⟨rfl, rfl⟩ := hr
        exact hQ ι' a' w' hst ha'
      | exit id' =>
        simp only [hf] at hr
        show if id' = id then Q .normal a' w' else Q (.exit id') a' w'
        by_cases hid : id' = id
        · rw [if_pos hid]
          have : Nat.beq id' id = true := by rw [hid]; exact Nat.beq_refl id
          rw [this] at hr
          simp only [cond_true, Option.some.injEq, Prod.mk.injEq] at hr
          obtain ⟨rfl, rfl⟩ := hr
          exact hQ ι' a' w' hst ha'
        · rw [if_neg hid]
          have : Nat.beq id' id = false := by
            cases hb : Nat.beq id' id with
            | false => rfl
            | true => exact absurd (Nat.eq_of_beq_eq_true hb) hid
          rw [this] at hr
          simp only [cond_false, Option.some.injEq, Prod.mk.injEq] at hr
          obtain ⟨rfl, rfl⟩ := hr
          exact hQ ι' a' w' hst ha'
      | ret =>
        simp only [hf, Option.some.injEq, Prod.mk.injEq] at hr
        obtain ⟨rfl, rfl⟩ := hr
        exact hQ ι' a' w' hst ha'
  | loop c ih =>
    intro x rd F hc s e s' ι a w Q hr ha hrd hQ
    simp only [compCode] at hc
    obtain ⟨xc, hxc, hc⟩ := bind_some hc
    simp only [Option.some.injEq] at hc; subst hc
    simp only [run] at hr
    exact wpIn_loop_rounds n (loopN_sound (f := run self n rd xc) (fun s e s' ι a w Q => ih xc rd F hxc s e s' ι a w Q) n s e s' ι a w hr ha hrd hQ)
  | rangeFunc g ps as bd iha ihb =>
    intro x rd F hc s e s' ι a w Q hr ha hrd hQ
    simp only [compCode] at hc
    obtain ⟨xas, hxas, hc⟩ := bind_some hc
    obtain ⟨xbd, hxbd, hc⟩ := bind_some hc
    split at hc
    · rename_i hok
      simp only [Option.some.injEq] at hc; subst hc
      simp only [Bool.and_eq_true] at hok
      have hps : ∀ p ∈ ps.toList, p < N := fun p hp => Nat.le_of_ble_eq_true (List.all_eq_true.1 hok.1 p hp)
      simp only [run] at hr
      split at hr
      · rename_i gg first captured hfv
        have hg := opd_rel ha.tm ha.glob hok.2
        rw [hfv] at hg
        cases hop : openLoop rd s with
        | none => simp [hop] at hr
        | some s1 =>
          simp only [hop] at hr
          split at hr
          · rename_i rv H2 hcall
            cases rd with
            | none =>
              have hFw : F = Fence.wide := hrd
              subst hFw
              simp only [openLoop, Option.some.injEq] at hop
              subst hop
              have hnone : ι s.h.next = none := ha.sat.none (Nat.le_refl _)
              have st1 : Step P ι s.h w (ι.set s.h.next (w.heap.size, 0, 0)) (s.h.new .defr) (w.alloc (.deferred (some []))) := Step.new ha.sat .defr _ 0 hnone trivial
              refine range_core hself (.inl rfl) hxas hxbd hps (s1 := { s with h := s.h.new .defr, ds := s.h.next :: s.ds }) (w1 := w.alloc (.deferred (some []))) (D := w.heap.size) (mark := [{ target := .collected w.heap.size, args := #[] }]) hg ha.tm ha.size ?_ st1 ?_ hcall hr hQ
              · intro fn
                rw [World.size_alloc]
                exact run_enterLoop_outer fn a.tmps ps as bd
              · exact ⟨fun t => (ha.tm t).mono st1.ext, ha.size, .cons ⟨w.heap.size, 0, 0, by simp [Emb.set], rfl⟩ (DefR.mono st1.ext ha.ds), st1.sat, ha.glob.mono st1.ext⟩
            | some l0 =>
              obtain ⟨b0, d0, e0, hl0, hF⟩ := hrd
              subst hF
              simp only [openLoop] at hop
              split at hop
              · rename_i hget
                simp only [Option.some.injEq] at hop
                subst hop
                obtain ⟨b, d, e', c, k1, k2, k3⟩ := ha.sat.obj _ _ hget
                rw [hl0] at k1; cases k1
                cases c with
                | loop r0 =>
                  exact range_core hself (.inr ⟨b0, rfl⟩) hxas hxbd hps (s1 := s) (w1 := w) (D := r0.defers) (mark := []) hg ha.tm ha.size (fun fn => run_enterLoop_inner k2 fn a.tmps ps as bd) (Step.refl ha.sat) ha hcall hr hQ
                | _ => exact k3.elim
              · cases hop
          · cases hr
      · cases hr
    · cases hc
end
end Go.Proofs.YtdlfdieehioolaaDoor
