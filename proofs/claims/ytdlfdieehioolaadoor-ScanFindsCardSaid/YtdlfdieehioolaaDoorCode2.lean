/- One operation within code; a region carried out in its order. -/
import Derived.Test.YtdlfdieehioolaaDoorCode1
namespace Go.Proofs.YtdlfdieehioolaaDoor
open Go
set_option linter.unusedVariables false
set_option linter.unusedSimpArgs false
def FOk (F : Fence) : Prop := F = Fence.wide ∨ ∃ l, F = Fence.wide.inRound l
theorem FOk.fn {F : Fence} (h : FOk F) (f : FuncId) : F.fn f := by
  rcases h with rfl | ⟨l, rfl⟩ <;> trivial
theorem FOk.depth {F : Fence} (h : FOk F) : F.depth = none := by
  rcases h with rfl | ⟨l, rfl⟩ <;> rfl
theorem FOk.calls {F : Fence} (h : FOk F) {P : Program} {f : FuncId} {args : Array Value} {w : World} {R : Ending → World → Prop} (hc : CallsIn Fence.wide 0 P f args w R) : CallsIn F 0 P f args w R := by
  rcases h with rfl | ⟨l, rfl⟩
  · exact hc
  · exact hc
theorem FOk.round {F : Fence} (h : FOk F) {P : Program} {l : Nat} {f : FuncId} {tmps : Array Value} {as bd : Code} {w : World} {R : Ending → World → Prop} (hc : RoundIn Fence.wide 0 P l f tmps as bd w R) : RoundIn F 0 P l f tmps as bd w R := by
  rcases h with rfl | ⟨l, rfl⟩
  · exact hc
  · exact hc
def RetPost (P : Program) (ι : Emb) (H : Heap) (w : World) (v : Value) (H' : Heap) (e : Ending) (w' : World) : Prop :=
  ∃ v' ι', e = .returned v' ∧ VR ι' v v' ∧ Step P ι H w ι' H' w'
def Glob (P : Program) (ι : Emb) : Prop := ∀ g, g < P.globals.size → ι g = some (g, 0, 0)
theorem Glob.mono {P : Program} {ι ι' : Emb} (h : Glob P ι) (hx : Ext ι ι') : Glob P ι' := fun g hg => hx _ _ (h g hg)
def SelfOk (P : Program) (self : Self) : Prop :=
  ∀ (tgt : Tgt) (args : List Value) (H : Heap) (v : Value) (H' : Heap), self tgt args H = some (v, H') → ∀ (ι : Emb) (w : World) (args' : List Value), Sat P ι H w → Glob P ι → All2 (VR ι) args args' →
    match tgt with
    | .fn f => oneBody P f = true ∧ CallsIn Fence.wide 0 P f ⟨args'⟩ w (RetPost P ι H w v H')
    | .yield l => ∀ b d e, ι l = some (b, d, e) → ∃ fn tmps assign body, (Instr.yield b ⟨args'⟩).run P w = .ok (.round b fn tmps assign body) w ∧ RoundIn Fence.wide 0 P b fn tmps assign body w (RetPost P ι H w v H')
section
variable {P : Program} {ι : Emb} {w : World}
theorem run_callFunc {f : Nat} {args : Array Value} (h : oneBody P f = true) : (callFunc f args).run P w = .ok (.enter f args) w := by
  unfold oneBody at h
  cases hf : P.funcs[f]? with
  | none => simp [hf] at h
  | some fn =>
    simp only [hf, Bool.and_eq_true, bne_iff_ne, ne_eq] at h
    have hb : fn.body.isNone = false := by
      cases hb : fn.body with
      | none => rw [hb] at h; simp at h
      | some _ => rfl
    simp [callFunc, hf, h.2]
    intro hn; rw [hn] at hb; cases hb
theorem All2.args {ev ρ : Operand → Value} : ∀ (l : List Operand), (∀ x ∈ l, VR ι (ev x) (ρ x)) → All2 (VR ι) (l.map ev) (l.map ρ) := by
  intro l
  induction l with
  | nil => intro _; exact .nil
  | cons a l ih => intro h; exact .cons (h a (List.mem_cons_self ..)) (ih fun x hx => h x (List.mem_cons_of_mem _ hx))
structure EvOk (P : Program) (ι : Emb) (ev ρ : Operand → Value) (xs : List Operand) : Prop where
  rel : ∀ x ∈ xs, VR ι (ev x) (ρ x)
  const : ∀ c, ρ (.const c) = c
  func : ∀ f, ρ (.func f) = .func (.func f) #[] #[]
theorem opRun_sound {self : Self} (hself : SelfOk P self) {o : Oper} {a : AOp} {ev : Operand → Value} {act : Act} {H H' : Heap} {v : Value} {F : Fence} (hF : FOk F)
    (hc : compOp P o.op = some a) (hcs : smallSrc o.op = true → smallOp a = true) (hs : Sat P ι H w) (hg : Glob P ι) (hev : EvOk P ι ev act.eval o.op.operands.toList)
    (he : opRun self ev H a = some (v, H')) {next : Act → World → Prop} {Q : Exit → Act → World → Prop}
    (hk : ∀ ι' v' w', VR ι' v v' → Step P ι H w ι' H' w' → next (act.put o.dst v') w') : o.wpIn F 0 P act w next Q := by
  refine ⟨fun f _ => hF.fn f, ?_⟩
  have hsem : o.semAt F.round act.eval = execOp act.eval o := by
    unfold Oper.semAt
    split
    · rename_i c hop; rw [hop] at hc; simp only [compOp] at hc; cases hc
    · rfl
  rw [hsem]
  obtain ⟨dst, op, ty, pos, after, guard⟩ := o
  simp only at hc hcs hev hk
  cases hcall : isCall a with
  | false =>
    have he' : aop ev H a = some (v, H') := by cases a <;> first | exact he | cases hcall
    obtain ⟨ι', v', w', h1, h2, h3⟩ := big_sound (dst := dst) (ty := ty) (pos := pos) (after := after) (guard := guard) hc hcall hcs hs he' hev.rel hev.const
    rcases h1 with h1 | ⟨h1, rfl⟩
    · rw [h1]; exact hk ι' v' w' h2 h3
    · rw [h1]; exact hk ι' _ w' h2 h3
  | true =>
    -- a call
    have hop : ∃ f args ts, op = .call ⟨.value f, args, ts⟩ := by
      cases op with
      | call c =>
        obtain ⟨callee, args, ts⟩ := c
        cases callee with
        | value f => exact ⟨f, args, ts, rfl⟩
        | invoke r m => simp only [compOp] at hc; cases hc
        | builtin b =>
          exfalso
          simp only [compOp] at hc
          unfold compBuiltin at hc
          (repeat' split at hc) <;> first
            | (cases hc; cases hcall; done)
            | (cases hc; done)
            | (obtain ⟨_, _, hc⟩ := bind_some hc
               first
               | (cases hc; cases hcall; done)
               | (obtain ⟨_, _, hc⟩ := bind_some hc
                  first
                  | (split at hc <;> cases hc; cases hcall; done)
                  | (obtain ⟨_, _, hc⟩ := bind_some hc
                     split at hc <;> cases hc; cases hcall))
               | (split at hc <;> cases hc; cases hcall; done))
      | store t x y =>
        simp only [compOp] at hc
        obtain ⟨s, hs', hc⟩ := bind_some hc
        cases hc; cases hcall
      | convert s d x =>
        simp only [compOp] at hc
        split at hc
        · cases hc; cases hcall
        · cases hf : fromBytes P s d with
          | true => rw [hf] at hc; cases hc; cases hcall
          | false =>
            rw [hf] at hc
            simp only [cond_false] at hc
            cases hf2 : intoBytes P s d with
            | true => rw [hf2] at hc; cases hc; cases hcall
            | false =>
              rw [hf2] at hc
              simp only [cond_false] at hc
              cases hf3 : sameBytes P s d with
              | true => rw [hf3] at hc; cases hc; cases hcall
              | false => rw [hf3] at hc; cases hc
      | range t x =>
        simp only [compOp] at hc
        split at hc
        · cases hc; cases hcall
        · cases hc
      | next x str =>
        cases str <;> simp only [compOp] at hc
        · cases hc; cases hcall
        · cases hc
      | mapUpdate t m k x =>
        simp only [compOp] at hc
        split at hc
        · obtain ⟨s, hs', hc⟩ := bind_some hc
          cases hc; cases hcall
        · cases hc
      | insert t m k x =>
        simp only [compOp] at hc
        split at hc
        · obtain ⟨s, hs', hc⟩ := bind_some hc
          cases hc; cases hcall
        · cases hc
      | _ =>
        exfalso
        have := hcs rfl
        cases a <;> first | (cases hcall; done) | (cases this; done)
    obtain ⟨f, args, ts, rfl⟩ := hop
    have hargs : All2 (VR ι) (args.toList.map ev) (args.toList.map act.eval) :=
      All2.args _ fun x hx => hev.rel x (by simp only [Op.operands, Call.operands, Array.toList_append, List.mem_append]; exact .inr hx)
    have hfv : VR ι (ev f) (act.eval f) := hev.rel f (by simp [Op.operands, Call.operands])
    have finish : ∀ (e : Ending) (w' : World), RetPost P ι H w v H' e w' → ∃ v', e = .returned v' ∧ next (act.put dst v') w' := by
      rintro e w' ⟨v', ι', rfl, h1, h2⟩
      exact ⟨v', rfl, hk ι' v' w' h1 h2⟩
    have hd0 : F.depth.isSome = true → 1 ≤ 0 := by rw [hF.depth]; intro h; cases h
    -- a function's value, called
    have callf : ∀ (g : Nat) (first captured first' captured' : List Value), act.eval f = .func (.func g) ⟨first'⟩ ⟨captured'⟩ → All2 (VR ι) first first' → All2 (VR ι) captured captured' →
        self (.fn g) (first ++ args.toList.map ev ++ captured) H = some (v, H') →
        Oper.uponIn F 0 P ⟨dst, .call ⟨.value f, args, ts⟩, ty, pos, after, guard⟩ act next Q ((execOp act.eval ⟨dst, .call ⟨.value f, args, ts⟩, ty, pos, after, guard⟩).run P w) := by
      intro g first captured first' captured' hfe h1 h2 hself1
      have hall := (h1.append hargs).append h2
      obtain ⟨hb, hcalls⟩ := hself _ _ _ _ _ hself1 ι w _ hs hg hall
      have hrun : (execOp act.eval ⟨dst, .call ⟨.value f, args, ts⟩, ty, pos, after, guard⟩).run P w = .ok (.enter g ⟨first' ++ args.toList.map act.eval ++ captured'⟩) w := by
        have e1 : (⟨first'⟩ : Array Value) ++ args.map act.eval ++ (⟨captured'⟩ : Array Value) = ⟨first' ++ args.toList.map act.eval ++ captured'⟩ := by
          apply Array.ext'; simp
        simp only [execOp, resolve, hfe, Deferred.ofValue, Sem.run_bind, Sem.run_pure, Result.andThen_ok, invoke]
        rw [e1]; exact run_callFunc hb
      rw [hrun]
      exact ⟨hd0, CallsIn.mono (hF.calls hcalls) fun e w' h => by
        obtain ⟨v', rfl, h9⟩ := finish e w' h
        exact h9⟩
    have callval : callVal self (ev f) (args.toList.map ev) H = some (v, H') →
        Oper.uponIn F 0 P ⟨dst, .call ⟨.value f, args, ts⟩, ty, pos, after, guard⟩ act next Q ((execOp act.eval ⟨dst, .call ⟨.value f, args, ts⟩, ty, pos, after, guard⟩).run P w) := by
      intro he
      unfold callVal at he
      cases hv : ev f with
      | func fn first captured =>
        rw [hv] at he hfv
        cases fn with
        | func g =>
          simp only at he
          generalize hw' : act.eval f = fv at hfv
          cases hfv with
          | val h => cases h with
            | cell h => cases h with
              | atom h => cases h
              | fn g h1 h2 =>
                exact callf g _ _ _ _ hw' (h1.mono fun _ _ h => .atom h) (h2.mono fun _ _ h => .atom h) he
        | yield l =>
          simp only at he
          generalize hw' : act.eval f = fv at hfv
          cases hfv with
          | val h => cases h with
            | cell h => cases h with
              | atom h => cases h with
                | @yield l b d e hb =>
                  obtain ⟨fn, tmps, as, bd, h1, h2⟩ := hself _ _ _ _ _ he ι w _ hs hg hargs b d e hb
                  have hrun : (execOp act.eval ⟨dst, .call ⟨.value f, args, ts⟩, ty, pos, after, guard⟩).run P w = .ok (.round b fn tmps as bd) w := by
                    have e1 : (#[] : Array Value) ++ args.map act.eval = ⟨args.toList.map act.eval⟩ := by apply Array.ext'; simp
                    simp only [execOp, resolve, hw', Deferred.ofValue, Sem.run_bind, Sem.run_pure, Result.andThen_ok, invoke]
                    rw [e1]; exact h1
                  rw [hrun]
                  exact ⟨hd0, RoundIn.mono (hF.round h2) fun e w' h => by
                    obtain ⟨v', rfl, h9⟩ := finish e w' h
                    exact h9⟩
        | _ => cases he
      | _ => rw [hv] at he; cases he
    cases f with
    | func g =>
      simp only [compOp] at hc
      split at hc
      · rename_i hb
        cases hc
        simp only [opRun] at he
        exact callf g [] [] [] [] (hev.func g) .nil .nil (by simpa using he)
      · cases hc
    | _ =>
      simp only [compOp] at hc
      cases hc
      simp only [opRun] at he
      exact callval he
end
/- ===== the frame ===== -/
def DefR (ι : Emb) (d : Nat) (x : Deferred) : Prop := ∃ b y e, ι d = some (b, y, e) ∧ x = { target := .collected b, args := #[] }
structure ActR (P : Program) (ι : Emb) (N : Nat) (s : St) (a : Act) (w : World) : Prop where
  tm : ∀ t, VR ι ((s.tm.get t).getD undef) (a.tmps.getD t undef)
  size : N ≤ a.tmps.size
  ds : All2 (DefR ι) s.ds a.defers
  sat : Sat P ι s.h w
  glob : Glob P ι
section
variable {P : Program} {ι : Emb} {w : World} {N : Nat}
theorem opd_rel {ι : Emb} {tm : Tr Value} {a : Act} {x : Operand} (htm : ∀ t, VR ι ((tm.get t).getD undef) (a.tmps.getD t undef)) (hg : Glob P ι) (hx : opdOk P x = true) : VR ι (St.val tm x) (a.eval x) := by
  cases x with
  | tmp t => exact htm t
  | const v => exact valOk_VR hx
  | global g =>
    have := hg g (Nat.le_of_ble_eq_true hx)
    exact .atom (.ptr 0 this)
  | func f => exact .val (.cell (.fn f .nil .nil))
theorem evOk {ι : Emb} {tm : Tr Value} {a : Act} {xs : List Operand} (htm : ∀ t, VR ι ((tm.get t).getD undef) (a.tmps.getD t undef)) (hg : Glob P ι) (hx : xs.all (opdOk P) = true) : EvOk P ι (St.val tm) a.eval xs :=
  ⟨fun x hm => opd_rel htm hg (List.all_eq_true.1 hx x hm), fun _ => rfl, fun _ => rfl⟩
theorem put_rel {ι : Emb} {tm : Tr Value} {a : Act} {dst : Option Tmp} {v v' : Value} (htm : ∀ t, VR ι ((tm.get t).getD undef) (a.tmps.getD t undef)) (hv : VR ι v v') (hd : dstOk a.tmps.size dst = true) :
    ∀ t, VR ι (((setDst tm dst v).get t).getD undef) ((a.put dst v').tmps.getD t undef) := by
  intro t
  cases dst with
  | none => exact htm t
  | some d =>
    simp only [setDst, Tr.get_set, Act.put]
    have hlt : d < a.tmps.size := Nat.le_of_ble_eq_true hd
    by_cases h : t = d
    · subst h; simp [hlt]; exact hv
    · rw [if_neg h]
      have := htm t
      simp [Array.getElem?_setIfInBounds_ne (Ne.symm h)] at this ⊢
      exact this
theorem put_size {a : Act} {dst : Option Tmp} {v : Value} : (a.put dst v).tmps.size = a.tmps.size := by
  cases dst <;> simp [Act.put]
theorem put_defers' {a : Act} {dst : Option Tmp} {v : Value} : (a.put dst v).defers = a.defers := by
  cases dst <;> rfl
theorem compOper_inv {ops : Array Oper} {o : Oper} {x : AOper} (h : compOper P N ops o = some x) : compOp P o.op = some x.op ∧ x.dst = o.dst ∧ dstOk N o.dst = true ∧ o.op.operands.toList.all (opdOk P) = true ∧
    (smallSrc o.op = true → smallOp x.op = true) ∧ (match o.guard with | none => x.guard = none | some (j, want) => ∃ t, (ops[j]?).bind (·.dst) = some t ∧ x.guard = some (t, want)) := by
  unfold compOper at h
  obtain ⟨a, ha, h⟩ := bind_some h
  split at h
  · cases h
  · rename_i hn
    simp only [not_or, Bool.not_eq_false, not_and] at hn
    cases hg : o.guard with
    | none =>
      rw [hg] at h; cases h
      exact ⟨ha, rfl, hn.1, hn.2.1, hn.2.2, rfl⟩
    | some g =>
      obtain ⟨j, want⟩ := g
      rw [hg] at h
      simp only at h
      cases hp : (ops[j]?).bind (·.dst) with
      | none => rw [hp] at h; cases h
      | some t =>
        rw [hp] at h
        cases h
        exact ⟨ha, rfl, hn.1, hn.2.1, hn.2.2, t, hp, rfl⟩
theorem dstOk_le {N M : Nat} {dst : Option Tmp} (h : dstOk N dst = true) (hle : N ≤ M) : dstOk M dst = true := by
  cases dst with
  | none => rfl
  | some d => exact Nat.ble_eq_true_of_le (Nat.le_trans (Nat.le_of_ble_eq_true h) hle)
theorem wanted_rel {ops : Array Oper} {o : Oper} {x : AOper} {tm : Tr Value} {a : Act} (h : compOper P N ops o = some x)
    (htm : ∀ t, x.guard.map (·.1) = some t → VR ι ((tm.get t).getD undef) (a.tmps.getD t undef)) : Region.wanted o (yielded ops a.tmps) = wantedA tm x.guard := by
  obtain ⟨_, _, _, _, _, hg⟩ := compOper_inv h
  unfold Region.wanted
  cases ho : o.guard with
  | none => rw [ho] at hg; simp only at hg; rw [hg]; rfl
  | some g =>
    obtain ⟨j, want⟩ := g
    rw [ho] at hg
    obtain ⟨t, h1, h2⟩ := hg
    rw [h2]
    have hr := htm t (by rw [h2]; rfl)
    simp only [wantedA, yielded, h1, Option.bind_some]
    cases hget : tm.get t with
    | none =>
      rw [hget] at hr
      simp only [Option.getD_none] at hr
      have : ∀ b, a.tmps[t]? ≠ some (.bool b) := by
        intro b hb
        have e : a.tmps.getD t undef = .bool b := by simp [hb]
        rw [e] at hr
        have := tuple_inv hr
        obtain ⟨_, h, _⟩ := this; cases h
      cases ht : a.tmps[t]? with
      | none => simp
      | some u => cases u <;> simp; exact absurd ht (this _)
    | some u =>
      rw [hget] at hr
      simp only [Option.getD_some] at hr
      cases u with
      | bool b =>
        have e := bool_inv hr
        have : a.tmps[t]? = some (.bool b) := by
          cases ht : a.tmps[t]? with
          | none => simp [ht] at e; cases e
          | some y => simp [ht] at e; rw [e]
        rw [this]; cases b <;> cases want <;> rfl
      | _ =>
        have : ∀ b, a.tmps[t]? ≠ some (.bool b) := by
          intro b hb
          have e : a.tmps.getD t undef = .bool b := by simp [hb]
          rw [e] at hr
          cases hr with
          | val h => cases h with
            | cell h => cases h with
              | atom h => cases h
        cases ht : a.tmps[t]? with
        | none => simp
        | some y => cases y <;> simp; exact absurd ht (this _)
theorem DefR.mono {ι ι' : Emb} (hx : Ext ι ι') {l : List Nat} {m : List Deferred} (h : All2 (DefR ι) l m) : All2 (DefR ι') l m :=
  h.mono fun _ _ ⟨b, y, e, h1, h2⟩ => ⟨b, y, e, hx _ _ h1, h2⟩
theorem ops_sound {self : Self} (hself : SelfOk P self) {F : Fence} (hF : FOk F) {ops : Array Oper} {Q : Exit → Act → World → Prop} : ∀ (l : List Oper) (k : Nat) (xs : List AOper) (s s' : St) (ι : Emb) (a : Act) (w : World),
    (∀ j, l[j]? = ops[k + j]?) → mapM? (compOper P N ops) l = some xs → opsRun self xs s = some s' → ActR P ι N s a w →
    (∀ ι' a' w', Step P ι s.h w ι' s'.h w' → ActR P ι' N s' a' w' → a'.tmps.size = a.tmps.size → a'.defers = a.defers → Q .normal a' w') →
    wpOpsIn F 0 P ops Q (List.range' k l.length) a w := by
  intro l
  induction l with
  | nil =>
    intro k xs s s' ι a w hl hm hr ha hQ
    simp [mapM?] at hm; subst hm
    simp [opsRun] at hr; subst hr
    simp only [List.length_nil, List.range'_zero, wpOpsIn]
    exact hQ ι a w (Step.refl ha.sat) ha rfl rfl
  | cons o l ih =>
    intro k xs s s' ι a w hl hm hr ha hQ
    have ho : ops[k]? = some o := by simpa using (hl 0).symm
    simp only [mapM?] at hm
    cases hc : compOper P N ops o with
    | none => simp [hc] at hm
    | some x =>
      cases hm' : mapM? (compOper P N ops) l with
      | none => simp [hc, hm'] at hm
      | some xs' =>
        simp only [hc, hm', Option.some.injEq] at hm; subst hm
        obtain ⟨c1, c2, c3, c4, c5, c6⟩ := compOper_inv hc
        simp only [opsRun] at hr
        cases hx : operRun self x s with
        | none => simp [hx] at hr
        | some s1 =>
          simp only [hx] at hr
          have hl' : ∀ j, l[j]? = ops[k + 1 + j]? := fun j => by have := hl (j + 1); simpa [Nat.add_assoc, Nat.add_comm 1 j] using this
          simp only [List.length_cons, List.range'_succ, wpOpsIn, ho]
          have hw := wanted_rel (ι := ι) (tm := s.tm) (a := a) hc (fun t _ => ha.tm t)
          rw [hw]
          have hd := dstOk_le c3 ha.size
          unfold operRun at hx
          cases hwa : wantedA s.tm x.guard with
          | true =>
            rw [hwa] at hx
            simp only [cond_true] at hx
            simp only [if_true]
            cases hop : opRun self (St.val s.tm) s.h x.op with
            | none => simp [hop] at hx
            | some r =>
              obtain ⟨v, H1⟩ := r
              simp only [hop, Option.some.injEq] at hx; subst hx
              refine opRun_sound hself hF c1 c5 ha.sat ha.glob (evOk ha.tm ha.glob c4) hop ?_
              intro ι' v' w' hv hst
              have ha' : ActR P ι' N { s with tm := setDst s.tm x.dst v, h := H1 } (a.put o.dst v') w' :=
                ⟨by rw [c2]; exact put_rel (fun t => (ha.tm t).mono hst.ext) hv hd, by rw [put_size]; exact ha.size, by rw [put_defers']; exact DefR.mono hst.ext ha.ds, hst.sat, ha.glob.mono hst.ext⟩
              refine ih (k + 1) xs' _ s' ι' _ w' hl' hm' hr ha' ?_
              intro ι2 a2 w2 hst2 ha2 hsz hdf
              exact hQ ι2 a2 w2 (hst.trans hst2) ha2 (hsz.trans put_size) (hdf.trans put_defers')
          | false =>
            rw [hwa] at hx
            simp only [cond_false, Option.some.injEq] at hx; subst hx
            simp only [Bool.false_eq_true, if_false]
            refine ⟨fun f _ => hF.fn f, ?_⟩
            have ha' : ActR P ι N { s with tm := setDst s.tm x.dst undef } (a.put o.dst undef) w :=
              ⟨by rw [c2]; exact put_rel ha.tm (VR.undef _) hd, by rw [put_size]; exact ha.size, by rw [put_defers']; exact ha.ds, ha.sat, ha.glob⟩
            refine ih (k + 1) xs' _ s' ι _ w hl' hm' hr ha' ?_
            intro ι2 a2 w2 hst2 ha2 hsz hdf
            exact hQ ι2 a2 w2 hst2 ha2 (hsz.trans put_size) (hdf.trans put_defers')
end
end Go.Proofs.YtdlfdieehioolaaDoor
