/- The whole abstract machine is sound. -/
import Derived.Test.YtdlfdieehioolaaDoorShadow
namespace Go.Proofs.YtdlfdieehioolaaDoor
open Go
set_option linter.unusedVariables false
set_option linter.unusedSimpArgs false
section
variable {P : Program} {ι : Emb}
theorem initTm_get : ∀ (args : List Value) (i : Nat) (tm : Tr Value) (t : Nat), (initTm i tm args).get t = if i ≤ t ∧ t < i + args.length then args[t - i]? else tm.get t := by
  intro args
  induction args with
  | nil => intro i tm t; simp only [initTm, List.length_nil, Nat.add_zero]; rw [if_neg]; omega
  | cons v args ih =>
    intro i tm t
    simp only [initTm, ih, List.length_cons, Tr.get_set]
    by_cases h1 : t = i
    · subst h1
      rw [if_neg (by omega), if_pos rfl, if_pos (by omega)]
      simp
    · by_cases h2 : i + 1 ≤ t ∧ t < i + 1 + args.length
      · rw [if_pos h2, if_pos (by omega)]
        have : t - i = (t - (i + 1)) + 1 := by omega
        rw [this, List.getElem?_cons_succ]
      · rw [if_neg h2, if_neg h1, if_neg (by omega)]
theorem init_rel {args args' : List Value} (h : All2 (VR ι) args args') (m t : Nat) :
    VR ι (((initTm 0 .nil args).get t).getD undef) (((⟨args'⟩ : Array Value) ++ Array.replicate m undef).getD t undef) := by
  rw [initTm_get]
  have hl := h.length
  by_cases ht : t < args.length
  · rw [if_pos (by omega)]
    obtain ⟨v, hv⟩ : ∃ v, args[t]? = some v := ⟨_, List.getElem?_eq_getElem ht⟩
    obtain ⟨v', hv', hr⟩ := h.get hv
    have e1 : ((⟨args'⟩ : Array Value) ++ Array.replicate m undef).getD t undef = v' := by
      have : ((⟨args'⟩ : Array Value) ++ Array.replicate m undef)[t]? = some v' := by
        rw [Array.getElem?_append_left (by simp; omega)]
        simpa using hv'
      rw [Array.getD_eq_getD_getElem?, this]; rfl
    rw [e1]; simp [hv]; exact hr
  · rw [if_neg (by omega)]
    have e1 : ((⟨args'⟩ : Array Value) ++ Array.replicate m undef).getD t undef = undef := by
      rw [Array.getD_eq_getD_getElem?, Array.getElem?_append_right (by simp; omega), Array.getElem?_replicate]
      split <;> rfl
    rw [e1]; simp [Tr.get]; exact VR.undef _
theorem setAll_rel {N : Nat} : ∀ (ps : List Nat) (args args' : List Value) (tm : Tr Value) (tmps : Array Value), (∀ t, VR ι ((tm.get t).getD undef) (tmps.getD t undef)) → All2 (VR ι) args args' → (∀ p ∈ ps, p < N) → N ≤ tmps.size →
    (∀ t, VR ι (((setAll tm ps args).get t).getD undef) (((ps.zip args').foldl (fun (tmps : Array Value) (x : Nat × Value) => tmps.setIfInBounds x.1 x.2) tmps).getD t undef)) ∧
    N ≤ ((ps.zip args').foldl (fun (tmps : Array Value) (x : Nat × Value) => tmps.setIfInBounds x.1 x.2) tmps).size := by
  intro ps
  induction ps with
  | nil => intro args args' tm tmps h _ _ hN; exact ⟨h, hN⟩
  | cons p ps ih =>
    intro args args' tm tmps h ha hp hN
    cases ha with
    | nil => exact ⟨h, hN⟩
    | @cons v v' vs vs' hv hvs =>
      simp only [setAll, List.zip_cons_cons, List.foldl_cons]
      refine ih vs vs' _ _ (fun t => ?_) hvs (fun q hq => hp q (List.mem_cons_of_mem _ hq)) (by simpa using hN)
      have hlt : p < tmps.size := Nat.lt_of_lt_of_le (hp p (List.mem_cons_self ..)) hN
      rw [Tr.get_set]
      by_cases e : t = p
      · subst e; simp [hlt]; exact hv
      · rw [if_neg e]
        have := h t
        simpa [Array.getElem?_setIfInBounds_ne (Ne.symm e)] using this
def readRes (tmps : Array Value) : ResultVar → Sem Value
  | .tmp t => pure (tmps.getD t undef)
  | .cell a t => do loadVar t (← asAddr (tmps.getD a undef))
theorem res_ok {H : Heap} {w : World} {tm : Tr Value} {tmps : Array Value} (hs : Sat P ι H w) (htm : ∀ t, VR ι ((tm.get t).getD undef) (tmps.getD t undef)) {r : ResultVar} {x : ARes} (hc : compRes P r = some x) {v : Value} (hv : resOf tm H x = some v) :
    ∃ v', (readRes tmps r).run P w = .ok v' w ∧ VR ι v v' := by
  cases r with
  | tmp t =>
    simp only [compRes, Option.some.injEq] at hc; subst hc
    simp only [resOf, Option.some.injEq] at hv; subst hv
    exact ⟨_, by simp [readRes], htm t⟩
  | cell a t =>
    simp only [compRes] at hc
    obtain ⟨g, hg, hc⟩ := bind_some hc
    obtain ⟨sz, hsz, hc⟩ := bind_some hc
    split at hc
    · rename_i h1
      simp only [Option.some.injEq] at hc; subst hc
      simp only [resOf] at hv
      have ha := htm a
      have hrr : readRes tmps (.cell a t) = (do loadVar t (← asAddr (tmps.getD a undef))) := rfl
      rw [hrr]
      generalize tmps.getD a undef = av at ha
      cases hp : (tm.get a).getD undef with
      | pointer p =>
        cases p with
        | none => simp [hp] at hv
        | some p =>
          rw [hp] at ha hv
          simp only at hv
          obtain ⟨hsp, b, d, e, hb, rfl⟩ := ptr_inv ha
          cases hcs : readCells H p.block p.off sz with
          | none => simp [hcs] at hv
          | some cs =>
            simp only [hcs] at hv
            obtain ⟨b', d', e', hb', hlen, cs', hA, hcell⟩ := readCells_ok hcs (hs.obj p.block)
            rw [hb] at hb'; cases hb'
            have hl' := loadL_ok hv hA (fun hgf => by
              rcases h1 with h1 | h1
              · rw [hgf] at h1; cases h1
              · rw [hlen]; exact h1)
            have hlen' : cs'.length = sz := hA.length.symm.trans hlen
            have key : ∀ v', (if g then v' = Value.agg ⟨cs'⟩ else cs' = [v']) → ((do loadVar t (← asAddr (.pointer (some ⟨b, d + p.off, none⟩)))) : Sem Value).run P w = .ok v' w := by
              intro v' hv'
              have := run_loadVar_of (P := P) (w := w) (a := ⟨b, d + p.off, none⟩) hg hsz hlen' (fun j v hj => by
                have := hcell j v hj
                unfold Addr.add; split
                · rename_i h0; subst h0; simpa using this
                · exact this) v' hv'
              have e0 : asAddr (.pointer (some ⟨b, d + p.off, none⟩)) = pure ⟨b, d + p.off, none⟩ := rfl
              simp only [e0, Sem.run_bind, Sem.run_pure, Result.andThen_ok, this]
            cases g with
            | true => exact ⟨.agg ⟨cs'⟩, key _ (by simp), by simpa using hl'⟩
            | false =>
              simp at hl'
              obtain ⟨x', e1, e2⟩ := hl'
              exact ⟨x', key x' (by simpa using e1), e2⟩
      | _ => simp [hp] at hv
    · cases hc
theorem results_list {H : Heap} {w : World} {tm : Tr Value} {tmps : Array Value} (hs : Sat P ι H w) (htm : ∀ t, VR ι ((tm.get t).getD undef) (tmps.getD t undef)) :
    ∀ (rs : List ResultVar) (xs : List ARes) (vs : List Value), mapM? (compRes P) rs = some xs → results? tm H xs = some vs →
    ∃ vs', (rs.mapM (readRes tmps)).run P w = .ok vs' w ∧ All2 (ValR ι) vs vs' := by
  intro rs
  induction rs with
  | nil => intro xs vs hm hr; simp [mapM?] at hm; subst hm; simp [results?] at hr; subst hr; exact ⟨[], by simp, .nil⟩
  | cons r rs ih =>
    intro xs vs hm hr
    simp only [mapM?] at hm
    cases hc : compRes P r with
    | none => simp [hc] at hm
    | some x =>
      cases hc2 : mapM? (compRes P) rs with
      | none => simp [hc, hc2] at hm
      | some xs' =>
        simp only [hc, hc2, Option.some.injEq] at hm; subst hm
        simp only [results?] at hr
        cases hv : resOf tm H x with
        | none => simp [hv] at hr
        | some v =>
          cases hvs : results? tm H xs' with
          | none => simp [hv, hvs] at hr
          | some vs1 =>
            simp only [hv, hvs] at hr
            cases ht : isTuple v with
            | true => rw [ht] at hr; cases hr
            | false =>
              rw [ht] at hr
              simp only [cond_false, Option.some.injEq] at hr; subst hr
              obtain ⟨v', h1, h2⟩ := res_ok hs htm hc hv
              obtain ⟨vs', h3, h4⟩ := ih xs' vs1 hc2 hvs
              refine ⟨v' :: vs', ?_, .cons (h2.valR fun ws e => by subst e; cases ht) h4⟩
              rw [List.mapM_cons]
              simp only [Sem.run_bind, h1, h3, Result.andThen_ok, Sem.run_pure]
theorem results_ok {fn : Func} {H : Heap} {w : World} {tm : Tr Value} {tmps : Array Value} (hs : Sat P ι H w) (htm : ∀ t, VR ι ((tm.get t).getD undef) (tmps.getD t undef))
    {xs : List ARes} {vs : List Value} (hm : mapM? (compRes P) fn.results.toList = some xs) (hr : results? tm H xs = some vs) : ∃ v', (results fn tmps).run P w = .ok v' w ∧ VR ι (endVal vs) v' := by
  obtain ⟨vs', h1, h2⟩ := results_list hs htm _ _ _ hm hr
  have e : (results fn tmps).run P w = .ok (if h : (⟨vs'⟩ : Array Value).size = 1 then (⟨vs'⟩ : Array Value)[0] else .tuple ⟨vs'⟩) w := by
    have e0 : results fn tmps = (do let vs ← fn.results.mapM (readRes tmps); pure (if h : vs.size = 1 then vs[0] else .tuple vs)) := by
      unfold results
      congr 1
    rw [e0, Array.mapM_eq_mapM_toList]
    simp only [Sem.run_bind, Sem.run_map, h1, Result.andThen_ok, Sem.run_pure]
  refine ⟨_, e, ?_⟩
  cases h2 with
  | nil => exact .tuple .nil
  | cons h t =>
    cases t with
    | nil => exact .val h
    | cons h' t' => exact .tuple (.cons h (.cons h' t'))
theorem leaves_ok {fn : Func} {tmps : Array Value} {R : Ending → World → Prop} {H' : Heap} : ∀ (ds : List Nat) (dfs : List Deferred) (H : Heap) (w : World), All2 (DefR ι) ds dfs → Sat P ι H w → takeAll ds H = some H' →
    (∀ w', Step P ι H w ι H' w' → LeavesIn Fence.wide 0 P fn tmps R [] .returning w') → LeavesInM Fence.wide 0 P fn tmps R dfs .returning w := by
  intro ds
  induction ds with
  | nil =>
    intro dfs H w ha hs ht hk
    cases ha
    simp only [takeAll, Option.some.injEq] at ht; subst ht
    exact hk w (Step.refl hs)
  | cons d ds ih =>
    intro dfs H w ha hs ht hk
    cases ha with
    | @cons _ x _ xs h1 h2 =>
      simp only [takeAll] at ht
      split at ht
      · rename_i hget
        obtain ⟨b, y, e, hb, rfl⟩ := h1
        obtain ⟨b', d', e', c, k1, k2, k3⟩ := hs.obj d _ hget
        rw [hb] at k1; cases k1
        have hc : c = .deferred (some []) := by
          cases c with
          | deferred l =>
            cases l with
            | none => exact k3.elim
            | some l => cases l with
              | nil => rfl
              | cons _ _ => exact k3.elim
          | _ => exact k3.elim
        subst hc
        have st : Step P ι H w ι (H.drop d) (w.putObj b (.deferred none)) := Step.kill hs hget rfl hb (fun k hk => putObj_ne hk) putObj_size rfl rfl rfl
        exact ⟨nofun, .inl ⟨b, _, rfl, run_takeDeferred k2, ih xs (H.drop d) _ h2 st.sat ht fun w' hst => hk w' (st.trans hst)⟩⟩
      · cases ht
end
def PrimOk (P : Program) (f : Nat) (p : Prim) : Prop :=
  ∀ (args : List Value) (H : Heap) (v : Value) (H' : Heap), p args H = some (v, H') → ∀ (ι : Emb) (w : World) (args' : List Value), Sat P ι H w → Glob P ι → All2 (VR ι) args args' → CallsIn Fence.wide 0 P f ⟨args'⟩ w (RetPost P ι H w v H')
def TOk (P : Program) (T : Nat → Option AFun) : Prop :=
  ∀ f af, T f = some af → oneBody P f = true ∧ ((∃ p, af.prim = some p ∧ PrimOk P f p) ∨ (af.prim = none ∧ ∃ fn, P.funcs[f]? = some fn ∧ (compFun P fn = some af ∨ ∃ af0, compFun P fn = some af0 ∧ af.results = af0.results ∧ af.body = shBody af0.body)))
theorem compFun_inv {P : Program} {fn : Func} {af : AFun} (h : compFun P fn = some af) : ∃ c, fn.body = some c ∧ compCode P fn.ntmps c = some af.body ∧ mapM? (compRes P) fn.results.toList = some af.results := by
  unfold compFun at h
  obtain ⟨c, h1, h⟩ := bind_some h
  obtain ⟨b, h2, h⟩ := bind_some h
  obtain ⟨rs, h3, h⟩ := bind_some h
  cases h
  exact ⟨c, h1, h2, h3⟩
theorem exec_sound {P : Program} {T : Nat → Option AFun} (hT : TOk P T) (hm : P.follows .mixedOrders = true) : ∀ n, SelfOk P (exec T n) := by
  intro n
  induction n with
  | zero => intro tgt args H v H' h; simp [exec] at h
  | succ n ih =>
    intro tgt args H v H' h ι w args' hs hg ha
    cases tgt with
    | fn f =>
      simp only [exec] at h
      cases hf : T f with
      | none => simp [hf] at h
      | some af =>
        obtain ⟨hone, ⟨p, hp, hpo⟩ | ⟨hp, fn, hfn, hcf0⟩⟩ := hT f af hf
        · simp only [hf, hp] at h
          exact ⟨hone, hpo args H v H' h ι w args' hs hg ha⟩
        refine ⟨hone, ?_⟩
        obtain ⟨c, x, hb, hcc, hres, hbody⟩ : ∃ c x, fn.body = some c ∧ compCode P fn.ntmps c = some x ∧ mapM? (compRes P) fn.results.toList = some af.results ∧ (af.body = x ∨ af.body = shBody x) := by
          rcases hcf0 with hcf | ⟨af0, hcf, e1, e2⟩
          · obtain ⟨c, hb, hcc, hres⟩ := compFun_inv hcf
            exact ⟨c, _, hb, hcc, hres, .inl rfl⟩
          · obtain ⟨c, hb, hcc, hres⟩ := compFun_inv hcf
            exact ⟨c, _, hb, hcc, e1 ▸ hres, .inr e2⟩
        simp only [hf, hp] at h
        have hact : ActR P ι fn.ntmps { tm := initTm 0 .nil args, h := H, ds := [] } { tmps := (⟨args'⟩ : Array Value) ++ Array.replicate (fn.ntmps - (⟨args'⟩ : Array Value).size) undef, defers := [] } w :=
          ⟨fun t => init_rel ha _ t, by simp; omega, .nil, hs, hg⟩
        refine callsIn_of_wp_marks hfn hb trivial ?_
        cases hr : run (exec T n) n none af.body { tm := initTm 0 .nil args, h := H, ds := [] } with
        | none => simp [hr] at h
        | some r =>
          obtain ⟨e, s⟩ := r
          simp only [hr] at h
          have go : ∀ (Q : Exit → Act → World → Prop), (∀ ι' a' w', Step P ι H w ι' s.h w' → ActR P ι' fn.ntmps s a' w' → Q e.toExit a' w') →
              c.wpIn Fence.wide 0 P Q { tmps := (⟨args'⟩ : Array Value) ++ Array.replicate (fn.ntmps - (⟨args'⟩ : Array Value).size) undef, defers := [] } w := by
            intro Q hQ
            rcases hbody with hbody | hbody
            · exact run_sound ih hm n c af.body none Fence.wide (hbody ▸ hcc) _ e s ι _ w _ hr hact rfl hQ
            · rw [hbody] at hr
              exact run_soundB ih hm n c x none Fence.wide hcc _ e s ι _ w _ hr hact rfl hQ
          refine go _ ?_
          intro ι' a' w' hst ha'
          have fin : endOf s af.results = some (v, H') → LeavesInM Fence.wide 0 P fn a'.tmps (RetPost P ι H w v H') a'.defers .returning w' := by
            intro he
            unfold endOf at he
            cases ht : takeAll s.ds s.h with
            | none => simp [ht] at he
            | some H1 =>
              simp only [ht] at he
              cases hrs : results? s.tm H1 af.results with
              | none => simp [hrs] at he
              | some vs =>
                simp only [hrs, Option.some.injEq, Prod.mk.injEq] at he
                obtain ⟨rfl, rfl⟩ := he
                refine leaves_ok s.ds a'.defers s.h w' ha'.ds ha'.sat ht ?_
                intro w2 hst2
                obtain ⟨v', k1, k2⟩ := results_ok (fn := fn) hst2.sat ha'.tm hres hrs
                exact ⟨v', k1, v', ι', rfl, k2, hst.trans hst2⟩
          cases e with
          | normal => exact fin h
          | ret => exact fin h
          | exit id => cases h
    | yield l =>
      intro b d e hl
      simp only [exec] at h
      split at h
      · rename_i tm ps as bd hget
        obtain ⟨b', d', e', c, k1, k2, k3⟩ := hs.obj l _ hget
        rw [hl] at k1; cases k1
        cases c with
        | loop r =>
          obtain ⟨q1, q2, q3, ⟨N, q4, q5, q6, q7⟩, q8⟩ := k3
          cases hlen : Nat.beq args.length ps.length with
          | false => rw [hlen] at h; cases h
          | true =>
            rw [hlen] at h
            simp only [cond_true] at h
            have hlen' := Nat.eq_of_beq_eq_true hlen
            have hsz : (⟨args'⟩ : Array Value).size = r.params.size := by
              have h1 := ha.length
              have h2 : r.params.size = ps.length := by rw [← q3]; simp
              simp; omega
            refine ⟨_, _, _, _, run_yield k2 hsz, ?_⟩
            have hfold : ((r.params.zip (⟨args'⟩ : Array Value)).foldl (fun (tmps : Array Value) (x : Nat × Value) => tmps.setIfInBounds x.1 x.2) r.tmps) = ((ps.zip args').foldl (fun (tmps : Array Value) (x : Nat × Value) => tmps.setIfInBounds x.1 x.2) r.tmps) := by
              rw [← Array.foldl_toList, Array.toList_zip, q3]
            have hset := setAll_rel (N := N) ps args args' tm r.tmps q2 ha q5 q4
            rw [← hfold] at hset
            cases hr1 : run (exec T n) n (some l) as { tm := setAll tm ps args, h := H, ds := [] } with
            | none => simp [hr1] at h
            | some x =>
              obtain ⟨e1, s1⟩ := x
              simp only [hr1] at h
              refine roundIn_of_wpIn trivial ?_
              refine run_sound ih hm n r.assign as (some l) (Fence.wide.inRound b) q6 _ e1 s1 ι { tmps := _, defers := [] } w _ hr1 ⟨hset.1, hset.2, .nil, hs, hg⟩ ⟨b, d, e, hl, rfl⟩ ?_
              intro ι1 a1 w1 hst1 ha1
              cases e1 with
              | normal =>
                simp only at h
                split at h
                · rename_i tm1 ps1 as1 bd1 hget1
                  have hl1 := hst1.ext _ _ hl
                  obtain ⟨b', d', e', c, k1, k2', k3'⟩ := ha1.sat.obj l _ hget1
                  rw [hl1] at k1; cases k1
                  cases c with
                  | loop r1 =>
                    obtain ⟨p1, p2, p3, p4, p8⟩ := k3'
                    refine ⟨_, run_beginRound k2' p1, ?_⟩
                    have st2 : Step P ι1 s1.h w1 ι1 (s1.h.put l (.loop tm1 ps1 as1 bd1 .busy none)) (w1.putObj b (.loop { r1 with state := .busy })) :=
                      Step.put ha1.sat hget1 rfl rfl hl1 (putObj_eq k2') ⟨rfl, p2, p3, p4, p8⟩ (fun k hk => putObj_ne hk) putObj_size rfl rfl rfl
                    cases hr2 : run (exec T n) n (some l) bd { s1 with h := s1.h.put l (.loop tm1 ps1 as1 bd1 .busy none) } with
                    | none => simp [hr2] at h
                    | some x =>
                      obtain ⟨e2, s2⟩ := x
                      simp only [hr2] at h
                      refine run_sound ih hm n r.body bd (some l) (Fence.wide.inRound b) q7 _ e2 s2 ι1 a1 _ _ hr2 ⟨ha1.tm, ha1.size, ha1.ds, st2.sat, ha1.glob⟩ ⟨b, d, e, hl1, rfl⟩ ?_
                      intro ι3 a3 w3 hst3 ha3
                      split at h
                      · rename_i tm2 ps2 as2 bd2 hget2
                        have hl3 := hst3.ext _ _ hl1
                        obtain ⟨b', d', e', c, k1, m2, m3⟩ := ha3.sat.obj l _ hget2
                        rw [hl3] at k1; cases k1
                        cases c with
                        | loop r2 =>
                          obtain ⟨u1, u2, u3, u4, u8⟩ := m3
                          have hst := (hst1.trans st2).trans hst3
                          have fin : ∀ (st : LoopState) (pe : Option AExit) (pd : Option Code), pendR pe pd → Step P ι H w ι3 (s2.h.put l (.loop tm2 ps2 as2 bd2 st pe)) (w3.putObj b (.loop { r2 with state := st, pending := pd })) := by
                            intro st pe pd hpd
                            exact hst.trans (Step.put ha3.sat hget2 rfl rfl hl3 (putObj_eq m2) ⟨rfl, u2, u3, u4, hpd⟩ (fun k hk => putObj_ne hk) putObj_size rfl rfl rfl)
                          cases e2 with
                          | normal =>
                            simp only [Option.some.injEq, Prod.mk.injEq] at h
                            obtain ⟨rfl, rfl⟩ := h
                            exact ⟨_, _, run_endRound none m2, _, ι3, rfl, .atom (.bool _), fin .ready none none trivial⟩
                          | ret =>
                            simp only [Option.some.injEq, Prod.mk.injEq] at h
                            obtain ⟨rfl, rfl⟩ := h
                            exact ⟨_, _, run_endRound (some .ret) m2, _, ι3, rfl, .atom (.bool _), fin .done (some .ret) (some .ret) trivial⟩
                          | exit id =>
                            simp only [Option.some.injEq, Prod.mk.injEq] at h
                            obtain ⟨rfl, rfl⟩ := h
                            exact ⟨_, _, run_endRound (some (.exit id)) m2, _, ι3, rfl, .atom (.bool _), fin .done (some (.exit id)) (some (.exit id)) rfl⟩
                        | _ => exact m3.elim
                      · cases h
                  | _ => exact k3'.elim
                · cases h
              | exit id => cases h
              | ret => cases h
        | _ => exact k3.elim
      · cases h
#print axioms exec_sound
end Go.Proofs.YtdlfdieehioolaaDoor
