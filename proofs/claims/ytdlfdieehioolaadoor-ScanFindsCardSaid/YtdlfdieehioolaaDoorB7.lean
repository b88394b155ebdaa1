/- The second semantics' runs are runs of the first one. -/
import Derived.Test.YtdlfdieehioolaaDoorB6
namespace Go.Proofs.YtdlfdieehioolaaDoor
open Go
set_option linter.unusedVariables false
set_option linter.unusedSimpArgs false
theorem WdOk.up {ex : Nat → Self} {l base base' : Nat} {X : Wd} {Xc : Nat → Prop} {Inv : X.W → Heap → Prop} (h : WdOk ex l base X Xc Inv) (hb : base ≤ base') : WdOk ex l base' X Xc Inv :=
  ⟨h.hu, h.hle, h.st, fun w H H' hi hg hn hsh => h.ext w H H' hi (fun r hr => hg r (hr.imp (fun h => Nat.lt_of_lt_of_le h hb) id)) hn hsh, h.yl⟩
theorem WdOk.also {ex : Nat → Self} {l base base' q : Nat} {o : AObj} {X : Wd} {Xc : Nat → Prop} {Inv : X.W → Heap → Prop} (h : WdOk ex l base X Xc Inv) (hb : base ≤ base') (hq : q < base') (hx : ¬ Xc q) :
    WdOk ex l base' X Xc (fun w G => Inv w G ∧ q < (X.hp w).next ∧ (X.hp w).get q = none ∧ G.get q = some o) := by
  refine ⟨h.hu, fun w H hi => h.hle w H hi.1, fun w H h' H' hi hl hs => ?_, fun w H H' hi hg hn hsh => ?_, fun args w b w' H hy hi => ?_⟩
  · obtain ⟨h1, h2, h3, h4⟩ := hi
    rw [h.hu]
    exact ⟨h.st w H h' H' h1 hl hs, Nat.lt_of_lt_of_le h2 hs.nx, hs.dead q h2 h3, by rw [hs.keep q h2 h3 id]; exact h4⟩
  · exact ⟨h.ext w H H' hi.1 (fun r hr => hg r (hr.imp (fun h => Nat.lt_of_lt_of_le h hb) id)) hn hsh, hi.2.1, hi.2.2.1, by rw [hg q (.inl hq)]; exact hi.2.2.2⟩
  · obtain ⟨h1, h2, h3, h4⟩ := hi
    obtain ⟨H', a1, a2, a3⟩ := h.yl args w b w' H hy h1
    exact ⟨H', a1, ⟨a2, Nat.lt_of_lt_of_le h2 a3.nx, a3.dead q h2 h3, by rw [a3.keep q h2 h3 hx]; exact h4⟩, a3⟩
section
variable {T : Nat → Option AFun} {sf : Sf} {it : It} {n : Nat}
theorem run2_sound (hsf : SfOk (exec T) sf) (hit : ItOk (exec T) it) : ∀ (c : C2) {X : Wd} {Xc : Nat → Prop} {Inv : X.W → Heap → Prop} {l base : Nat} {R : Type} {t2 : Rt} {tm : Tr Value} {w : X.W} {H : Heap} {ds : List Nat} {kn : Rt → X.W → Option R} {ke : AExit → Rt → X.W → Option R} {r : R} {rd : Option Nat},
    run2 sf it n X rd.isSome c t2 w kn ke = some r → WdOk (exec T) l base X Xc Inv → (∀ w H q, Inv w H → rd = some q → ∃ tm ps as bd st p, H.get q = some (.loop tm ps as bd st p)) → (∀ q, Xc q → q < base) → TmR l t2 tm → Inv w H → DsOk base (X.hp w) H ds →
    ∃ e t3 tm' w' H' ds', Ev (fun m => run (exec T m) m rd c.erase ⟨tm, H, ds⟩ = some (e, ⟨tm', H', ds'⟩)) ∧ (e = .normal → kn t3 w' = some r) ∧ (e ≠ .normal → ke e t3 w' = some r) ∧ TmR l t3 tm' ∧ Inv w' H' ∧ Stp Xc (X.hp w) H (X.hp w') H' ∧ DsOk base (X.hp w') H' ds' ∧
      ∀ q, q ∉ c.asg → tm'.get q = tm.get q := by
  intro c
  induction c with
  | skip =>
    intro X Xc Inv l base R t2 tm w H ds kn ke r rd e hX hrd hxc ht hi hd
    exact ⟨.normal, t2, tm, w, H, ds, Ev.of fun _ => rfl, fun _ => e, fun h => absurd rfl h, ht, hi, .refl, hd, fun _ _ => rfl⟩
  | bad =>
    intro X Xc Inv l base R t2 tm w H ds kn ke r rd e
    cases e
  | reg ops =>
    intro X Xc Inv l base R t2 tm w H ds kn ke r rd e hX hrd hxc ht hi hd
    obtain ⟨t3, tm', w', H', a1, a2, a3, a4, a5, a6⟩ := opsB_sound hX hsf (ds := ds) ops e ht hi
    exact ⟨.normal, t3, tm', w', H', ds, a1.mono fun m a1 => by rw [C2.erase, run_reg, a1, regK_some], fun _ => a2, fun h => absurd rfl h, a3, a4, a5, hd.step a5 hxc, a6⟩
  | regd ops =>
    intro X Xc Inv l base R t2 tm w H ds kn ke r rd e hX hrd hxc ht hi hd
    obtain ⟨t3, tm', w', H', a1, a2, a3, a4, a5, a6⟩ := dopsB_sound hX hsf (ds := ds) ops e ht hi (fun _ h => absurd h List.not_mem_nil)
    exact ⟨.normal, t3, tm', w', H', ds, a1.mono fun m a1 => by rw [C2.erase, run_regd]; simp only [List.map_nil] at a1; rw [a1, regK_some], fun _ => a2, fun h => absurd rfl h, a3, a4, a5, hd.step a5 hxc, a6⟩
  | seq a b iha ihb =>
    intro X Xc Inv l base R t2 tm w H ds kn ke r rd e hX hrd hxc ht hi hd
    obtain ⟨e1, t3, tm1, w1, H1, ds1, a1, a2, a3, a4, a5, a6, a7, a8⟩ := iha e hX hrd hxc ht hi hd
    by_cases he : e1 = .normal
    · subst he
      obtain ⟨e2, t4, tm2, w2, H2, ds2, b1, b2, b3, b4, b5, b6, b7, b8⟩ := ihb (a2 rfl) hX hrd hxc a4 a5 a7
      refine ⟨e2, t4, tm2, w2, H2, ds2, a1.two b1 fun m a1 b1 => by rw [C2.erase, run_seq, a1, seqK_normal, b1], b2, b3, b4, b5, a6.trans b6, b7, fun q hq => ?_⟩
      simp only [C2.asg, List.mem_append, not_or] at hq
      rw [b8 q hq.2, a8 q hq.1]
    · refine ⟨e1, t3, tm1, w1, H1, ds1, a1.mono fun m a1 => ?_, fun h => absurd h he, a3, a4, a5, a6, a7, fun q hq => ?_⟩
      · rw [C2.erase, run_seq, a1]
        cases e1 <;> first | rfl | exact absurd rfl he
      · simp only [C2.asg, List.mem_append, not_or] at hq
        exact a8 q hq.1
  | cond cc a b iha ihb =>
    intro X Xc Inv l base R t2 tm w H ds kn ke r rd e hX hrd hxc ht hi hd
    simp only [run2] at e
    cases hs : isSet t2 cc with
    | false => rw [hs] at e; cases e
    | true =>
      rw [hs] at e
      simp only [cond_true] at e
      split at e
      · rename_i t hv
        rw [vl_eq ht hs] at hv
        cases t with
        | true =>
          obtain ⟨e1, t3, tm1, w1, H1, ds1, a1, a2, a3, a4, a5, a6, a7, a8⟩ := iha e hX hrd hxc ht hi hd
          refine ⟨e1, t3, tm1, w1, H1, ds1, a1.mono fun m a1 => by rw [C2.erase, run_cond, hv, condK_true, a1], a2, a3, a4, a5, a6, a7, fun q hq => ?_⟩
          simp only [C2.asg, List.mem_append, not_or] at hq
          exact a8 q hq.1
        | false =>
          obtain ⟨e1, t3, tm1, w1, H1, ds1, a1, a2, a3, a4, a5, a6, a7, a8⟩ := ihb e hX hrd hxc ht hi hd
          refine ⟨e1, t3, tm1, w1, H1, ds1, a1.mono fun m a1 => by rw [C2.erase, run_cond, hv, condK_false, a1], a2, a3, a4, a5, a6, a7, fun q hq => ?_⟩
          simp only [C2.asg, List.mem_append, not_or] at hq
          exact a8 q hq.2
      · cases e
  | block id b ih =>
    intro X Xc Inv l base R t2 tm w H ds kn ke r rd e hX hrd hxc ht hi hd
    obtain ⟨e1, t3, tm1, w1, H1, ds1, a1, a2, a3, a4, a5, a6, a7, a8⟩ := ih e hX hrd hxc ht hi hd
    cases e1 with
    | normal => exact ⟨.normal, t3, tm1, w1, H1, ds1, a1.mono fun m a1 => by rw [C2.erase, run_block, a1, blockK_normal], a2, fun h => absurd rfl h, a4, a5, a6, a7, a8⟩
    | ret => exact ⟨.ret, t3, tm1, w1, H1, ds1, a1.mono fun m a1 => by rw [C2.erase, run_block, a1, blockK_ret], (fun h => nomatch h), a3, a4, a5, a6, a7, a8⟩
    | exit i =>
      have a3 := a3 (by simp)
      simp only at a3
      cases hb : Nat.beq i id with
      | true =>
        rw [hb] at a3
        exact ⟨.normal, t3, tm1, w1, H1, ds1, a1.mono fun m a1 => by rw [C2.erase, run_block, a1, blockK, hb]; rfl, fun _ => a3, fun h => absurd rfl h, a4, a5, a6, a7, a8⟩
      | false =>
        rw [hb] at a3
        exact ⟨.exit i, t3, tm1, w1, H1, ds1, a1.mono fun m a1 => by rw [C2.erase, run_block, a1, blockK, hb]; rfl, (fun h => nomatch h), fun _ => a3, a4, a5, a6, a7, a8⟩
  | exit id =>
    intro X Xc Inv l base R t2 tm w H ds kn ke r rd e hX hrd hxc ht hi hd
    exact ⟨.exit id, t2, tm, w, H, ds, Ev.of fun _ => rfl, (fun h => nomatch h), fun _ => e, ht, hi, .refl, hd, fun _ _ => rfl⟩
  | ret =>
    intro X Xc Inv l base R t2 tm w H ds kn ke r rd e hX hrd hxc ht hi hd
    exact ⟨.ret, t2, tm, w, H, ds, Ev.of fun _ => rfl, (fun h => nomatch h), fun _ => e, ht, hi, .refl, hd, fun _ _ => rfl⟩
  | cut lv a ih =>
    intro X Xc Inv l base R t2 tm w H ds kn ke r rd e hX hrd hxc ht hi hd
    simp only [run2, thenB] at e
    obtain ⟨z, e1, e2⟩ := bindS e
    obtain ⟨e0, t3, tm1, w1, H1, ds1, a1, a2, a3, a4, a5, a6, a7, a8⟩ := ih e1 hX hrd hxc ht hi hd
    by_cases he : e0 = .normal
    · subst he
      obtain ⟨x, e3, e4⟩ := bindS (a2 rfl)
      cases e4
      exact ⟨.normal, _, tm1, w1, H1, ds1, a1, fun _ => e2, fun h => absurd rfl h, Lv.get_put e3 a4 (ht.del a8), a5, a6, a7, a8⟩
    · obtain ⟨y, e3, e4⟩ := mapS (a3 he)
      subst e4
      simp only [Option.some.injEq] at e2
      subst e2
      exact ⟨e0, t3, tm1, w1, H1, ds1, a1, fun h => absurd h he, fun _ => e3, a4, a5, a6, a7, a8⟩
  | cutn lv a ih =>
    intro X Xc Inv l base R t2 tm w H ds kn ke r rd e hX hrd hxc ht hi hd
    simp only [run2] at e
    obtain ⟨z, e1, e2⟩ := bindS e
    obtain ⟨e0, t3, tm1, w1, H1, ds1, a1, a2, a3, a4, a5, a6, a7, a8⟩ := ih e1 hX hrd hxc ht hi hd
    by_cases he : e0 = .normal
    · subst he
      obtain ⟨x, e3, e4⟩ := bindS (a2 rfl)
      cases e4
      exact ⟨.normal, _, tm1, w1, H1, ds1, a1, fun _ => e2, fun h => absurd rfl h, Lv.get_put e3 a4 (ht.del a8), a5, a6, a7, a8⟩
    · cases a3 he
  | loop lv b ih =>
    intro X Xc Inv l base R t2 tm w H ds kn ke r rd e hX hrd hxc ht hi hd
    simp only [run2] at e
    obtain ⟨x, e1, e⟩ := bindS e
    have key : ∀ (k : Nat) {x : lv.T} {w1 : X.W} {tm1 : Tr Value} {H1 : Heap} {ds1 : List Nat}, loopT (fun a : lv.T × X.W => run2 sf it n X rd.isSome b (R := (lv.T × X.W) ⊕ R) (lv.put a.1 (delR t2 b.asg)) a.2
        (fun tm w => (lv.get tm).bind fun x => some (.inl (x, w))) (fun e tm w => (ke e tm w).map .inr)) k (x, w1) = some r → TmR l (lv.put x (delR t2 b.asg)) tm1 → Inv w1 H1 → DsOk base (X.hp w1) H1 ds1 → (∀ q, q ∉ b.asg → tm1.get q = tm.get q) →
        ∃ e t3 tm' w' H' ds', (∃ N, ∀ m, N ≤ m → ∀ q, N ≤ q → loopN (run (exec T m) m rd b.erase) q ⟨tm1, H1, ds1⟩ = some (e, ⟨tm', H', ds'⟩)) ∧ e ≠ .normal ∧ ke e t3 w' = some r ∧ TmR l t3 tm' ∧ Inv w' H' ∧ Stp Xc (X.hp w1) H1 (X.hp w') H' ∧ DsOk base (X.hp w') H' ds' ∧ ∀ q, q ∉ b.asg → tm'.get q = tm.get q := by
      intro k
      induction k with
      | zero => intro x w1 tm1 H1 ds1 h; cases h
      | succ k ihk =>
        intro x w1 tm1 H1 ds1 h ht1 hi1 hd1 hk1
        simp only [loopT] at h
        split at h
        · rename_i a' hF
          obtain ⟨x', w'⟩ := a'
          obtain ⟨e0, t3, tm2, w2, H2, ds2, a1, a2, a3, a4, a5, a6, a7, a8⟩ := ih hF hX hrd hxc ht1 hi1 hd1
          by_cases he : e0 = .normal
          · subst he
            obtain ⟨y, e3, e4⟩ := bindS (a2 rfl)
            cases e4
            have hk2 : ∀ q, q ∉ b.asg → tm2.get q = tm.get q := fun q hq => (a8 q hq).trans (hk1 q hq)
            obtain ⟨e5, t5, tm5, w5, H5, ds5, ⟨N, b1⟩, b2, b3, b4, b5, b6, b7, b8⟩ := ihk h (Lv.get_put e3 a4 (ht.del hk2)) a5 a7 hk2
            obtain ⟨M, a1⟩ := a1
            refine ⟨e5, t5, tm5, w5, H5, ds5, ⟨max M (N + 1), fun m hm q hq => ?_⟩, b2, b3, b4, b5, a6.trans b6, b7, b8⟩
            obtain ⟨q', rfl⟩ : ∃ q', q = q' + 1 := ⟨q - 1, by omega⟩
            rw [loopN_succ, a1 m (by omega), loopK_normal, b1 m (by omega) q' (by omega)]
          · obtain ⟨y, e3, e4⟩ := mapS (a3 he)
            cases e4
        · rename_i y hF
          simp only [Option.some.injEq] at h
          subst h
          obtain ⟨e0, t3, tm2, w2, H2, ds2, a1, a2, a3, a4, a5, a6, a7, a8⟩ := ih hF hX hrd hxc ht1 hi1 hd1
          by_cases he : e0 = .normal
          · subst he
            obtain ⟨y, e3, e4⟩ := bindS (a2 rfl)
            cases e4
          · obtain ⟨y, e3, e4⟩ := mapS (a3 he)
            cases e4
            obtain ⟨M, a1⟩ := a1
            refine ⟨e0, t3, tm2, w2, H2, ds2, ⟨M + 1, fun m hm q hq => ?_⟩, he, e3, a4, a5, a6, a7, fun q hq => (a8 q hq).trans (hk1 q hq)⟩
            obtain ⟨q', rfl⟩ : ∃ q', q = q' + 1 := ⟨q - 1, by omega⟩
            rw [loopN_succ, a1 m (by omega)]
            cases e0 <;> first | rfl | exact absurd rfl he
        · cases h
    obtain ⟨e5, t5, tm5, w5, H5, ds5, ⟨N, b1⟩, b2, b3, b4, b5, b6, b7, b8⟩ := key n e (Lv.get_put e1 ht (ht.del fun _ _ => rfl)) hi hd (fun _ _ => rfl)
    exact ⟨e5, t5, tm5, w5, H5, ds5, ⟨N, fun m hm => b1 m hm m hm⟩, fun h => absurd h b2, fun _ => b3, b4, b5, b6, b7, b8⟩
  | range f ps exits as bd iha ihb =>
    intro X Xc Inv l base R t2 tm w H ds kn ke r rd e hX hrd hxc ht hi hd
    simp only [run2] at e
    cases hs : isSet t2 f with
    | false => rw [hs] at e; cases e
    | true =>
    rw [hs] at e
    simp only [cond_true] at e
    split at e
    · rename_i g first captured hv
      rw [vl_eq ht hs] at hv
      obtain ⟨v', e1, e2⟩ := bindS e
      have hle := hX.hle _ _ hi
      -- the record's place
      obtain ⟨s1, h1, H1, ho, hn1, eh, hi1, hst1, hdn, hds1, hlow⟩ : ∃ s1 h1 H1, openLoop rd ⟨tm, H, ds⟩ = some s1 ∧ s1.tm = tm ∧ (h1 = (bif rd.isSome then (X.hp w).hole else (X.hp w).hole.hole) ∧ H1 = s1.h.new (.loop tm ps as.erase bd.erase .ready none)) ∧
          Inv (X.up w h1) H1 ∧ Stp No (X.hp w) H h1 H1 ∧ (s1.h.next < h1.next ∧ h1.get s1.h.next = none ∧ (X.hp w).next ≤ s1.h.next) ∧
          (s1.ds.Nodup ∧ ∀ d ∈ s1.ds, base ≤ d ∧ d < h1.next ∧ h1.get d = none ∧ H1.get d = some .defr ∧ d ≠ s1.h.next) ∧ base ≤ s1.h.next := by
        cases rd with
        | none =>
          obtain ⟨g1, g2⟩ := hle.hole .defr
          obtain ⟨g3, g4⟩ := g1.hole (.loop tm ps as.erase bd.erase .ready none)
          have nx : H.next = (X.hp w).next := hle.nx.symm
          refine ⟨⟨tm, H.new .defr, H.next :: ds⟩, (X.hp w).hole.hole, _, rfl, rfl, ⟨rfl, rfl⟩, hX.st _ _ _ _ hi g3 (g2.trans g4), g2.trans g4, ⟨?_, ?_, ?_⟩, ⟨?_, ?_⟩, ?_⟩
          · show H.next + 1 < (X.hp w).next + 1 + 1; omega
          · rw [hole_get, if_pos]; show H.next + 1 = (X.hp w).next + 1; omega
          · show (X.hp w).next ≤ H.next + 1; omega
          · refine List.nodup_cons.2 ⟨fun hm => ?_, hd.nodup⟩
            have := (hd.at_ _ hm).2.1; omega
          · intro d hm
            rcases List.mem_cons.1 hm with rfl | hm
            · refine ⟨by rw [nx]; exact hd.le, ?_, ?_, ?_, ?_⟩
              · show H.next < (X.hp w).next + 1 + 1; omega
              · rw [hole_get, if_neg (by show ¬ H.next = (X.hp w).next + 1; omega), hole_get, if_pos nx]
              · rw [Heap.get_new, if_neg (by show ¬ H.next = H.next + 1; omega), Heap.get_new, if_pos rfl]
              · show H.next ≠ H.next + 1; omega
            · obtain ⟨k1, k2, k3, k4⟩ := hd.at_ d hm
              refine ⟨k1, ?_, ?_, ?_, ?_⟩
              · show d < (X.hp w).next + 1 + 1; omega
              · exact (g2.trans g4).dead d k2 k3
              · rw [(g2.trans g4).keep d k2 k3 id]; exact k4
              · show d ≠ H.next + 1; omega
          · show base ≤ H.next + 1; have := hd.le; omega
        | some q =>
          obtain ⟨_, _, _, _, _, _, hq⟩ := hrd w H q hi rfl
          obtain ⟨g1, g2⟩ := hle.hole (.loop tm ps as.erase bd.erase .ready none)
          have nx : H.next = (X.hp w).next := hle.nx.symm
          refine ⟨⟨tm, H, ds⟩, (X.hp w).hole, _, by simp only [openLoop, hq], rfl, ⟨rfl, rfl⟩, hX.st _ _ _ _ hi g1 g2, g2, ⟨?_, ?_, ?_⟩, ⟨hd.nodup, ?_⟩, ?_⟩
          · show H.next < (X.hp w).next + 1; omega
          · rw [hole_get, if_pos nx]
          · show (X.hp w).next ≤ H.next; omega
          · intro d hm
            obtain ⟨k1, k2, k3, k4⟩ := hd.at_ d hm
            refine ⟨k1, ?_, ?_, ?_, ?_⟩
            · show d < (X.hp w).next + 1; omega
            · exact g2.dead d k2 k3
            · rw [g2.keep d k2 k3 id]; exact k4
            · show d ≠ H.next; omega
          · show base ≤ H.next; have := hd.le; omega
      obtain ⟨eh1, eH1⟩ := eh
      obtain ⟨hl1, hl2, hl3⟩ := hdn
      rw [← eh1] at e1
      generalize hl : s1.h.next = l2 at *
      have hnx : ¬ Xc l2 := fun h => by have := hxc l2 h; omega
      have hl2H : H1.get l2 = some (.loop tm ps as.erase bd.erase .ready none) := by rw [eH1, Heap.get_new, if_pos hl.symm]
      -- the loop's world
      have hW : WdOk (exec T) l2 (l2 + 1) ⟨X.W × Nat, fun v => X.hp v.1, fun v h => (X.up v.1 h, v.2), fun args v => bif Nat.beq args.length ps.length && Nat.beq v.2 0 then
          run2 sf it n X true as (setR t2 ps args) v.1 (fun tm1 w1 => run2 sf it n X true bd tm1 w1 (fun _ w2 => some (true, (w2, 0))) (fun e _ w2 => (pendOf exits e 1).bind fun i => some (false, (w2, i)))) (fun _ _ _ => none)
          else none⟩ (fun q => Xc q ∨ q = l2) (fun v G => Inv v.1 G ∧ l2 < (X.hp v.1).next ∧ (X.hp v.1).get l2 = none ∧
            ((v.2 = 0 ∧ G.get l2 = some (.loop tm ps as.erase bd.erase .ready none)) ∨ ∃ e, e ≠ .normal ∧ pendOf exits e 1 = some v.2 ∧ G.get l2 = some (.loop tm ps as.erase bd.erase .done (some e)))) := by
        refine ⟨fun v h => hX.hu _ _, fun v G hv => hX.hle _ _ hv.1, fun v G h' G' hv hl' hs' => ?_, fun v G G' hv hg hn hsh => ?_, fun args v b v1 G hy hv => ?_⟩
        · obtain ⟨k1, k2, k3, k4⟩ := hv
          simp only [hX.hu]
          refine ⟨hX.st _ _ _ _ k1 hl' hs', Nat.lt_of_lt_of_le k2 hs'.nx, hs'.dead _ k2 k3, ?_⟩
          rw [hs'.keep _ k2 k3 id]; exact k4
        · obtain ⟨k1, k2, k3, k4⟩ := hv
          refine ⟨hX.ext _ _ _ k1 (fun r hr => hg r (hr.imp (fun h => by omega) id)) hn hsh, k2, k3, ?_⟩
          rw [hg l2 (.inl (Nat.lt_succ_self _))]; exact k4
        · obtain ⟨k1, k2, k3, k4⟩ := hv
          obtain ⟨v, p⟩ := v
          simp only at hy k1 k2 k3 k4
          cases hb : Nat.beq args.length ps.length && Nat.beq p 0 with
          | false => rw [hb] at hy; cases hy
          | true =>
            rw [hb] at hy
            simp only [cond_true] at hy
            simp only [Bool.and_eq_true] at hb
            obtain rfl := Nat.eq_of_beq_eq_true hb.2
            have hlen := Nat.eq_of_beq_eq_true hb.1
            have k4 : G.get l2 = some (.loop tm ps as.erase bd.erase .ready none) := by
              rcases k4 with ⟨_, k4⟩ | ⟨e, _, h, _⟩
              · exact k4
              · have := (pend_of h (R := Unit) (ke := fun _ => none)).1; omega
            have hbase : base ≤ (X.hp v).next := by omega
            have trs : TmR l (setR t2 ps args) (setAll tm ps args) := TmR.setR ht ht
            obtain ⟨e3, t4, tm4, w4, G4, ds4, a1, a2, a3, a4, a5, a6, a7, a8⟩ := iha (rd := some l2) (base := l2 + 1) (ds := []) hy (hX.also (o := .loop tm ps as.erase bd.erase .ready none) (by omega) (Nat.lt_succ_self l2) hnx)
              (fun w H q hi hq => by cases hq; exact ⟨_, _, _, _, _, _, hi.2.2.2⟩) (fun q hq => by have := hxc q hq; omega) trs ⟨k1, k2, k3, k4⟩ ⟨List.nodup_nil, by omega, fun _ h => absurd h List.not_mem_nil⟩
            by_cases he : e3 = .normal
            · subst he
              obtain ⟨m1, m2, m3, m4⟩ := a5
              have hput : Inv w4 (G4.put l2 (.loop tm ps as.erase bd.erase .busy none)) := hX.ext _ _ _ m1 (fun r hr => by
                rw [Heap.get_put, if_neg]
                rintro rfl
                rcases hr with hr | hr
                · omega
                · exact hr m3) rfl rfl
              obtain ⟨e5, t5, tm5, w5, G5, ds5, b1, b2, b3, b4, b5, b6, b7, b8⟩ := ihb (rd := some l2) (base := l2 + 1) (ds := ds4) (a2 rfl) (hX.also (o := .loop tm ps as.erase bd.erase .busy none) (by omega) (Nat.lt_succ_self l2) hnx)
                (fun w H q hi hq => by cases hq; exact ⟨_, _, _, _, _, _, hi.2.2.2⟩) (fun q hq => by have := hxc q hq; omega) a4 ⟨hput, m2, m3, by rw [Heap.get_put, if_pos rfl]⟩
                ⟨a7.nodup, a7.le, fun d hd => by
                  obtain ⟨x1, x2, x3, x4⟩ := a7.at_ d hd
                  exact ⟨x1, x2, x3, by rw [Heap.get_put, if_neg (by omega)]; exact x4⟩⟩
              obtain ⟨m5, m6, m7, m8⟩ := b5
              have hfin : ∀ o, Inv w5 (G5.put l2 o) := fun o => hX.ext _ _ _ m5 (fun r hr => by
                rw [Heap.get_put, if_neg]
                rintro rfl
                rcases hr with hr | hr
                · omega
                · exact hr m7) rfl rfl
              have hstp : ∀ o, Stp (fun q => Xc q ∨ q = l2) (X.hp v) G (X.hp w5) (G5.put l2 o) := by
                intro o
                have s1 : Stp (fun q => Xc q ∨ q = l2) (X.hp v) G (X.hp w4) G4 := a6.mono fun _ h => .inl h
                have s2 : Stp (fun q => Xc q ∨ q = l2) (X.hp w4) G4 (X.hp w4) (G4.put l2 (.loop tm ps as.erase bd.erase .busy none)) := ⟨Nat.le_refl _, fun _ _ h => h, fun r _ _ hr => by rw [Heap.get_put, if_neg fun h => hr (.inr h)]⟩
                have s3 : Stp (fun q => Xc q ∨ q = l2) (X.hp w4) (G4.put l2 (.loop tm ps as.erase bd.erase .busy none)) (X.hp w5) G5 := b6.mono fun _ h => .inl h
                have s4 : Stp (fun q => Xc q ∨ q = l2) (X.hp w5) G5 (X.hp w5) (G5.put l2 o) := ⟨Nat.le_refl _, fun _ _ h => h, fun r _ _ hr => by rw [Heap.get_put, if_neg fun h => hr (.inr h)]⟩
                exact ((s1.trans s2).trans s3).trans s4
              by_cases h5 : e5 = .normal
              · subst h5
                have hr := b2 rfl
                simp only [Option.some.injEq, Prod.mk.injEq] at hr
                obtain ⟨rfl, rfl⟩ := hr
                refine ⟨_, Ev.succ (a1.two b1 fun m a1 b1 => yield_of k4 hlen a1 m4 b1 m8), ⟨hfin _, m6, m7, .inl ⟨rfl, by rw [Heap.get_put, if_pos rfl]⟩⟩, hstp _⟩
              · have hr := b3 h5
                obtain ⟨i, h6, hr⟩ := bindS hr
                simp only [Option.some.injEq, Prod.mk.injEq] at hr
                obtain ⟨rfl, rfl⟩ := hr
                refine ⟨_, Ev.succ (a1.two b1 fun m a1 b1 => ?_), ⟨hfin (.loop tm ps as.erase bd.erase .done (some e5)), m6, m7, .inr ⟨e5, h5, h6, by rw [Heap.get_put, if_pos rfl]⟩⟩, hstp _⟩
                rw [yield_of k4 hlen a1 m4 b1 m8]
                cases e5 <;> first | rfl | exact absurd rfl h5
            · cases a3 he
      obtain ⟨val, G, c1, ⟨c2, c3, c4, c5⟩, c6⟩ := hit _ _ _ _ _ _ _ _ _ e1 l2 (l2 + 1) _ _ hW (by simp only [hX.hu]; omega) (fun q hq => by
        rcases hq with hq | rfl
        · have := hxc q hq; omega
        · exact Nat.lt_succ_self _) H1 ⟨hi1, by simp only [hX.hu]; exact hl1, by simp only [hX.hu]; exact hl2, .inl ⟨rfl, hl2H⟩⟩
      simp only [hX.hu] at c6
      have hInv : Inv v'.1 (G.drop l2) := hX.ext _ _ _ c2 (fun r hr => by
        rw [Heap.get_drop, if_neg]
        rintro rfl
        rcases hr with hr | hr
        · omega
        · exact hr c4) rfl rfl
      have hStp : Stp Xc (X.hp w) H (X.hp v'.1) (G.drop l2) := by
        refine ⟨Nat.le_trans hst1.nx c6.nx, fun r hr hn => c6.dead r (Nat.lt_of_lt_of_le hr hst1.nx) (hst1.dead r hr hn), fun r hr hn hx => ?_⟩
        rw [Heap.get_drop, if_neg (by omega), c6.keep r (Nat.lt_of_lt_of_le hr hst1.nx) (hst1.dead r hr hn) (by
          rintro (h | h)
          · exact hx h
          · omega), hst1.keep r hr hn id]
      have hDs : DsOk base (X.hp v'.1) (G.drop l2) s1.ds := by
        refine ⟨hds1.1, Nat.le_trans hd.le hStp.nx, fun d hm => ?_⟩
        obtain ⟨x1, x2, x3, x4, x5⟩ := hds1.2 d hm
        refine ⟨x1, Nat.lt_of_lt_of_le x2 c6.nx, c6.dead d x2 x3, ?_⟩
        rw [Heap.get_drop, if_neg x5, c6.keep d x2 x3 (by
          rintro (h | h)
          · have := hxc d h; omega
          · exact x5 h)]
        exact x4
      have fin : ∀ {e3 : AExit}, ((e3 = .normal ∧ ∃ tm ps as bd, G.get l2 = some (.loop tm ps as bd .ready none)) ∨ (∃ tm ps as bd, G.get l2 = some (.loop tm ps as bd .done (some e3)))) →
          Ev (fun m => run (exec T m) m rd (C2.range f ps exits as bd).erase ⟨tm, H, ds⟩ = some (e3, ⟨tm, G.drop l2, s1.ds⟩)) := by
        intro e3 he3
        refine c1.mono fun m c1 => ?_
        rw [eH1, ← hl] at c1
        rw [← hl] at he3
        have := run_range_of (m := m) (rd := rd) (s := ⟨tm, H, ds⟩) (f := f) (ps := ps) (as := as.erase) (bd := bd.erase) hv ho c1 he3
        rw [C2.erase, this, hn1, hl]
      cases hp : Nat.beq v'.2 0 with
      | true =>
        rw [hp] at e2
        have h0 := Nat.eq_of_beq_eq_true hp
        have c5 : G.get l2 = some (.loop tm ps as.erase bd.erase .ready none) := by
          rcases c5 with ⟨_, c5⟩ | ⟨e, _, h, _⟩
          · exact c5
          · have := (pend_of h (R := Unit) (ke := fun _ => none)).1; omega
        exact ⟨.normal, t2, tm, v'.1, G.drop l2, s1.ds, fin (.inl ⟨rfl, _, _, _, _, c5⟩), fun _ => e2, fun h => absurd rfl h, ht, hInv, hStp, hDs, fun _ _ => rfl⟩
      | false =>
        rw [hp] at e2
        simp only [cond_false] at e2
        rcases c5 with ⟨h0, _⟩ | ⟨e3, h3, h4, c5⟩
        · rw [h0] at hp; cases hp
        · rw [(pend_of h4 (ke := fun e => ke e t2 v'.1)).2] at e2
          exact ⟨e3, t2, tm, v'.1, G.drop l2, s1.ds, fin (.inr ⟨_, _, _, _, c5⟩), fun h => absurd h h3, fun _ => e2, ht, hInv, hStp, hDs, fun _ _ => rfl⟩
    · cases e
end
end Go.Proofs.YtdlfdieehioolaaDoor
