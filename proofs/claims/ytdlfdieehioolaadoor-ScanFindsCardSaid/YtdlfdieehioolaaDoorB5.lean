/- The second semantics' runs are runs of the first one: regions whose order is drawn. -/
import Derived.Test.YtdlfdieehioolaaDoorB4
namespace Go.Proofs.YtdlfdieehioolaaDoor
open Go
set_option linter.unusedVariables false
set_option linter.unusedSimpArgs false
def LogOk (log : List NoteB) (nx : Nat) : Prop := ∀ e ∈ log, (∀ b ∈ e.n.news, b < nx) ∧ (e.nw = false → e.n.news = []) ∧ (e.rd = false → e.n.reads = [])
theorem LogOk.le {log : List NoteB} {a b : Nat} (h : LogOk log a) (hab : a ≤ b) : LogOk log b := fun e he => ⟨fun x hx => Nat.lt_of_lt_of_le ((h e he).1 x hx) hab, (h e he).2⟩
theorem LogOk.cons {log : List NoteB} {a : Nat} {e : NoteB} (h : LogOk log a) (h1 : ∀ b ∈ e.n.news, b < a) (h2 : e.nw = false → e.n.news = []) (h3 : e.rd = false → e.n.reads = []) : LogOk (e :: log) a := fun x hx => by
  rcases List.mem_cons.1 hx with rfl | hx
  · exact ⟨h1, h2, h3⟩
  · exact h x hx
theorem hideFor_lt {d : DOper} {nx : Nat} : ∀ {log : List NoteB}, LogOk log nx → ∀ b ∈ hideFor d (log.map (·.n)), b < nx := by
  intro log
  induction log with
  | nil => intro _ b hb; cases hb
  | cons e rest ih =>
    intro h b hb
    have hr : LogOk rest nx := fun x hx => h x (List.mem_cons_of_mem _ hx)
    simp only [List.map_cons, hideFor] at hb
    cases hc : d.anc.contains e.n.i with
    | true => rw [hc] at hb; exact ih hr b hb
    | false =>
      rw [hc] at hb
      rcases List.mem_append.1 hb with hb | hb
      · exact (h e (List.mem_cons_self ..)).1 b hb
      · exact ih hr b hb
theorem anyNew_nil {d : DOper} {nx : Nat} : ∀ {log : List NoteB}, LogOk log nx → anyNew d log = false → hideFor d (log.map (·.n)) = [] := by
  intro log
  induction log with
  | nil => intro _ _; rfl
  | cons e rest ih =>
    intro h ha
    have hr : LogOk rest nx := fun x hx => h x (List.mem_cons_of_mem _ hx)
    simp only [anyNew] at ha
    simp only [List.map_cons, hideFor]
    cases hc : d.anc.contains e.n.i with
    | true => rw [hc] at ha; exact ih hr ha
    | false =>
      rw [hc] at ha
      simp only [cond_false, Bool.or_eq_false_iff] at ha
      rw [cond_false, (h e (List.mem_cons_self ..)).2.1 ha.1, ih hr ha.2]; rfl
theorem anyRd_nil {d : DOper} {nx : Nat} : ∀ {log : List NoteB}, LogOk log nx → anyRd d log = false → readsBeside d (log.map (·.n)) = [] := by
  intro log
  induction log with
  | nil => intro _ _; rfl
  | cons e rest ih =>
    intro h ha
    have hr : LogOk rest nx := fun x hx => h x (List.mem_cons_of_mem _ hx)
    simp only [anyRd] at ha
    simp only [List.map_cons, readsBeside]
    cases hc : d.anc.contains e.n.i with
    | true => rw [hc] at ha; exact ih hr ha
    | false =>
      rw [hc] at ha
      simp only [cond_false, Bool.or_eq_false_iff] at ha
      rw [cond_false, (h e (List.mem_cons_self ..)).2.2 ha.1, ih hr ha.2]; rfl
theorem get_hid {h : Heap} {bs rs : List Nat} {r : Nat} : (hid h bs rs).get r = if r ∈ rs then (if r ∈ bs then none else h.get r).bind AObj.roOf else if r ∈ bs then none else h.get r := by
  unfold hid; rw [Heap.get_roAll, Heap.get_dropAll]
theorem next_hid {h : Heap} {bs rs : List Nat} : (hid h bs rs).next = h.next := by
  unfold hid; rw [Heap.next_roAll, Heap.next_dropAll]
theorem dropAll_sh : ∀ {l : List Nat} {h : Heap}, (h.dropAll l).sh = h.sh := by
  intro l
  induction l with
  | nil => intro h; rfl
  | cons r l ih => intro h; simp only [Heap.dropAll, ih]; rfl
theorem roAt_sh {h : Heap} {r : Nat} : (h.roAt r).sh = h.sh := by unfold Heap.roAt; split <;> rfl
theorem roAll_sh : ∀ {l : List Nat} {h : Heap}, (h.roAll l).sh = h.sh := by
  intro l
  induction l with
  | nil => intro h; rfl
  | cons r l ih => intro h; simp only [Heap.roAll, ih, roAt_sh]
theorem hid_sh {h : Heap} {bs rs : List Nat} : (hid h bs rs).sh = h.sh := by unfold hid; rw [roAll_sh, dropAll_sh]
theorem putBack_sh {h0 : Heap} : ∀ {l : List Nat} {h : Heap}, (h.putBack h0 l).sh = h.sh := by
  intro l
  induction l with
  | nil => intro h; rfl
  | cons r l ih => intro h; simp only [Heap.putBack, ih]
theorem HLe.hid {h H : Heap} (hh : HLe h H) (bs rs : List Nat) : HLe (hid h bs rs) (hid H bs rs) := by
  refine ⟨by rw [next_hid, next_hid, hh.nx], fun r o hr => ?_, by rw [hid_sh, hid_sh, hh.sh]⟩
  rw [get_hid] at hr ⊢
  by_cases h1 : r ∈ rs
  · rw [if_pos h1] at hr ⊢
    by_cases h2 : r ∈ bs
    · rw [if_pos h2] at hr; cases hr
    · rw [if_neg h2] at hr ⊢
      obtain ⟨o', h3, h4⟩ := bindS hr
      rw [hh.le _ _ h3]; exact h4
  · rw [if_neg h1] at hr ⊢
    by_cases h2 : r ∈ bs
    · rw [if_pos h2] at hr; cases hr
    · rw [if_neg h2] at hr ⊢; exact hh.le _ _ hr
theorem HLe.back {h H h1 H1 : Heap} {bs rs : List Nat} (hh : HLe h H) (h2 : HLe h1 H1) (hs : Stp No (Go.Proofs.YtdlfdieehioolaaDoor.hid h bs rs) (Go.Proofs.YtdlfdieehioolaaDoor.hid H bs rs) h1 H1) :
    HLe (h1.putBack h (bs ++ rs)) (H1.putBack H (bs ++ rs)) ∧ Stp No h H (h1.putBack h (bs ++ rs)) (H1.putBack H (bs ++ rs)) := by
  refine ⟨⟨by rw [Heap.next_putBack, Heap.next_putBack, h2.nx], fun r o hr => ?_, by rw [putBack_sh, putBack_sh, h2.sh]⟩, by rw [Heap.next_putBack]; have := hs.nx; rwa [next_hid] at this, fun r hr hn => ?_, fun r hr hn hx => ?_⟩
  · rw [Heap.get_putBack] at hr ⊢
    by_cases hm : r ∈ bs ++ rs
    · rw [if_pos hm] at hr ⊢; exact hh.le _ _ hr
    · rw [if_neg hm] at hr ⊢; exact h2.le _ _ hr
  · rw [Heap.get_putBack]
    by_cases hm : r ∈ bs ++ rs
    · rw [if_pos hm]; exact hn
    · rw [if_neg hm]
      refine hs.dead r (by rw [next_hid]; exact hr) ?_
      simp only [List.mem_append, not_or] at hm
      rw [get_hid, if_neg hm.2, if_neg hm.1]; exact hn
  · rw [Heap.get_putBack]
    by_cases hm : r ∈ bs ++ rs
    · rw [if_pos hm]
    · rw [if_neg hm]
      have hm' := hm
      simp only [List.mem_append, not_or] at hm'
      rw [hs.keep r (by rw [next_hid]; exact hr) (by rw [get_hid, if_neg hm'.2, if_neg hm'.1]; exact hn) hx, get_hid, if_neg hm'.2, if_neg hm'.1]
section
variable {self : Self} {ex : Nat → Self} {l base : Nat} {X : Wd} {Xc : Nat → Prop} {Inv : X.W → Heap → Prop} {sf : Sf} {t2 : Rt} {tm : Tr Value} {w : X.W} {H : Heap} {R : Type} {r : R}
theorem bigB_sound (hX : WdOk ex l base X Xc Inv) (hsf : SfOk ex sf) {bs rs : List Nat} {op : AOp} {ty : Ty} {k : Value → X.W → Option R} (e : bigB X sf t2 w bs rs op ty k = some r) (ht : TmR l t2 tm) (hi : Inv w H) :
    ∃ v w' H1, Ev (fun m => opRun (ex m) (St.val tm) (hid H bs rs) op = some (v, H1)) ∧ k v w' = some r ∧ Inv w' (H1.putBack H (bs ++ rs)) ∧ Stp Xc (X.hp w) H (X.hp w') (H1.putBack H (bs ++ rs)) := by
  have hle := hX.hle _ _ hi
  have hlh := hle.hid bs rs
  unfold bigB at e
  cases hs : (opds op).all (isSet t2) with
  | false => rw [hs] at e; cases e
  | true =>
    rw [hs] at e
    simp only [cond_true] at e
    have fin : ∀ {v : Value} {h1 H1 : Heap}, Ev (fun m => opRun (ex m) (St.val tm) (hid H bs rs) op = some (v, H1)) → k v (X.up w (h1.putBack (X.hp w) (bs ++ rs))) = some r → HLe h1 H1 → Stp No (hid (X.hp w) bs rs) (hid H bs rs) h1 H1 →
        ∃ v w' H1, Ev (fun m => opRun (ex m) (St.val tm) (hid H bs rs) op = some (v, H1)) ∧ k v w' = some r ∧ Inv w' (H1.putBack H (bs ++ rs)) ∧ Stp Xc (X.hp w) H (X.hp w') (H1.putBack H (bs ++ rs)) := by
      intro v h1 H1 a1 a2 a3 a4
      obtain ⟨g1, g2⟩ := hle.back a3 a4
      exact ⟨v, _, H1, a1, a2, hX.st _ _ _ _ hi g1 g2, by rw [hX.hu]; exact g2.mono (fun _ h => h.elim)⟩
    cases ho : okOf op with
    | call =>
      rw [ho] at e
      simp only at e
      split at e
      · rename_i f args
        obtain ⟨v, h1, H1, a1, a2, a3, a4⟩ := hsf _ _ _ _ _ _ e _ hlh
        exact fin (a1.mono fun m a1 => by rw [opRun_call, ← map_vl ht (by simpa [opds] using hs), a1]) a2 a3 a4
      · cases e
    | bg =>
      rw [ho] at e
      obtain ⟨v, h1, H1, a1, a2, a3, a4⟩ := bgB_sound hlh e
      exact fin (Ev.of fun m => by rw [opRun_aop (by rw [ho]; simp) (by rw [ho]; simp), aop_vl ht hs, a1]) a2 a3 a4
    | rd =>
      rw [ho] at e
      obtain ⟨v, a1, a2⟩ := rdB_sound (ev := vl t2) (fun _ => rfl) hlh e
      refine ⟨v, w, _, Ev.of fun m => by rw [opRun_aop (by rw [ho]; simp) (by rw [ho]; simp), aop_vl ht hs, a1], a2, ?_, ?_⟩
      · refine hX.ext _ _ _ hi (fun q _ => ?_) (by rw [Heap.next_putBack, next_hid]) (by rw [putBack_sh, hid_sh])
        rw [Heap.get_putBack]
        by_cases hm : q ∈ bs ++ rs
        · rw [if_pos hm]
        · rw [if_neg hm]
          simp only [List.mem_append, not_or] at hm
          rw [get_hid, if_neg hm.2, if_neg hm.1]
      · refine ⟨Nat.le_refl _, fun _ _ h => h, fun q _ _ _ => ?_⟩
        rw [Heap.get_putBack]
        by_cases hm : q ∈ bs ++ rs
        · rw [if_pos hm]
        · rw [if_neg hm]
          simp only [List.mem_append, not_or] at hm
          rw [get_hid, if_neg hm.2, if_neg hm.1]
    | nw => rw [ho] at e; cases e
    | callv => rw [ho] at e; cases e
theorem vb_eq {v : Value} : vb v = (match v with | .pointer (some p) => [p.block] | _ => []) := by
  cases v <;> try rfl
  rename_i p; cases p <;> rfl
theorem mb_eq {v : Value} : mb v = (match v with | .map (some r) => [r] | _ => []) := by
  cases v <;> try rfl
theorem strReads_eq {v : Value} : strReads v = (match v with | .slice (some p) _ _ => [p.block] | _ => []) := by
  cases v <;> try rfl
theorem readsB_eq {op : AOp} (ht : TmR l t2 tm) (hs : (opds op).all (isSet t2) = true) : readsB (vl t2) op = readsOf (St.val tm) op := by
  have hv : ∀ x ∈ opds op, vl t2 x = St.val tm x := fun x hx => vl_eq ht (List.all_eq_true.1 hs x hx)
  cases op <;> try rfl
  case load g sz a => simp only [readsB, readsOf, hv a (by simp [opds]), vb_eq]; rfl
  case lookup j z m key ok => simp only [readsB, readsOf, hv m (by simp [opds]), mb_eq]; rfl
  case lenM m => simp only [readsB, readsOf, hv m (by simp [opds]), mb_eq]; rfl
  case toStr x => simp only [readsB, readsOf, hv x (by simp [opds]), strReads_eq]; rfl
  case eqv neg q x y => simp only [readsB, readsOf, hv x (by simp [opds]), hv y (by simp [opds]), vb_eq]; rfl
theorem looks_false {op : AOp} {ev : Operand → Value} (h : looks op = false) : readsB ev op = [] := by
  cases op <;> first | rfl | cases h
theorem dopsB_sound (hX : WdOk ex l base X Xc Inv) (hsf : SfOk ex sf) {ds : List Nat} : ∀ (ops : List (DOper × Ty)) {t2 : Rt} {tm : Tr Value} {w : X.W} {H : Heap} {log : List NoteB} {k : Rt → X.W → Option R}, dopsB X sf ops t2 w log k = some r → TmR l t2 tm → Inv w H → LogOk log (X.hp w).next →
    ∃ t3 tm' w' H', Ev (fun m => dopsRun (ex m) (ops.map (·.1)) ⟨tm, H, ds⟩ (log.map (·.n)) = some ⟨tm', H', ds⟩) ∧ k t3 w' = some r ∧ TmR l t3 tm' ∧ Inv w' H' ∧ Stp Xc (X.hp w) H (X.hp w') H' ∧ ∀ q, q ∉ (ops.flatMap fun d => d.1.o.dst.toList) → tm'.get q = tm.get q := by
  intro ops
  induction ops with
  | nil => intro t2 tm w H log k e ht hi hl; exact ⟨t2, tm, w, H, Ev.of fun _ => rfl, e, ht, hi, .refl, fun _ _ => rfl⟩
  | cons d rest ih =>
    obtain ⟨⟨i, anc, big, dst, op, g⟩, ty⟩ := d
    intro t2 tm w H log k e ht hi hl
    have hle := hX.hle _ _ hi
    have wrap : ∀ {tm1 : Tr Value} {w1 : X.W} {H1 : Heap} {t1 : Rt} {v : Value} {log1 : List NoteB}, tm1 = setDst tm dst v → Ev (fun m => doperRun (ex m) ⟨i, anc, big, dst, op, g⟩ ⟨tm, H, ds⟩ (log.map (·.n)) = some (⟨tm1, H1, ds⟩, log1.map (·.n))) → dopsB X sf rest t1 w1 log1 k = some r → TmR l t1 tm1 → Inv w1 H1 → Stp Xc (X.hp w) H (X.hp w1) H1 → LogOk log1 (X.hp w1).next →
        ∃ t3 tm' w' H', Ev (fun m => dopsRun (ex m) (((⟨⟨i, anc, big, dst, op, g⟩, ty⟩ : DOper × Ty) :: rest).map (·.1)) ⟨tm, H, ds⟩ (log.map (·.n)) = some ⟨tm', H', ds⟩) ∧ k t3 w' = some r ∧ TmR l t3 tm' ∧ Inv w' H' ∧ Stp Xc (X.hp w) H (X.hp w') H' ∧ ∀ q, q ∉ (((⟨⟨i, anc, big, dst, op, g⟩, ty⟩ : DOper × Ty) :: rest).flatMap fun d => d.1.o.dst.toList) → tm'.get q = tm.get q := by
      intro tm1 w1 H1 t1 v log1 hv h1 h2 h3 h4 h5 h6
      obtain ⟨t3, tm', w', H', a1, a2, a3, a4, a5, a6⟩ := ih h2 h3 h4 h6
      refine ⟨t3, tm', w', H', ?_, a2, a3, a4, h5.trans a5, fun q hq => ?_⟩
      · exact h1.two a1 fun m h1 a1 => by rw [List.map_cons, dopsRun_cons, h1, dopsK_some, a1]
      · simp only [List.flatMap_cons, List.mem_append, not_or] at hq
        rw [a6 q hq.2, hv, setDst_ne hq.1]
    have hlt : (hideFor ⟨i, anc, big, dst, op, g⟩ (log.map (·.n))).all (fun r => Nat.blt r H.next) = true := by
      rw [List.all_eq_true]
      intro b hb
      have := hideFor_lt hl b hb
      rw [hle.nx] at this
      exact Nat.ble_eq_true_of_le this
    -- one operation that is done
    have one : ∀ (self : Self) {v : Value} {H1 : Heap}, wantedA tm g = true → opRun self (St.val tm) ((H.dropAll (hideFor ⟨i, anc, big, dst, op, g⟩ (log.map (·.n)))).roAll (readFor ⟨i, anc, big, dst, op, g⟩ (log.map (·.n)))) op = some (v, H1) →
        doperRun self ⟨i, anc, big, dst, op, g⟩ ⟨tm, H, ds⟩ (log.map (·.n)) = some (⟨setDst tm dst v, H1.putBack H (hideFor ⟨i, anc, big, dst, op, g⟩ (log.map (·.n)) ++ readFor ⟨i, anc, big, dst, op, g⟩ (log.map (·.n))), ds⟩,
          bif big then log.map (·.n) else { i := i, news := rangeL H.next (H1.next - H.next), reads := readsOf (St.val tm) op } :: log.map (·.n)) := by
      intro self v H1 hw h1
      simp only [doperRun, hw, cond_true, hlt, h1]
    simp only [dopsB] at e
    rcases guardB_sound e ht with ⟨hw, t3, e, ht3⟩ | ⟨hw, t3, e, ht3⟩
    · cases big with
      | true =>
        simp only [cond_true] at e
        have hrd : readFor ⟨i, anc, true, dst, op, g⟩ (log.map (·.n)) = readsBeside ⟨i, anc, true, dst, op, g⟩ (log.map (·.n)) := rfl
        cases hb : anyNew ⟨i, anc, true, dst, op, g⟩ log || anyRd ⟨i, anc, true, dst, op, g⟩ log with
        | true =>
          rw [hb] at e
          simp only [cond_true] at e
          obtain ⟨v, w1, H1, a1, a2, a3, a4⟩ := bigB_sound hX hsf e ht3 hi
          exact wrap (log1 := log) rfl (a1.mono fun m a1 => one _ hw a1) a2 (ht3.dst dst v) a3 a4 (hl.le a4.nx)
        | false =>
          rw [hb] at e
          simp only [cond_false] at e
          simp only [Bool.or_eq_false_iff] at hb
          obtain ⟨v, w1, H1, a1, a2, a3, a4⟩ := opB_all hX hsf e ht3 hi
          have h1 := anyNew_nil hl hb.1
          have h2 := anyRd_nil hl hb.2
          refine wrap (log1 := log) rfl ?_ a2 (ht3.dst dst v) a3 a4 (hl.le a4.nx)
          refine a1.mono fun m a1 => ?_
          have := one _ (v := v) (H1 := H1) hw (by rw [hrd, h1, h2]; exact a1)
          rw [this, hrd, h1, h2]; rfl
      | false =>
        simp only [cond_false] at e
        have hrd : readFor ⟨i, anc, false, dst, op, g⟩ (log.map (·.n)) = [] := rfl
        -- a value, nothing made
        have rdc : ∀ {v : Value} {t1 : Rt} {log1 : List NoteB}, (∀ self, opRun self (St.val tm) (H.dropAll (hideFor ⟨i, anc, false, dst, op, g⟩ (log.map (·.n)))) op = some (v, H.dropAll (hideFor ⟨i, anc, false, dst, op, g⟩ (log.map (·.n))))) →
            log1.map (·.n) = { i := i, news := [], reads := readsOf (St.val tm) op } :: log.map (·.n) → LogOk log1 (X.hp w).next → dopsB X sf rest t1 w log1 k = some r → TmR l t1 (setDst tm dst v) →
            ∃ t3 tm' w' H', Ev (fun m => dopsRun (ex m) (((⟨⟨i, anc, false, dst, op, g⟩, ty⟩ : DOper × Ty) :: rest).map (·.1)) ⟨tm, H, ds⟩ (log.map (·.n)) = some ⟨tm', H', ds⟩) ∧ k t3 w' = some r ∧ TmR l t3 tm' ∧ Inv w' H' ∧ Stp Xc (X.hp w) H (X.hp w') H' ∧ ∀ q, q ∉ (((⟨⟨i, anc, false, dst, op, g⟩, ty⟩ : DOper × Ty) :: rest).flatMap fun d => d.1.o.dst.toList) → tm'.get q = tm.get q := by
          intro v t1 log1 h1 h2 h3 h4 h5
          have hd := fun self => one self (v := v) hw (by rw [hrd]; exact h1 self)
          have hget : ∀ q, ((H.dropAll (hideFor ⟨i, anc, false, dst, op, g⟩ (log.map (·.n)))).putBack H (hideFor ⟨i, anc, false, dst, op, g⟩ (log.map (·.n)) ++ readFor ⟨i, anc, false, dst, op, g⟩ (log.map (·.n)))).get q = H.get q := by
            intro q
            rw [Heap.get_putBack]
            by_cases hm : q ∈ hideFor ⟨i, anc, false, dst, op, g⟩ (log.map (·.n)) ++ readFor ⟨i, anc, false, dst, op, g⟩ (log.map (·.n))
            · rw [if_pos hm]
            · rw [if_neg hm, Heap.get_dropAll, if_neg fun h => hm (List.mem_append_left _ h)]
          refine wrap (log1 := log1) rfl (v := v) ?_ h4 h5 (hX.ext _ _ _ hi (fun q _ => hget q) (by rw [Heap.next_putBack, Heap.next_dropAll]) (by rw [putBack_sh, dropAll_sh])) ⟨Nat.le_refl _, fun _ _ h => h, fun q _ _ _ => hget q⟩ h3
          refine Ev.of fun m => ?_
          rw [hd, h2]
          simp only [Heap.next_dropAll, Nat.sub_self, cond_false]; rfl
        cases hm : isMoveYm t3 op with
        | true =>
          rw [hm] at e
          simp only [cond_true] at e
          refine rdc (fun _ => moveYm hm ht3) ?_ (hl.cons (by simp) (by simp) (by simp)) e (ht3.ym dst)
          have : readsOf (St.val tm) op = [] := by
            unfold isMoveYm at hm
            split at hm
            · rfl
            · cases hm
          rw [this]; rfl
        | false =>
          rw [hm] at e
          simp only [cond_false] at e
          split at e
          · rename_i ho
            have hs := opB_set (by rw [ho]; simp) e
            have hle2 : HLe (bif anyNew ⟨i, anc, false, dst, op, g⟩ log then (X.hp w).dropAll (hideFor ⟨i, anc, false, dst, op, g⟩ (log.map (·.n))) else X.hp w) (H.dropAll (hideFor ⟨i, anc, false, dst, op, g⟩ (log.map (·.n)))) := by
              cases hb : anyNew ⟨i, anc, false, dst, op, g⟩ log with
              | true => exact hle.hid _ []
              | false => rw [anyNew_nil hl hb]; exact hle
            obtain ⟨v, a1, a2⟩ := opB_rd ho e ht3 hle2
            have hnw : isNw op = false := by simp [isNw, ho]
            refine rdc a1 ?_ ?_ a2 (ht3.dst dst v)
            · simp only [noteB, cond_false, List.map_cons, hnw, readsB_eq ht3 hs]
            · simp only [noteB, cond_false, hnw]
              exact hl.cons (by simp) (by simp) fun h => looks_false h
          · rename_i ho
            have hs := opB_set (by rw [ho]; simp) e
            obtain ⟨v, o, a1, a2⟩ := opB_nw ho e ht3
            have hnw : isNw op = true := by simp [isNw, ho]
            have hd := fun self => one self (v := v) hw (by rw [hrd]; exact a1 self (H.dropAll (hideFor ⟨i, anc, false, dst, op, g⟩ (log.map (·.n)))) (by rw [Heap.next_dropAll]; exact hle.nx.symm))
            obtain ⟨g1, g2⟩ := hle.new o
            have hi1 := hX.st _ _ _ _ hi g1 g2
            have hget : ∀ q, (((H.dropAll (hideFor ⟨i, anc, false, dst, op, g⟩ (log.map (·.n)))).new o).putBack H (hideFor ⟨i, anc, false, dst, op, g⟩ (log.map (·.n)) ++ readFor ⟨i, anc, false, dst, op, g⟩ (log.map (·.n)))).get q = (H.new o).get q := by
              intro q
              rw [Heap.get_putBack, hrd, List.append_nil]
              by_cases hm : q ∈ hideFor ⟨i, anc, false, dst, op, g⟩ (log.map (·.n))
              · have := hideFor_lt hl q hm
                rw [if_pos hm, Heap.get_new, if_neg (by rw [← hle.nx]; omega)]
              · rw [if_neg hm, Heap.get_new, Heap.next_dropAll, Heap.get_new, Heap.get_dropAll, if_neg hm]
            refine wrap (log1 := noteB ⟨i, anc, false, dst, op, g⟩ (vl t3) (X.hp w).next log) rfl (v := v) ?_ a2 (ht3.dst dst v) (hX.ext _ _ _ hi1 (fun q _ => hget q) (by rw [Heap.next_putBack]; show (H.dropAll _).next + 1 = H.next + 1; rw [Heap.next_dropAll]) (by rw [putBack_sh]; show (H.dropAll _).sh = H.sh; rw [dropAll_sh])) ?_ ?_
            · refine Ev.of fun m => ?_
              rw [hd]
              have e1 : ((H.dropAll (hideFor ⟨i, anc, false, dst, op, g⟩ (log.map (·.n)))).new o).next - H.next = 1 := by
                show (H.dropAll _).next + 1 - H.next = 1
                rw [Heap.next_dropAll]; omega
              simp only [e1, noteB, cond_false, List.map_cons, hnw, cond_true, readsB_eq ht3 hs, rangeL, hle.nx]
            · rw [hX.hu]
              refine (g2.mono (fun _ h => h.elim) : Stp Xc _ _ _ _).trans ⟨Nat.le_refl _, fun _ _ h => h, fun q _ _ _ => hget q⟩
            · rw [hX.hu]
              simp only [noteB, cond_false, hnw]
              refine LogOk.cons (hl.le (Nat.le_succ _)) ?_ (by simp) fun h => looks_false h
              intro b hb
              simp only [cond_true, List.mem_singleton] at hb
              subst hb; exact Nat.lt_succ_self _
          · cases e
    · refine wrap (log1 := bif big then log else ⟨⟨i, [], []⟩, false, false⟩ :: log) rfl (v := undef) ?_ e ht3 hi .refl ?_
      · refine Ev.of fun m => ?_
        simp only [doperRun, hw, cond_false]
        cases big <;> rfl
      · cases big with
        | true => exact hl
        | false => exact hl.cons (by simp) (by simp) (by simp)
end
end Go.Proofs.YtdlfdieehioolaaDoor
