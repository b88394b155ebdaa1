/- A region whose order is drawn: each operation that the machine carries out. -/
import Derived.Test.YtdlfdieehioolaaDoorCode4
namespace Go.Proofs.YtdlfdieehioolaaDoor
open Go
set_option linter.unusedVariables false
set_option linter.unusedSimpArgs false
section
variable {P : Program} {N : Nat} {ops : Array Oper} {ds : List DOper} {sf : Self} {sfin : St} {ι0 : Emb} {H0 : Heap} {w0 : World} {a0 : Act} {ds0 : List Nat}
  {listed : Array Bool} {a : Act} {w : World} {ι : Emb} {pre post : List DOper} {s : St} {log : List Note} {Pd : List Pend}
theorem listed_set {listed : Array Bool} {i j : Nat} : (listed.setIfInBounds i true).getD j false = if j = i ∧ i < listed.size then true else listed.getD j false := by
  by_cases h : j = i
  · subst h
    by_cases hl : j < listed.size
    · simp [hl]
    · simp [hl]
  · simp [Array.getElem?_setIfInBounds_ne (Ne.symm h), h]
theorem put_tmps_ne {a : Act} {dst : Option Tmp} {v : Value} {t : Nat} (h : dst ≠ some t) : (a.put dst v).tmps.getD t undef = a.tmps.getD t undef := by
  cases dst with
  | none => rfl
  | some d =>
    have : d ≠ t := fun e => h (by rw [e])
    simp [Act.put, Array.getElem?_setIfInBounds_ne this]
theorem put_tmps_eq {a : Act} {v : Value} {t : Nat} (h : t < a.tmps.size) : (a.put (some t) v).tmps.getD t undef = v := by
  simp [Act.put, h]
theorem DInv.small_exec (hp : PlanF P N ops ds) {F : Fence} (hF : FOk F) {Q : Exit → Act → World → Prop} (h : DInv P N ops ds sf sfin ι0 H0 w0 a0 ds0 listed a w ι pre post s log Pd) {p : Pend} (hpP : p ∈ Pd)
    (hls : p.d.i < listed.size) (hanc : ∀ x ∈ p.d.anc, listed.getD x false = true) {K : Act → World → Prop}
    (hK : ∀ a' w' ι', DInv P N ops ds sf sfin ι0 H0 w0 a0 ds0 (listed.setIfInBounds p.d.i true) a' w' ι' pre post s log (Pd.filter fun q => q.d.i != p.d.i) → K a' w') : wpOpIn F 0 P ops Q p.d.i K a w := by
  have hpre := h.pmem p hpP
  have hpd : p.d ∈ ds := by rw [h.split]; exact List.mem_append_left _ hpre
  obtain ⟨o, ho, hc⟩ := hp.comp p.d hpd
  obtain ⟨c1, c2, c3, c4, c5, c6⟩ := compOper_inv hc
  have hok := h.pok p hpP
  obtain ⟨hev, hgd⟩ := h.evOk hp hpd ho hc hanc
  have hw := wanted_rel (ι := ι) (tm := s.tm) (a := a) hc hgd
  unfold wpOpIn
  simp only [ho]
  rw [hw, hok.guard]
  have hdd := dstOk_le c3 h.asize
  have hmemF : ∀ q, q ∈ (Pd.filter fun q => q.d.i != p.d.i) ↔ q ∈ Pd ∧ q.d.i ≠ p.d.i := by intro q; simp [List.mem_filter]
  have hnew : ∀ r, r ∈ Pd.flatMap Pend.news ↔ r ∈ p.news ∨ r ∈ (Pd.filter fun q => q.d.i != p.d.i).flatMap Pend.news := by
    intro r
    simp only [List.mem_flatMap, hmemF]
    constructor
    · rintro ⟨q, hq, hr⟩
      by_cases e : q.d.i = p.d.i
      · have := h.uniq q hq p hpP e; subst this; exact .inl hr
      · exact .inr ⟨q, ⟨hq, e⟩, hr⟩
    · rintro (hr | ⟨q, ⟨hq, _⟩, hr⟩)
      · exact ⟨p, hpP, hr⟩
      · exact ⟨q, hq, hr⟩
  -- what does not hang on the operation itself
  have rest : ∀ (v' : Value) (w' : World) (ι' : Emb), Ext ι ι' → VR ι' p.v v' → (∀ q ∈ Pd, q.d.i ≠ p.d.i → ∀ r ∈ q.news, ι' r = none) →
      Step P ι0 H0 w0 ι' (s.h.dropAll ((Pd.filter fun q => q.d.i != p.d.i).flatMap Pend.news)) w' →
      DInv P N ops ds sf sfin ι0 H0 w0 a0 ds0 (listed.setIfInBounds p.d.i true) (a.put o.dst v') w' ι' pre post s log (Pd.filter fun q => q.d.i != p.d.i) := by
    intro v' w' ι' hx hv hnone hst
    refine ⟨h.split, h.run, ?_, ?_, ?_, ?_, ?_, ?_, ?_, ?_, ?_, h.dom, hst, ?_, by rw [put_size]; exact h.asize, by rw [put_size]; exact h.tsize, by rw [put_defers']; exact h.dfs, h.sds, h.glob.mono hx⟩
    · intro d hd
      rw [listed_set]
      by_cases e : d.i = p.d.i
      · rw [if_pos ⟨e, hls⟩]
        constructor
        · intro _ q hq hqd; rw [hmemF] at hq; exact hq.2 (hqd.trans e)
        · intro _; rfl
      · rw [if_neg (fun hh => e hh.1), h.done d hd]
        constructor
        · intro hall q hq; rw [hmemF] at hq; exact hall q hq.1
        · intro hall q hq hqd
          exact hall q ((hmemF q).2 ⟨hq, fun hh => e (hqd.symm.trans hh)⟩) hqd
    · intro d hd
      rw [listed_set, if_neg]
      · exact h.todo d hd
      · rintro ⟨e, _⟩
        have : ∃ l1 l2, post = l1 ++ d :: l2 := List.append_of_mem hd
        obtain ⟨l1, l2, e2⟩ := this
        obtain ⟨_, _, q3, _⟩ := hp.order (pre ++ l1) d l2 (by rw [h.split, e2]; simp)
        exact q3 p.d (List.mem_append_left _ hpre) e.symm
    · intro q hq; rw [hmemF] at hq; exact h.pmem q hq.1
    · intro x hx1 y hy1 hxy; rw [hmemF] at hx1 hy1; exact h.uniq x hx1.1 y hy1.1 hxy
    · intro q hq
      rw [hmemF] at hq
      have hqo := h.pok q hq.1
      exact ⟨hqo.small, hqo.guard, hqo.dst, hqo.run, hqo.skipv, hqo.opd, hqo.rd, hqo.made, fun r hr => ⟨(hqo.nx r hr).1, (hqo.nx r hr).2.1, hnone q hq.1 hq.2 r hr⟩⟩
    · intro x hx1 y hy1 hn r hr ob hob; rw [hmemF] at hx1 hy1; exact h.apart x hx1.1 y hy1.1 hn r hr ob hob
    · intro x hx1 y hy1 hne r hr; rw [hmemF] at hx1 hy1; exact h.ndisj x hx1.1 y hy1.1 hne r hr
    · intro q hq; rw [hmemF] at hq; exact h.notes q hq.1
    · intro d hd hl x hx1
      rw [listed_set] at hl ⊢
      split
      · rfl
      · by_cases e : d.i = p.d.i ∧ p.d.i < listed.size
        · have : d = p.d := by
            -- one place, one operation
            have h1 : d ∈ pre ∨ d ∈ post := by rw [h.split] at hd; exact List.mem_append.1 hd
            rcases h1 with h1 | h1
            · obtain ⟨l1, l2, e2⟩ := List.append_of_mem h1
              by_cases hin : p.d ∈ l1
              · obtain ⟨_, _, q3, _⟩ := hp.order l1 d (l2 ++ post) (by rw [h.split, e2]; simp)
                exact absurd e.1.symm (q3 _ hin)
              · have hp2 : p.d = d ∨ p.d ∈ l2 := by
                  rw [e2] at hpre
                  rcases List.mem_append.1 hpre with hh | hh
                  · exact absurd hh hin
                  · exact List.mem_cons.1 hh
                rcases hp2 with hp2 | hp2
                · exact hp2.symm
                · obtain ⟨m1, m2, e3⟩ := List.append_of_mem hp2
                  obtain ⟨_, _, q3, _⟩ := hp.order (l1 ++ d :: m1) p.d (m2 ++ post) (by rw [h.split, e2, e3]; simp)
                  exact absurd e.1 (q3 d (by simp))
            · obtain ⟨l1, l2, e2⟩ := List.append_of_mem h1
              obtain ⟨_, _, q3, _⟩ := hp.order (pre ++ l1) d l2 (by rw [h.split, e2]; simp)
              exact absurd e.1.symm (q3 p.d (List.mem_append_left _ hpre))
          subst this
          exact hanc x hx1
        · rw [if_neg e] at hl
          exact h.closed d hd hl x hx1
    · intro t ht
      by_cases e : o.dst = some t
      · rw [e]
        have hlt : t < a.tmps.size := by rw [e] at hdd; exact Nat.le_of_ble_eq_true hdd
        rw [put_tmps_eq hlt, hok.dst t (by rw [c2]; exact e)]
        exact hv
      · rw [put_tmps_ne e]
        refine (h.tm t fun q hq hqt => ?_).mono hx
        by_cases e2 : q.d.i = p.d.i
        · have := h.uniq q hq p hpP e2; subst this
          exact e (by rw [← c2]; exact hqt)
        · exact ht q ((hmemF q).2 ⟨hq, e2⟩) hqt
  cases hskip : p.skip with
  | true =>
    simp only [Bool.not_true, Bool.false_eq_true, if_false]
    refine ⟨fun f _ => hF.fn f, hK _ _ ι (rest undef w ι (Ext.refl _) (by rw [hok.skipv hskip]; exact VR.undef _) (fun q hq _ r hr => ((h.pok q hq).nx r hr).2.2) ?_)⟩
    refine h.st.regrow ?_ (by simp)
    intro r
    have hpn : p.news = [] := by simp [Pend.news, hskip]
    rw [Heap.get_dropAll, Heap.get_dropAll]
    have := hnew r
    rw [hpn] at this
    simp only [List.not_mem_nil, false_or] at this
    simp only [this]
  | false =>
    simp only [Bool.not_false, if_true]
    have hrun := hok.run hskip
    have hsm := hp.small p.d hpd hok.small
    have hopd := hok.opd hskip o ho
    -- what it reads is there
    have hreads : ReadOk P ι p.Hx w (readsOf p.ev p.d.o.op) := by
      have hrr : p.reads = readsOf p.ev p.d.o.op := by simp [Pend.reads, hskip]
      have vis : ∀ r ∈ readsOf p.ev p.d.o.op, ∀ ob, p.Hx.get r = some ob → (s.h.dropAll (Pd.flatMap Pend.news)).get r = some ob := by
        intro r hr ob hob
        rw [Heap.get_dropAll, if_neg, hok.rd r (by rw [hrr]; exact hr) ob hob]
        intro hm
        obtain ⟨q, hq, hqr⟩ := List.mem_flatMap.1 hm
        refine h.apart p hpP q hq ?_ r (by rw [hrr]; exact hr) ob hob hqr
        intro hqa
        have := hanc _ hqa
        exact ((h.done q.d (h.pmem q hq)).1 this) q hq rfl
      exact ⟨fun r hr ob hob => h.st.sat.obj r ob (vis r hr ob hob), fun r hr r' hr' ob ob' x x' g1 g2 => h.st.sat.apart r r' ob ob' x x' (vis r hr ob g1) (vis r' hr' ob' g2)⟩
    have hsmall := small_sound (dst := o.dst) (ty := o.type) (pos := o.pos) (after := o.after) (guard := o.guard) c1 hsm hrun (fun x hx => by rw [hopd x hx]; exact hev.rel x hx) hev.const hreads
    have hsem : o.semAt F.round a.eval = execOp a.eval o := by
      unfold Oper.semAt
      split
      · rename_i c hop; rw [hop] at c1; simp only [compOp] at c1; cases c1
      · rfl
    refine ⟨fun f _ => hF.fn f, ?_⟩
    rw [hsem]
    have hoeq : (⟨o.dst, o.op, o.type, o.pos, o.after, o.guard⟩ : Oper) = o := rfl
    rw [hoeq] at hsmall
    have fin : ∀ (v' : Value) (w' : World), Runs P (execOp a.eval o) w v' w' → K (a.put o.dst v') w' → o.uponIn F 0 P a K Q ((execOp a.eval o).run P w) := by
      intro v' w' hr hk
      rcases hr with hr | ⟨hr, rfl⟩
      · rw [hr]; exact hk
      · rw [hr]; exact hk
    rcases hsmall with ⟨hH, v', hr, hv⟩ | ⟨ob, c, e, horw, hH, hmk⟩
    · refine fin v' w hr (hK _ _ ι (rest v' w ι (Ext.refl _) hv (fun q hq _ r hr => ((h.pok q hq).nx r hr).2.2) ?_))
      refine h.st.regrow ?_ (by simp)
      intro r
      have hpn : p.news = [] := by unfold Pend.news; rw [hskip, hH, rangeL_same]; rfl
      rw [Heap.get_dropAll, Heap.get_dropAll]
      have := hnew r
      rw [hpn] at this
      simp only [List.not_mem_nil, false_or] at this
      simp only [this]
    · have hpn : p.news = [p.Hx.next] := by unfold Pend.news; rw [hskip, hH, Heap.next_new, rangeL_one]; rfl
      have hnx := hok.nx p.Hx.next (by rw [hpn]; simp)
      obtain ⟨v', hr, hv, hobj⟩ := hmk (ι.set p.Hx.next (w.heap.size, 0, e)) (Ext.set hnx.2.2) (by simp [Emb.set])
      refine fin v' _ hr (hK _ _ _ (rest v' _ _ (Ext.set hnx.2.2) hv ?_ ?_))
      · intro q hq hne r hr
        have h1 := ((h.pok q hq).nx r hr).2.2
        unfold Emb.set
        rw [if_neg]
        · exact h1
        · intro hr2
          exact h.ndisj q hq p hpP hne r hr (by rw [hpn, hr2]; simp)
      · have hnotin : p.Hx.next ∉ (Pd.filter fun q => q.d.i != p.d.i).flatMap Pend.news := by
          intro hm
          obtain ⟨q, hq, hqr⟩ := List.mem_flatMap.1 hm
          rw [hmemF] at hq
          exact h.ndisj q hq.1 p hpP hq.2 _ hqr (by rw [hpn]; simp)
        refine h.st.newAt ?_ (by simp) hnx.2.2 hnx.1 (by simpa using hnx.2.1) hobj horw
        intro r
        rw [Heap.get_dropAll, Heap.get_dropAll]
        by_cases e1 : r = p.Hx.next
        · subst e1
          rw [if_neg hnotin, if_pos rfl]
          exact hok.made hskip ob hH
        · rw [if_neg e1]
          have := hnew r
          rw [hpn] at this
          simp only [List.mem_singleton, e1, false_or] at this
          simp only [this]
theorem DInv.big_exec (hself : SelfOk P sf) (hp : PlanF P N ops ds) {F : Fence} (hF : FOk F) {Q : Exit → Act → World → Prop} {d : DOper}
    (h : DInv P N ops ds sf sfin ι0 H0 w0 a0 ds0 listed a w ι pre (d :: post) s log Pd) (hbig : d.big = true) (hls : d.i < listed.size) (hanc : ∀ x ∈ d.anc, listed.getD x false = true) {K : Act → World → Prop}
    (hK : ∀ a' w' ι' s' , DInv P N ops ds sf sfin ι0 H0 w0 a0 ds0 (listed.setIfInBounds d.i true) a' w' ι' (pre ++ [d]) post s' log Pd → K a' w') : wpOpIn F 0 P ops Q d.i K a w := by
  have hpd : d ∈ ds := by rw [h.split]; simp
  obtain ⟨o, ho, hc⟩ := hp.comp d hpd
  obtain ⟨c1, c2, c3, c4, c5, c6⟩ := compOper_inv hc
  obtain ⟨g1, g2, g3, g4⟩ := hp.order pre d post h.split
  obtain ⟨hev, hgd⟩ := h.evOk hp hpd ho hc hanc
  have hw := wanted_rel (ι := ι) (tm := s.tm) (a := a) hc hgd
  have hdd := dstOk_le c3 h.asize
  have hpn : ∀ p ∈ Pd, p.d.i ∉ d.anc := by
    intro p hpP hin
    exact ((h.done p.d (h.pmem p hpP)).1 (hanc _ hin)) p hpP rfl
  have hpne : ∀ p ∈ Pd, p.d.i ≠ d.i := fun p hpP => g3 p.d (h.pmem p hpP)
  have hkeep : ∀ p ∈ Pd, ∀ t, d.o.dst = some t → t ∉ readsTmp ops p.d.i ∧ p.d.o.dst ≠ some t := fun p hpP t ht => h.keepTm hp rfl hpP (fun _ => hpn p hpP) ht
  have hrun := h.run
  simp only [dopsRun] at hrun
  cases hd : doperRun sf d s log with
  | none => simp [hd] at hrun
  | some r =>
  obtain ⟨s1, log1⟩ := r
  simp only [hd] at hrun
  unfold doperRun at hd
  -- what does not hang on the operation itself
  have rest : ∀ (v v' : Value) (h1 : Heap) (w' : World) (ι' : Emb), Ext ι ι' → VR ι' v v' → (∀ q ∈ Pd, ∀ r ∈ q.news, ι' r = none) → s.h.next ≤ h1.next →
      (∀ q ∈ Pd, ∀ r, r ∈ q.news ∨ r ∈ q.reads → h1.get r = s.h.get r) → (∀ r ob, h1.get r = some ob → r < h1.next) →
      dopsRun sf post { s with tm := setDst s.tm d.o.dst v, h := h1 } log = some sfin →
      Step P ι0 H0 w0 ι' (h1.dropAll (Pd.flatMap Pend.news)) w' →
      DInv P N ops ds sf sfin ι0 H0 w0 a0 ds0 (listed.setIfInBounds d.i true) (a.put o.dst v') w' ι' (pre ++ [d]) post { s with tm := setDst s.tm d.o.dst v, h := h1 } log Pd := by
    intro v v' h1 w' ι' hx hv hnone hn hsame hdom hrun' hst
    refine ⟨by rw [h.split]; simp, hrun', ?_, ?_, ?_, h.uniq, ?_, h.apart, h.ndisj, h.notes, ?_, hdom, hst, ?_, by rw [put_size]; exact h.asize, by rw [put_size]; exact h.tsize, by rw [put_defers']; exact h.dfs, h.sds, h.glob.mono hx⟩
    · intro x hx1
      rw [listed_set]
      rcases List.mem_append.1 hx1 with hx1 | hx1
      · rw [if_neg (fun hh => g3 x hx1 hh.1)]
        exact h.done x hx1
      · have : x = d := by simpa using hx1
        subst this
        rw [if_pos ⟨rfl, hls⟩]
        exact ⟨fun _ p hpP => hpne p hpP, fun _ => rfl⟩
    · intro x hx1
      rw [listed_set, if_neg]
      · exact h.todo x (List.mem_cons_of_mem _ hx1)
      · rintro ⟨e, _⟩
        obtain ⟨l1, l2, e2⟩ := List.append_of_mem hx1
        obtain ⟨_, _, q3, _⟩ := hp.order (pre ++ d :: l1) x l2 (by rw [h.split, e2]; simp)
        exact q3 d (by simp) e.symm
    · intro p hpP; exact List.mem_append_left _ (h.pmem p hpP)
    · intro p hpP
      have hpo := h.pok p hpP
      obtain ⟨op, hop, hcp⟩ := hp.comp p.d (by rw [h.split]; exact List.mem_append_left _ (h.pmem p hpP))
      have hpr : p.skip = false → p.reads = readsOf p.ev p.d.o.op := fun hs => by simp [Pend.reads, hs]
      refine ⟨hpo.small, ?_, ?_, hpo.run, hpo.skipv, ?_, ?_, ?_, ?_⟩
      · rw [← hpo.guard]
        exact wanted_set fun t ht hg => (hkeep p hpP t ht).1 (guard_tmp hop hcp hg)
      · intro t ht
        rw [← hpo.dst t ht]
        have : ∀ u, d.o.dst = some u → t ≠ u := fun u hu e => (hkeep p hpP u hu).2 (by rw [ht, e])
        cases hdd2 : d.o.dst with
        | none => rfl
        | some u => simp [setDst, Tr.get_set, this u hdd2]
      · intro hs o' ho' x hx1
        rw [hpo.opd hs o' ho' x hx1]
        exact (val_set fun t ht hxt => (hkeep p hpP t ht).1 (opd_tmp ho' (hxt ▸ hx1))).symm
      · intro r hr ob hob
        show h1.get r = some ob
        rw [hsame p hpP r (.inr hr)]; exact hpo.rd r hr ob hob
      · intro hs ob hob
        show h1.get p.Hx.next = some ob
        have : p.Hx.next ∈ p.news := by unfold Pend.news; rw [hs, hob, Heap.next_new, rangeL_one]; simp
        rw [hsame p hpP _ (.inl this)]; exact hpo.made hs ob hob
      · intro r hr
        obtain ⟨k1, k2, _⟩ := hpo.nx r hr
        exact ⟨k1, Nat.lt_of_lt_of_le k2 hn, hnone p hpP r hr⟩
    · intro x hx1 hl y hy
      rw [listed_set] at hl ⊢
      split
      · rfl
      · by_cases e : x.i = d.i ∧ d.i < listed.size
        · have : x = d := by
            have h1 : x ∈ pre ∨ x ∈ d :: post := by rw [h.split] at hx1; exact List.mem_append.1 hx1
            rcases h1 with h1 | h1
            · exact absurd e.1 (g3 x h1)
            · rcases List.mem_cons.1 h1 with h1 | h1
              · exact h1
              · obtain ⟨l1, l2, e2⟩ := List.append_of_mem h1
                obtain ⟨_, _, q3, _⟩ := hp.order (pre ++ d :: l1) x l2 (by rw [h.split, e2]; simp)
                exact absurd e.1.symm (q3 d (by simp))
          subst this
          exact hanc y hy
        · rw [if_neg e] at hl
          exact h.closed x hx1 hl y hy
    · intro t ht
      by_cases e : o.dst = some t
      · rw [e]
        have hlt : t < a.tmps.size := by rw [e] at hdd; exact Nat.le_of_ble_eq_true hdd
        rw [put_tmps_eq hlt]
        have : (setDst s.tm d.o.dst v).get t = some v := by rw [c2, e]; simp [setDst, Tr.get_set]
        show VR ι' (((setDst s.tm d.o.dst v).get t).getD undef) v'
        rw [this]; exact hv
      · rw [put_tmps_ne e]
        have : (setDst s.tm d.o.dst v).get t = s.tm.get t := by
          rw [c2]
          cases hod : o.dst with
          | none => rfl
          | some u =>
            have : t ≠ u := fun hh => e (by rw [hod, hh])
            simp [setDst, Tr.get_set, this]
        show VR ι' (((setDst s.tm d.o.dst v).get t).getD undef) (a.tmps.getD t undef)
        rw [this]
        exact (h.tm t ht).mono hx
  unfold wpOpIn
  simp only [ho]
  rw [hw]
  cases hwa : wantedA s.tm d.o.guard with
  | false =>
    rw [hwa] at hd
    simp only [cond_false, hbig, cond_true, Option.some.injEq, Prod.mk.injEq] at hd
    obtain ⟨rfl, rfl⟩ := hd
    simp only [Bool.false_eq_true, if_false]
    exact ⟨fun f _ => hF.fn f, hK _ _ ι _ (rest undef undef s.h w ι (Ext.refl _) (VR.undef _) (fun q hq r hr => ((h.pok q hq).nx r hr).2.2) (Nat.le_refl _) (fun _ _ _ _ => rfl) h.dom hrun h.st)⟩
  | true =>
    rw [hwa] at hd
    simp only [cond_true] at hd
    simp only [if_true]
    cases hfit : (hideFor d log).all (fun r => Nat.blt r s.h.next) with
    | false => rw [hfit] at hd; cases hd
    | true =>
      rw [hfit] at hd
      simp only [cond_true] at hd
      cases hop : opRun sf (St.val s.tm) ((s.h.dropAll (hideFor d log)).roAll (readFor d log)) d.o.op with
      | none => simp [hop] at hd
      | some r =>
        obtain ⟨v, HA⟩ := r
        simp only [hop, hbig, cond_true, Option.some.injEq, Prod.mk.injEq] at hd
        obtain ⟨rfl, rfl⟩ := hd
        -- what is pending is out of sight
        have hhid : ∀ q ∈ Pd, ∀ r, r ∈ q.news → r ∈ hideFor d log := by
          intro q hq r hr
          obtain ⟨e, he, e1, e2, e3⟩ := h.notes q hq
          have hh : ∀ (l : List Note), e ∈ l → r ∈ hideFor d l := by
            intro l
            induction l with
            | nil => intro h; cases h
            | cons y l ih =>
              intro hm
              simp only [hideFor]
              rcases List.mem_cons.1 hm with rfl | hm
              · have : d.anc.contains e.i = false := by simpa [e1] using hpn q hq
                rw [this]
                simp only [cond_false, List.mem_append]
                left
                rw [e2]; exact hr
              · cases hcc : d.anc.contains y.i with
                | true => simpa using ih hm
                | false => simp only [cond_false, List.mem_append]; exact .inr (ih hm)
          exact hh log he
        have hrdd : ∀ q ∈ Pd, ∀ r, r ∈ q.reads → r ∈ readFor d log := by
          intro q hq r hr
          obtain ⟨e, he, e1, e2, e3⟩ := h.notes q hq
          have hh : ∀ (l : List Note), e ∈ l → r ∈ readsBeside d l := by
            intro l
            induction l with
            | nil => intro h; cases h
            | cons y l ih =>
              intro hm
              simp only [readsBeside]
              rcases List.mem_cons.1 hm with rfl | hm
              · have : d.anc.contains e.i = false := by simpa [e1] using hpn q hq
                rw [this]
                simp only [cond_false, List.mem_append]
                left
                rw [e3]; exact hr
              · cases hcc : d.anc.contains y.i with
                | true => simpa using ih hm
                | false => simp only [cond_false, List.mem_append]; exact .inr (ih hm)
          unfold readFor; rw [hbig]; exact hh log he
        have hnotin : ∀ r, r ∉ hideFor d log → r ∉ Pd.flatMap Pend.news := by
          intro r hnh hm
          obtain ⟨q, hq, hqr⟩ := List.mem_flatMap.1 hm
          exact hnh (hhid q hq r hqr)
        have hview : View ((s.h.dropAll (hideFor d log)).roAll (readFor d log)) (s.h.dropAll (Pd.flatMap Pend.news)) := by
          intro r ob hob
          rw [Heap.get_roAll, Heap.get_dropAll] at hob
          rw [Heap.get_dropAll]
          by_cases hh : r ∈ hideFor d log
          · rw [if_pos hh] at hob
            split at hob <;> cases hob
          · rw [if_neg hh] at hob
            rw [if_neg (hnotin r hh)]
            split at hob
            · cases hsr : s.h.get r with
              | none => rw [hsr] at hob; cases hob
              | some o0 => rw [hsr] at hob; exact ⟨o0, rfl, .inr hob⟩
            · exact ⟨ob, hob, .inl rfl⟩
        have hsatV : Sat P ι ((s.h.dropAll (hideFor d log)).roAll (readFor d log)) w := h.st.sat.view hview (by simp)
        refine opRun_sound hself hF c1 c5 hsatV h.glob hev hop ?_
        intro ι' v' w' hv hst
        have hnx : s.h.next ≤ HA.next := by have := hst.next; simpa using this
        have hnone : ∀ q ∈ Pd, ∀ r ∈ q.news, ι' r = none := by
          intro q hq r hr
          obtain ⟨_, k2, k3⟩ := (h.pok q hq).nx r hr
          cases hi : ι' r with
          | none => rfl
          | some x =>
            rcases hst.dom r x hi with hd | ⟨hd, _⟩
            · rw [k3] at hd; cases hd
            · simp at hd; omega
        refine hK _ _ ι' _ (rest v v' _ w' ι' hst.ext hv hnone (by rw [Heap.next_putBack]; exact hnx) ?_ ?_ hrun ?_)
        · intro q hq r hr
          rw [Heap.get_putBack, if_pos]
          rcases hr with hr | hr
          · exact List.mem_append_left _ (hhid q hq r hr)
          · exact List.mem_append_right _ (hrdd q hq r hr)
        · intro r ob hob
          rw [Heap.get_putBack] at hob
          rw [Heap.next_putBack]
          split at hob
          · have := h.dom r ob hob; omega
          · obtain ⟨b, dd, e, c, k1, _⟩ := hst.sat.obj r ob hob
            exact hst.sat.fresh r _ k1
        · refine h.st.trans (Step.beside (V := (s.h.dropAll (hideFor d log)).roAll (readFor d log)) (V' := HA) h.st.sat (by simp) hview hst (by simp) ?_)
          intro r ob hob
          rw [Heap.get_dropAll] at hob
          split at hob
          · cases hob
          · rename_i hnm
            rw [Heap.get_putBack] at hob
            split at hob
            · rename_i hin
              right
              refine ⟨by rw [Heap.get_dropAll, if_neg hnm]; exact hob, fun o1 ho1 => ?_⟩
              rw [Heap.get_roAll, Heap.get_dropAll] at ho1
              by_cases hh : r ∈ hideFor d log
              · rw [if_pos hh] at ho1
                split at ho1 <;> cases ho1
              · rw [if_neg hh, if_pos ((List.mem_append.1 hin).resolve_left hh), hob] at ho1
                exact roOf_rw ho1
            · rename_i hin
              left
              refine ⟨hob, fun o0 ho0 => ?_⟩
              rw [Heap.get_roAll, if_neg (fun hh => hin (List.mem_append_right _ hh)), Heap.get_dropAll, if_neg (fun hh => hin (List.mem_append_left _ hh))] at ho0
              rw [Heap.get_dropAll, if_neg hnm]; exact ho0
end
end Go.Proofs.YtdlfdieehioolaaDoor
