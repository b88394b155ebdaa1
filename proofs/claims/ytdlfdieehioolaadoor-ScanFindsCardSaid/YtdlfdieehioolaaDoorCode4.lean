/- A region whose order is drawn: whatever the order, the model comes to what the plan's order gives. -/
import Derived.Test.YtdlfdieehioolaaDoorCode3
namespace Go.Proofs.YtdlfdieehioolaaDoor
open Go
set_option linter.unusedVariables false
set_option linter.unusedSimpArgs false
section
variable {P : Program}
theorem Step.regrow {ι0 ι : Emb} {H0 Hc Hd : Heap} {w0 w : World} (h : Step P ι0 H0 w0 ι Hc w) (hg : ∀ r, Hd.get r = Hc.get r) (hn : Hc.next ≤ Hd.next) : Step P ι0 H0 w0 ι Hd w where
  ext := h.ext
  sat := ⟨fun r o hr => h.sat.obj r o (by rw [← hg]; exact hr), fun r r' o o' x x' hr hr' => h.sat.apart r r' o o' x x' (by rw [← hg]; exact hr) (by rw [← hg]; exact hr'), fun r x hx => Nat.lt_of_lt_of_le (h.sat.fresh r x hx) hn⟩
  dom := fun r x hx => (h.dom r x hx).imp id fun ⟨a, b⟩ => ⟨a, Nat.lt_of_lt_of_le b hn⟩
  next := Nat.le_trans h.next hn
  frame := h.frame
  size := h.size
  os := h.os
  tape := h.tape
  output := h.output
  old := fun r o x hr hx => h.old r o x (by rw [← hg]; exact hr) hx
  ro := fun r o hr hw => h.ro r o (by rw [← hg]; exact hr) hw
theorem Step.newAt {ι0 ι : Emb} {H0 Hc Hd : Heap} {w0 w : World} {k e : Nat} {ob : AObj} {c : Obj} (h : Step P ι0 H0 w0 ι Hc w) (hg : ∀ r, Hd.get r = if r = k then some ob else Hc.get r) (hn : Hd.next = Hc.next)
    (hk : ι k = none) (h0 : H0.next ≤ k) (hlt : k < Hc.next) (hc : ObjR P (ι.set k (w.heap.size, 0, e)) ob c 0 e) (horw : ob.rw = true) : Step P ι0 H0 w0 (ι.set k (w.heap.size, 0, e)) Hd (w.alloc c) := by
  have hx : Ext ι (ι.set k (w.heap.size, 0, e)) := Ext.set hk
  have hs : ∀ j, j < w.heap.size → (w.alloc c).heap[j]? = w.heap[j]? := fun j hj => Go.RowKit.Below.heap_alloc w c j hj
  refine ⟨h.ext.trans hx, ⟨?_, ?_, ?_⟩, ?_, by rw [hn]; exact h.next, ?_, ?_, h.os, h.tape, h.output, ?_, ?_⟩
  · intro r o hr
    rw [hg] at hr
    by_cases h1 : r = k
    · rw [if_pos h1] at hr; cases hr; subst h1
      exact ⟨w.heap.size, 0, e, c, by simp [Emb.set], World.alloc_heap_new w c, hc⟩
    · rw [if_neg h1] at hr
      obtain ⟨b, d, e', c', g1, g2, g3⟩ := h.sat.obj r o hr
      exact ⟨b, d, e', c', hx _ _ g1, (hs b (Array.getElem?_eq_some_iff.1 g2).1).trans g2, g3.mono hx⟩
  · intro r r' o o' x x' hr hr' hne how hxr hxr'
    rw [hg] at hr hr'
    unfold Emb.set at hxr hxr'
    by_cases h1 : r = k
    · have h2 : ¬ r' = k := fun h2 => hne (h1.trans h2.symm)
      rw [if_pos h1] at hxr
      rw [if_neg h2] at hr' hxr'
      have := h.sat.lt hr' hxr'
      cases hxr; simp; omega
    · rw [if_neg h1] at hr hxr
      by_cases h2 : r' = k
      · rw [if_pos h2] at hxr'
        have := h.sat.lt hr hxr
        cases hxr'; simp; omega
      · rw [if_neg h2] at hr' hxr'
        exact h.sat.apart r r' o o' x x' hr hr' hne how hxr hxr'
  · intro r x hr
    unfold Emb.set at hr
    by_cases h1 : r = k
    · rw [hn, h1]; exact hlt
    · rw [if_neg h1] at hr; rw [hn]; exact h.sat.fresh r x hr
  · intro r x hr
    unfold Emb.set at hr
    by_cases h1 : r = k
    · right; rw [h1, hn]; exact ⟨h0, hlt⟩
    · rw [if_neg h1] at hr; rw [hn]; exact h.dom r x hr
  · intro b hb hf
    rw [hs b (Nat.lt_of_lt_of_le hb h.size)]; exact h.frame b hb hf
  · rw [World.size_alloc]; have := h.size; omega
  · intro r o x hr hxr
    rw [hg] at hr
    unfold Emb.set at hxr
    by_cases h1 : r = k
    · rw [if_pos h1] at hxr; cases hxr; exact .inl h.size
    · rw [if_neg h1] at hr hxr; exact h.old r o x hr hxr
  · intro r o hr hw
    rw [hg] at hr
    by_cases h1 : r = k
    · rw [if_pos h1] at hr; cases hr; rw [horw] at hw; cases hw
    · rw [if_neg h1] at hr; exact h.ro r o hr hw
theorem rangeL_same (n : Nat) : rangeL n (n - n) = [] := by rw [Nat.sub_self]; rfl
theorem rangeL_one (n : Nat) : rangeL n (n + 1 - n) = [n] := by rw [Nat.add_sub_cancel_left]; rfl
structure Pend where
  d : DOper
  ev : Operand → Value
  Hx : Heap
  Hy : Heap
  v : Value
  skip : Bool
def Pend.news (p : Pend) : List Nat := if p.skip then [] else rangeL p.Hx.next (p.Hy.next - p.Hx.next)
def Pend.reads (p : Pend) : List Nat := if p.skip then [] else readsOf p.ev p.d.o.op
structure PendOk (ops : Array Oper) (ι : Emb) (n0 : Nat) (s : St) (p : Pend) : Prop where
  small : p.d.big = false
  guard : wantedA s.tm p.d.o.guard = !p.skip
  dst : ∀ t, p.d.o.dst = some t → s.tm.get t = some p.v
  run : p.skip = false → aop p.ev p.Hx p.d.o.op = some (p.v, p.Hy)
  skipv : p.skip = true → p.v = undef
  opd : p.skip = false → ∀ o, ops[p.d.i]? = some o → ∀ x ∈ o.op.operands.toList, p.ev x = St.val s.tm x
  rd : ∀ r ∈ p.reads, ∀ ob, p.Hx.get r = some ob → s.h.get r = some ob
  made : p.skip = false → ∀ ob, p.Hy = p.Hx.new ob → s.h.get p.Hx.next = some ob
  nx : ∀ r ∈ p.news, n0 ≤ r ∧ r < s.h.next ∧ ι r = none
structure DInv (P : Program) (N : Nat) (ops : Array Oper) (ds : List DOper) (sf : Self) (sfin : St) (ι0 : Emb) (H0 : Heap) (w0 : World) (a0 : Act) (ds0 : List Nat)
    (listed : Array Bool) (a : Act) (w : World) (ι : Emb) (pre post : List DOper) (s : St) (log : List Note) (Pd : List Pend) : Prop where
  split : ds = pre ++ post
  run : dopsRun sf post s log = some sfin
  done : ∀ d ∈ pre, (listed.getD d.i false = true ↔ ∀ p ∈ Pd, p.d.i ≠ d.i)
  todo : ∀ d ∈ post, listed.getD d.i false = false
  pmem : ∀ p ∈ Pd, p.d ∈ pre
  uniq : ∀ p ∈ Pd, ∀ q ∈ Pd, p.d.i = q.d.i → p = q
  pok : ∀ p ∈ Pd, PendOk ops ι H0.next s p
  apart : ∀ p ∈ Pd, ∀ q ∈ Pd, q.d.i ∉ p.d.anc → ∀ r ∈ p.reads, ∀ ob, p.Hx.get r = some ob → r ∉ q.news
  ndisj : ∀ p ∈ Pd, ∀ q ∈ Pd, p.d.i ≠ q.d.i → ∀ r ∈ p.news, r ∉ q.news
  notes : ∀ p ∈ Pd, ∃ e ∈ log, e.i = p.d.i ∧ e.news = p.news ∧ e.reads = p.reads
  closed : ∀ d ∈ ds, listed.getD d.i false = true → ∀ x ∈ d.anc, listed.getD x false = true
  dom : ∀ r ob, s.h.get r = some ob → r < s.h.next
  st : Step P ι0 H0 w0 ι (s.h.dropAll (Pd.flatMap Pend.news)) w
  tm : ∀ t, (∀ p ∈ Pd, p.d.o.dst ≠ some t) → VR ι ((s.tm.get t).getD undef) (a.tmps.getD t undef)
  asize : N ≤ a.tmps.size
  tsize : a.tmps.size = a0.tmps.size
  dfs : a.defers = a0.defers
  sds : s.ds = ds0
  glob : Glob P ι
section
variable {N : Nat} {ops : Array Oper} {ds : List DOper} {sf : Self} {sfin : St} {ι0 : Emb} {H0 : Heap} {w0 : World} {a0 : Act} {ds0 : List Nat}
  {listed : Array Bool} {a : Act} {w : World} {ι : Emb} {pre post : List DOper} {s : St} {log : List Note} {Pd : List Pend}
theorem PlanF.dst (hp : PlanF P N ops ds) {d : DOper} (hd : d ∈ ds) : d.o.dst = dstOf ops d.i := by
  obtain ⟨o, ho, hc⟩ := hp.comp d hd
  obtain ⟨_, h, _⟩ := compOper_inv hc
  rw [h]; simp [dstOf, ho]
theorem DInv.quiet (hp : PlanF P N ops ds) (h : DInv P N ops ds sf sfin ι0 H0 w0 a0 ds0 listed a w ι pre post s log Pd) {d : DOper} (hd : d ∈ ds)
    (hanc : ∀ x ∈ d.anc, listed.getD x false = true) {p : Pend} (hpP : p ∈ Pd) (hne : p.d.i ≠ d.i) {t : Nat} (ht : p.d.o.dst = some t) : t ∉ readsTmp ops d.i := by
  intro hr
  have hpd : p.d ∈ ds := by rw [h.split]; exact List.mem_append_left _ (h.pmem p hpP)
  rw [hp.dst hpd] at ht
  rcases (hp.tmps d hd p.d hpd (Ne.symm hne) t ht).2 hr with h1 | ⟨h1, _⟩
  · have h2 := hanc _ h1
    have := ((h.done p.d (h.pmem p hpP)).1 h2) p hpP
    exact this rfl
  · rw [(h.pok p hpP).small] at h1; cases h1
theorem opd_tmp {o : Oper} {i : Nat} (ho : ops[i]? = some o) {t : Nat} (ht : Operand.tmp t ∈ o.op.operands.toList) : t ∈ readsTmp ops i := by
  unfold readsTmp
  rw [ho]
  exact List.mem_append_left _ (List.mem_filterMap.2 ⟨.tmp t, ht, rfl⟩)
theorem guard_tmp {o : Oper} {i : Nat} {x : AOper} (ho : ops[i]? = some o) (hc : compOper P N ops o = some x) {t : Nat} (ht : x.guard.map (·.1) = some t) : t ∈ readsTmp ops i := by
  obtain ⟨_, _, _, _, _, hg⟩ := compOper_inv hc
  unfold readsTmp
  rw [ho]
  refine List.mem_append_right _ ?_
  cases hog : o.guard with
  | none => rw [hog] at hg; simp only at hg; rw [hg] at ht; cases ht
  | some g =>
    obtain ⟨j, want⟩ := g
    rw [hog] at hg
    obtain ⟨t', h1, h2⟩ := hg
    rw [h2] at ht; simp at ht; subst ht
    simp [h1]
theorem DInv.evOk (hp : PlanF P N ops ds) (h : DInv P N ops ds sf sfin ι0 H0 w0 a0 ds0 listed a w ι pre post s log Pd) {d : DOper} (hd : d ∈ ds) {o : Oper} (ho : ops[d.i]? = some o) (hc : compOper P N ops o = some d.o)
    (hanc : ∀ x ∈ d.anc, listed.getD x false = true) : EvOk P ι (St.val s.tm) a.eval o.op.operands.toList ∧ ∀ t, d.o.guard.map (·.1) = some t → VR ι ((s.tm.get t).getD undef) (a.tmps.getD t undef) := by
  have key : ∀ t, t ∈ readsTmp ops d.i → VR ι ((s.tm.get t).getD undef) (a.tmps.getD t undef) := by
    intro t ht
    refine h.tm t fun p hpP hdst => ?_
    by_cases hne : p.d.i = d.i
    · have hpd : p.d ∈ ds := by rw [h.split]; exact List.mem_append_left _ (h.pmem p hpP)
      rw [hp.dst hpd] at hdst
      have := hp.own p.d hpd t hdst
      rw [hne] at this; exact this ht
    · exact h.quiet hp hd hanc hpP hne hdst ht
  obtain ⟨_, _, _, c4, _, _⟩ := compOper_inv hc
  refine ⟨⟨fun x hx => ?_, fun _ => rfl, fun _ => rfl⟩, fun t ht => key t (guard_tmp ho hc ht)⟩
  have hok := List.all_eq_true.1 c4 x hx
  cases x with
  | tmp t => exact key t (opd_tmp ho hx)
  | const v => exact valOk_VR hok
  | global g => exact .atom (.ptr 0 (h.glob g (Nat.le_of_ble_eq_true hok)))
  | func f => exact .val (.cell (.fn f .nil .nil))
theorem val_set {tm : Tr Value} {dst : Option Nat} {v : Value} {x : Operand} (h : ∀ t, dst = some t → x ≠ .tmp t) : St.val (setDst tm dst v) x = St.val tm x := by
  cases dst with
  | none => rfl
  | some d => cases x with
    | tmp t =>
      have : t ≠ d := fun e => h d rfl (by rw [e])
      simp [St.val, setDst, Tr.get_set, this]
    | _ => rfl
theorem wanted_set {tm : Tr Value} {dst : Option Nat} {v : Value} {g : Option (Nat × Bool)} (h : ∀ t, dst = some t → g.map (·.1) ≠ some t) : wantedA (setDst tm dst v) g = wantedA tm g := by
  cases dst with
  | none => rfl
  | some d => cases g with
    | none => rfl
    | some g =>
      obtain ⟨t, want⟩ := g
      have : t ≠ d := fun e => h d rfl (by simp [e])
      simp [wantedA, setDst, Tr.get_set, this]
theorem DInv.keepTm (hp : PlanF P N ops ds) (h : DInv P N ops ds sf sfin ι0 H0 w0 a0 ds0 listed a w ι pre post s log Pd) {d : DOper} {post' : List DOper} (hpost : post = d :: post') {p : Pend} (hpP : p ∈ Pd)
    (hb : d.big = true → p.d.i ∉ d.anc) {t : Nat} (ht : d.o.dst = some t) : t ∉ readsTmp ops p.d.i ∧ p.d.o.dst ≠ some t := by
  have hdd : d ∈ ds := by rw [h.split, hpost]; simp
  have hpp : p.d ∈ pre := h.pmem p hpP
  have hpd : p.d ∈ ds := by rw [h.split]; exact List.mem_append_left _ hpp
  obtain ⟨g1, g2, g3, g4⟩ := hp.order pre d post' (by rw [h.split, hpost])
  have hne : p.d.i ≠ d.i := g3 p.d hpp
  rw [hp.dst hdd] at ht
  obtain ⟨k1, k2⟩ := hp.tmps p.d hpd d hdd hne t ht
  refine ⟨fun hr => ?_, by rw [hp.dst hpd]; exact k1⟩
  rcases k2 hr with h1 | ⟨h1, h2⟩
  · -- d before p: then d stands ahead of p in the plan
    obtain ⟨l1, l2, hsplit⟩ := List.append_of_mem hpp
    obtain ⟨q1, _, _, _⟩ := hp.order l1 p.d (l2 ++ d :: post') (by rw [h.split, hpost, hsplit]; simp)
    obtain ⟨e, he, hei⟩ := q1 _ h1
    exact g3 e (by rw [hsplit]; exact List.mem_append_left _ he) hei
  · exact hb h1 h2
theorem DInv.advance {d : DOper} (hp : PlanF P N ops ds) (h : DInv P N ops ds sf sfin ι0 H0 w0 a0 ds0 listed a w ι pre (d :: post) s log Pd) (hsm : d.big = false) :
    ∃ s1 log1 p, p.d = d ∧ DInv P N ops ds sf sfin ι0 H0 w0 a0 ds0 listed a w ι (pre ++ [d]) post s1 log1 (p :: Pd) := by
  have hdd : d ∈ ds := by rw [h.split]; simp
  obtain ⟨o, ho, hc⟩ := hp.comp d hdd
  obtain ⟨g1, g2, g3, g4⟩ := hp.order pre d post h.split
  have hsmall := hp.small d hdd hsm
  have hrun := h.run
  simp only [dopsRun] at hrun
  cases hd : doperRun sf d s log with
  | none => simp [hd] at hrun
  | some r =>
    obtain ⟨s1, log1⟩ := r
    simp only [hd] at hrun
    have hpne : ∀ p ∈ Pd, p.d.i ≠ d.i := fun p hpP => g3 p.d (h.pmem p hpP)
    have hkeep : ∀ p ∈ Pd, ∀ t, d.o.dst = some t → t ∉ readsTmp ops p.d.i ∧ p.d.o.dst ≠ some t := fun p hpP t ht => h.keepTm hp rfl hpP (fun hb => by rw [hsm] at hb; cases hb) ht
    have hrf : readFor d log = [] := by unfold readFor; rw [hsm]; rfl
    unfold doperRun at hd
    rw [hrf] at hd
    simp only [Heap.roAll, List.append_nil] at hd
    -- the common part: what becomes of what is pending already
    have common : ∀ (v : Value) (h1 : Heap), (∀ r ob, s.h.get r = some ob → h1.get r = some ob) → s.h.next ≤ h1.next → ∀ p ∈ Pd, PendOk ops ι H0.next { s with tm := setDst s.tm d.o.dst v, h := h1 } p := by
      intro v h1 hh hn p hpP
      have hpo := h.pok p hpP
      obtain ⟨op, hop, hcp⟩ := hp.comp p.d (by rw [h.split]; exact List.mem_append_left _ (h.pmem p hpP))
      refine ⟨hpo.small, ?_, ?_, hpo.run, hpo.skipv, ?_, ?_, ?_, ?_⟩
      · rw [← hpo.guard]
        exact wanted_set fun t ht hg => (hkeep p hpP t ht).1 (guard_tmp hop hcp hg)
      · intro t ht
        rw [← hpo.dst t ht]
        have : ∀ u, d.o.dst = some u → t ≠ u := fun u hu e => (hkeep p hpP u hu).2 (by rw [ht, e])
        cases hdd2 : d.o.dst with
        | none => rfl
        | some u => simp [setDst, Tr.get_set, this u hdd2]
      · intro hs o' ho' x hx
        rw [hpo.opd hs o' ho' x hx]
        exact (val_set fun t ht hxt => (hkeep p hpP t ht).1 (opd_tmp ho' (hxt ▸ hx))).symm
      · intro r hr ob hob; exact hh r ob (hpo.rd r hr ob hob)
      · intro hs ob hob; exact hh _ _ (hpo.made hs ob hob)
      · intro r hr
        obtain ⟨k1, k2, k3⟩ := hpo.nx r hr
        exact ⟨k1, Nat.lt_of_lt_of_le k2 hn, k3⟩
    have tmkeep : ∀ (v : Value) t, (∀ p ∈ Pd, p.d.o.dst ≠ some t) → d.o.dst ≠ some t → VR ι (((setDst s.tm d.o.dst v).get t).getD undef) (a.tmps.getD t undef) := by
      intro v t ht hne
      have hb := h.tm t ht
      cases hdd2 : d.o.dst with
      | none => exact hb
      | some u =>
        have : t ≠ u := fun e => hne (by rw [hdd2, e])
        simpa [setDst, Tr.get_set, this] using hb
    have doneP : ∀ (q : Pend), q.d = d → ∀ x ∈ pre ++ [d], (listed.getD x.i false = true ↔ ∀ p ∈ q :: Pd, p.d.i ≠ x.i) := by
      intro q hq x hx
      rcases List.mem_append.1 hx with hx | hx
      · rw [h.done x hx]
        constructor
        · intro hall p hpP
          rcases List.mem_cons.1 hpP with rfl | hpP
          · rw [hq]; exact fun e => g3 x hx e.symm
          · exact hall p hpP
        · intro hall p hpP; exact hall p (List.mem_cons_of_mem _ hpP)
      · have : x = d := by simpa using hx
        subst this
        constructor
        · intro hl; rw [h.todo x (List.mem_cons_self ..)] at hl; cases hl
        · intro hall; exact absurd (by rw [hq]) (hall q (List.mem_cons_self ..))
    have uniqP : ∀ (q : Pend), q.d = d → ∀ x ∈ q :: Pd, ∀ y ∈ q :: Pd, x.d.i = y.d.i → x = y := by
      intro q hq x hx y hy hxy
      rcases List.mem_cons.1 hx with hx1 | hx1
      · rcases List.mem_cons.1 hy with hy1 | hy1
        · rw [hx1, hy1]
        · rw [hx1, hq] at hxy; exact absurd hxy.symm (hpne y hy1)
      · rcases List.mem_cons.1 hy with hy1 | hy1
        · rw [hy1, hq] at hxy; exact absurd hxy (hpne x hx1)
        · exact h.uniq x hx1 y hy1 hxy
    have split' : ds = (pre ++ [d]) ++ post := by rw [h.split]; simp
    have todo' : ∀ x ∈ post, listed.getD x.i false = false := fun x hx => h.todo x (List.mem_cons_of_mem _ hx)
    cases hw : wantedA s.tm d.o.guard with
    | false =>
      rw [hw] at hd
      simp only [cond_false, hsm, Option.some.injEq, Prod.mk.injEq] at hd
      obtain ⟨rfl, rfl⟩ := hd
      let q : Pend := { d := d, ev := St.val s.tm, Hx := s.h, Hy := s.h, v := undef, skip := true }
      have hqn : q.news = [] := rfl
      have hqr : q.reads = [] := rfl
      have hflat : (q :: Pd).flatMap Pend.news = Pd.flatMap Pend.news := by simp [List.flatMap_cons, hqn]
      refine ⟨_, _, q, rfl, ⟨split', hrun, doneP q rfl, todo', ?_, uniqP q rfl, ?_, ?_, ?_, ?_, h.closed, h.dom, by rw [hflat]; exact h.st, ?_, h.asize, h.tsize, h.dfs, h.sds, h.glob⟩⟩
      · intro p hpP
        rcases List.mem_cons.1 hpP with rfl | hpP
        · simp [q]
        · exact List.mem_append_left _ (h.pmem p hpP)
      · intro p hpP
        rcases List.mem_cons.1 hpP with rfl | hpP
        · refine ⟨hsm, ?_, ?_, (fun hs => by cases hs), fun _ => rfl, (fun hs => by cases hs), (fun r hr => by rw [hqr] at hr; cases hr), (fun hs => by cases hs), (fun r hr => by rw [hqn] at hr; cases hr)⟩
          · show wantedA (setDst s.tm d.o.dst undef) d.o.guard = !true
            rw [wanted_set (fun t ht hg => hp.own d hdd t (by rw [← hp.dst hdd]; exact ht) (guard_tmp ho hc hg))]
            simpa using hw
          · intro t ht
            have ht' : d.o.dst = some t := ht
            simp [ht', setDst, Tr.get_set, q]
        · exact common undef s.h (fun _ _ h => h) (Nat.le_refl _) p hpP
      · intro p hpP r hr hn x hx ob hob
        rcases List.mem_cons.1 hpP with rfl | hpP
        · rw [hqr] at hx; cases hx
        · rcases List.mem_cons.1 hr with rfl | hr
          · rw [hqn]; simp
          · exact h.apart p hpP r hr hn x hx ob hob
      · intro p hpP r hr hne x hx
        rcases List.mem_cons.1 hpP with rfl | hpP
        · rw [hqn] at hx; cases hx
        · rcases List.mem_cons.1 hr with rfl | hr
          · rw [hqn]; simp
          · exact h.ndisj p hpP r hr hne x hx
      · intro p hpP
        rcases List.mem_cons.1 hpP with rfl | hpP
        · exact ⟨_, List.mem_cons_self .., rfl, rfl, rfl⟩
        · obtain ⟨e, he, h1⟩ := h.notes p hpP
          exact ⟨e, List.mem_cons_of_mem _ he, h1⟩
      · intro t ht
        exact tmkeep undef t (fun p hpP => ht p (List.mem_cons_of_mem _ hpP)) (ht q (List.mem_cons_self ..))
    | true =>
      rw [hw] at hd
      simp only [cond_true] at hd
      cases hfit : (hideFor d log).all (fun r => Nat.blt r s.h.next) with
      | false => rw [hfit] at hd; cases hd
      | true =>
        rw [hfit] at hd
        simp only [cond_true] at hd
        have hlt : ∀ r ∈ hideFor d log, r < s.h.next := fun r hr => Nat.le_of_ble_eq_true (List.all_eq_true.1 hfit r hr)
        have hop : ∀ H, opRun sf (St.val s.tm) H d.o.op = aop (St.val s.tm) H d.o.op := by
          intro H
          cases hdo : d.o.op <;> first | rfl | (rw [hdo] at hsmall; cases hsmall)
        rw [hop] at hd
        cases hax : aop (St.val s.tm) (s.h.dropAll (hideFor d log)) d.o.op with
        | none => simp [hax] at hd
        | some r =>
          obtain ⟨v, HA⟩ := r
          simp only [hax, hsm, cond_false, Option.some.injEq, Prod.mk.injEq] at hd
          obtain ⟨rfl, rfl⟩ := hd
          have hshape := small_shape hsmall hax
          let q : Pend := { d := d, ev := St.val s.tm, Hx := s.h.dropAll (hideFor d log), Hy := HA, v := v, skip := false }
          have hqx : q.Hx.next = s.h.next := by simp [q]
          have hHAn : s.h.next ≤ HA.next := by
            rcases hshape with e | ⟨ob, e⟩ <;> rw [e] <;> simp
          have hget : ∀ r ob, s.h.get r = some ob → (HA.putBack s.h (hideFor d log)).get r = some ob := by
            intro r ob hob
            rw [Heap.get_putBack]
            by_cases hr : r ∈ hideFor d log
            · rw [if_pos hr]; exact hob
            · rw [if_neg hr]
              have h0 : (s.h.dropAll (hideFor d log)).get r = some ob := by rw [Heap.get_dropAll, if_neg hr]; exact hob
              rcases hshape with e | ⟨ob', e⟩
              · rw [e]; exact h0
              · rw [e, Heap.get_new, if_neg, h0]
                have := h.dom r ob hob
                simp; omega
          have hqn : q.news = rangeL s.h.next (HA.next - s.h.next) := by show (if false = true then _ else _) = _; simp [q]
          have hqnew : ∀ r ∈ q.news, r = s.h.next ∧ ∃ ob, HA = (s.h.dropAll (hideFor d log)).new ob := by
            intro r hr
            rw [hqn] at hr
            rcases hshape with e | ⟨ob, e⟩
            · rw [e] at hr; simp only [Heap.next_dropAll] at hr; rw [rangeL_same] at hr; cases hr
            · rw [e] at hr; simp only [Heap.next_new, Heap.next_dropAll] at hr; rw [rangeL_one] at hr
              exact ⟨by simpa using hr, ob, e⟩
          have hback : ∀ r, r ≠ s.h.next → (HA.putBack s.h (hideFor d log)).get r = s.h.get r := by
            intro r hr
            rw [Heap.get_putBack]
            by_cases hh : r ∈ hideFor d log
            · rw [if_pos hh]
            · rw [if_neg hh]
              rcases hshape with e | ⟨ob', e⟩
              · rw [e, Heap.get_dropAll, if_neg hh]
              · rw [e, Heap.get_new, if_neg (by simpa using hr), Heap.get_dropAll, if_neg hh]
          have hnew0 : s.h.get s.h.next = none := by
            cases hg : s.h.get s.h.next with
            | none => rfl
            | some ob => have := h.dom _ _ hg; omega
          have holdnews : ∀ p ∈ Pd, ∀ r ∈ p.news, r < s.h.next := fun p hpP r hr => ((h.pok p hpP).nx r hr).2.1
          refine ⟨_, _, q, rfl, ⟨split', hrun, doneP q rfl, todo', ?_, uniqP q rfl, ?_, ?_, ?_, ?_, h.closed, ?_, ?_, ?_, h.asize, h.tsize, h.dfs, h.sds, h.glob⟩⟩
          · intro p hpP
            rcases List.mem_cons.1 hpP with rfl | hpP
            · simp [q]
            · exact List.mem_append_left _ (h.pmem p hpP)
          · intro p hpP
            rcases List.mem_cons.1 hpP with rfl | hpP
            · refine ⟨hsm, ?_, ?_, fun _ => hax, (fun hs => by cases hs), ?_, ?_, ?_, ?_⟩
              · show wantedA (setDst s.tm d.o.dst v) d.o.guard = !false
                rw [wanted_set (fun t ht hg => hp.own d hdd t (by rw [← hp.dst hdd]; exact ht) (guard_tmp ho hc hg))]
                simpa using hw
              · intro t ht
                have ht' : d.o.dst = some t := ht
                simp [ht', setDst, Tr.get_set, q]
              · intro _ o' ho' x hx
                refine (val_set fun t ht hxt => ?_).symm
                exact hp.own d hdd t (by rw [← hp.dst hdd]; exact ht) (opd_tmp ho' (hxt ▸ hx))
              · intro r hr ob hob
                have hob' : (s.h.dropAll (hideFor d log)).get r = some ob := hob
                rw [Heap.get_dropAll] at hob'
                split at hob'
                · cases hob'
                · exact hget r ob hob'
              · intro _ ob hob
                have hob' : HA = (s.h.dropAll (hideFor d log)).new ob := hob
                show (HA.putBack s.h (hideFor d log)).get (s.h.dropAll (hideFor d log)).next = some ob
                rw [Heap.get_putBack, Heap.next_dropAll, if_neg (fun hh => Nat.lt_irrefl _ (hlt _ hh)), hob', Heap.get_new]
                simp
              · intro r hr
                obtain ⟨rfl, ob, e⟩ := hqnew r hr
                refine ⟨?_, ?_, ?_⟩
                · have := h.st.next; simpa using this
                · show s.h.next < (HA.putBack s.h (hideFor d log)).next
                  rw [Heap.next_putBack, e]; simp
                · exact h.st.sat.none (by simp)
            · exact common v _ hget (by rw [Heap.next_putBack]; exact hHAn) p hpP
          · intro p hpP r hr hn x hx ob hob
            rcases List.mem_cons.1 hpP with rfl | hpP
            · have hob' : (s.h.dropAll (hideFor d log)).get x = some ob := hob
              rw [Heap.get_dropAll] at hob'
              split at hob'
              · cases hob'
              · rename_i hnh
                have hxlt := h.dom _ _ hob'
                rcases List.mem_cons.1 hr with rfl | hr
                · intro hxn; have := (hqnew x hxn).1; omega
                · intro hxn
                  refine hnh ?_
                  obtain ⟨e, he, e1, e2, e3⟩ := h.notes r hr
                  have hh : ∀ (l : List Note), e ∈ l → x ∈ hideFor d l := by
                    intro l
                    induction l with
                    | nil => intro h; cases h
                    | cons y l ih =>
                      intro hm
                      simp only [hideFor]
                      rcases List.mem_cons.1 hm with rfl | hm
                      · have : d.anc.contains e.i = false := by simpa [e1] using hn
                        rw [this]
                        simp only [cond_false, List.mem_append]
                        left; rw [e2]; exact hxn
                      · cases hcc : d.anc.contains y.i with
                        | true => simpa using ih hm
                        | false => simp only [cond_false, List.mem_append]; exact .inr (ih hm)
                  exact hh log he
            · rcases List.mem_cons.1 hr with rfl | hr
              · intro hxn
                have h1 := (hqnew x hxn).1
                have h2 := h.dom _ _ ((h.pok p hpP).rd x hx ob hob)
                omega
              · exact h.apart p hpP r hr hn x hx ob hob
          · intro p hpP r hr hne x hx
            rcases List.mem_cons.1 hpP with rfl | hpP
            · rcases List.mem_cons.1 hr with rfl | hr
              · exact absurd rfl hne
              · intro hxr
                have h1 := (hqnew x hx).1
                have h2 := holdnews r hr x hxr
                omega
            · rcases List.mem_cons.1 hr with rfl | hr
              · intro hxr
                have h1 := (hqnew x hxr).1
                have h2 := holdnews p hpP x hx
                omega
              · exact h.ndisj p hpP r hr hne x hx
          · intro p hpP
            rcases List.mem_cons.1 hpP with rfl | hpP
            · exact ⟨_, List.mem_cons_self .., rfl, by rw [hqn], rfl⟩
            · obtain ⟨e, he, h1⟩ := h.notes p hpP
              exact ⟨e, List.mem_cons_of_mem _ he, h1⟩
          · intro r ob hob
            by_cases hr : r = s.h.next
            · subst hr
              have hob' : (HA.putBack s.h (hideFor d log)).get s.h.next = some ob := hob
              rw [Heap.get_putBack, if_neg (fun hh => Nat.lt_irrefl _ (hlt _ hh))] at hob'
              rcases hshape with e | ⟨ob', e⟩
              · rw [e, Heap.get_dropAll, if_neg (fun hh => Nat.lt_irrefl _ (hlt _ hh)), hnew0] at hob'; cases hob'
              · show s.h.next < (HA.putBack s.h (hideFor d log)).next
                rw [Heap.next_putBack, e]; simp
            · have hob' : (HA.putBack s.h (hideFor d log)).get r = some ob := hob
              rw [hback r hr] at hob'
              have := h.dom _ _ hob'
              show r < (HA.putBack s.h (hideFor d log)).next
              rw [Heap.next_putBack]; omega
          · refine h.st.regrow ?_ (by simp only [Heap.next_dropAll, Heap.next_putBack]; exact hHAn)
            intro r
            rw [Heap.get_dropAll, Heap.get_dropAll]
            simp only [List.flatMap_cons, List.mem_append]
            by_cases hr : r = s.h.next
            · subst hr
              have h3 : ¬ s.h.next ∈ Pd.flatMap Pend.news := by
                intro hm
                obtain ⟨p, hpP, hpn⟩ := List.mem_flatMap.1 hm
                exact Nat.lt_irrefl _ (holdnews p hpP _ hpn)
              rw [if_neg h3, hnew0]
              by_cases hm : s.h.next ∈ q.news
              · rw [if_pos (.inl hm)]
              · rw [if_neg (fun hh => hh.elim hm h3)]
                rw [Heap.get_putBack, if_neg (fun hh => Nat.lt_irrefl _ (hlt _ hh))]
                rcases hshape with e | ⟨ob', e⟩
                · rw [e, Heap.get_dropAll, if_neg (fun hh => Nat.lt_irrefl _ (hlt _ hh)), hnew0]
                · exfalso; apply hm; rw [hqn, e]; simp only [Heap.next_new, Heap.next_dropAll]; rw [rangeL_one]; simp
            · rw [hback r hr]
              have : r ∉ q.news := fun hm => hr (hqnew r hm).1
              by_cases hm : r ∈ Pd.flatMap Pend.news
              · rw [if_pos (.inr hm), if_pos hm]
              · rw [if_neg (fun hh => hh.elim this hm), if_neg hm]
          · intro t ht
            exact tmkeep v t (fun p hpP => ht p (List.mem_cons_of_mem _ hpP)) (ht q (List.mem_cons_self ..))
end
end
end Go.Proofs.YtdlfdieehioolaaDoor
