/- A region whose order is drawn: the whole. -/
import Derived.Test.YtdlfdieehioolaaDoorCode5
namespace Go.Proofs.YtdlfdieehioolaaDoor
open Go
set_option linter.unusedVariables false
set_option linter.unusedSimpArgs false
section
variable {P : Program} {N : Nat} {ops : Array Oper} {ds : List DOper} {sf : Self} {sfin : St} {ι0 : Emb} {H0 : Heap} {w0 : World} {a0 : Act} {ds0 : List Nat}
theorem DInv.advances (hp : PlanF P N ops ds) {listed : Array Bool} {a : Act} {w : World} {ι : Emb} {post : List DOper} : ∀ (l : List DOper) (pre : List DOper) (s : St) (log : List Note) (Pd : List Pend),
    DInv P N ops ds sf sfin ι0 H0 w0 a0 ds0 listed a w ι pre (l ++ post) s log Pd → (∀ e ∈ l, e.big = false) →
    ∃ s1 log1 Pd1, DInv P N ops ds sf sfin ι0 H0 w0 a0 ds0 listed a w ι (pre ++ l) post s1 log1 Pd1 ∧ Pd1.length = Pd.length + l.length := by
  intro l
  induction l with
  | nil => intro pre s log Pd h _; exact ⟨s, log, Pd, by simpa using h, by simp⟩
  | cons d l ih =>
    intro pre s log Pd h hs
    obtain ⟨s1, log1, p, _, h1⟩ := h.advance hp (hs d (List.mem_cons_self ..))
    obtain ⟨s2, log2, Pd2, h2, h3⟩ := ih (pre ++ [d]) s1 log1 (p :: Pd) h1 (fun e he => hs e (List.mem_cons_of_mem _ he))
    refine ⟨s2, log2, Pd2, by simpa using h2, ?_⟩
    rw [h3]; simp only [List.length_cons]; omega
theorem DInv.over (hp : PlanF P N ops ds) {listed : Array Bool} {a : Act} {w : World} {ι : Emb} {pre post : List DOper} {s : St} {log : List Note} {Pd : List Pend}
    (h : DInv P N ops ds sf sfin ι0 H0 w0 a0 ds0 listed a w ι pre post s log Pd) (hls : listed.size = ops.size) (hr : Region.ready .any ops listed = []) : post = [] ∧ Pd = [] := by
  have all : ∀ (l2 l1 : List DOper), ds = l1 ++ l2 → (∀ d ∈ l1, listed.getD d.i false = true) → ∀ d ∈ ds, listed.getD d.i false = true := by
    intro l2
    induction l2 with
    | nil => intro l1 e hl d hd; exact hl d (by rw [e] at hd; simpa using hd)
    | cons x l2 ih =>
      intro l1 e hl
      refine ih (l1 ++ [x]) (by rw [e]; simp) ?_
      intro d hd
      rcases List.mem_append.1 hd with hd | hd
      · exact hl d hd
      · have : d = x := by simpa using hd
        subst this
        cases hx : listed.getD d.i false with
        | true => rfl
        | false =>
          exfalso
          obtain ⟨g1, _, _, _⟩ := hp.order l1 d l2 e
          have hdd : d ∈ ds := by rw [e]; simp
          obtain ⟨o, ho, _⟩ := hp.comp d hdd
          have hlt : d.i < listed.size := by rw [hls]; exact (Array.getElem?_eq_some_iff.1 ho).1
          have : d.i ∈ Region.ready .any ops listed := by
            rw [mem_ready]
            refine ⟨by simpa [hlt] using hx, o, ho, ?_⟩
            intro ed hed hb
            have hy : ed.on ∈ directs o := List.mem_map.2 ⟨ed, List.mem_filter.2 ⟨by simpa using hed, hb⟩, rfl⟩
            obtain ⟨e', he', hei⟩ := g1 _ (hp.direct d hdd o ho _ hy)
            rw [← hei]; exact hl e' he'
          rw [hr] at this; cases this
  have hall := all ds [] rfl (fun d hd => by cases hd)
  constructor
  · cases hpo : post with
    | nil => rfl
    | cons d post' =>
      have := h.todo d (by rw [hpo]; simp)
      rw [hall d (by rw [h.split, hpo]; simp)] at this; cases this
  · cases hpd : Pd with
    | nil => rfl
    | cons p Pd' =>
      have hm : p ∈ Pd := by rw [hpd]; simp
      have := (h.done p.d (h.pmem p hm)).1 (hall p.d (by rw [h.split]; exact List.mem_append_left _ (h.pmem p hm))) p hm
      exact absurd rfl this
theorem filter_lt {Pd : List Pend} {p : Pend} (h : p ∈ Pd) : (Pd.filter fun q => q.d.i != p.d.i).length + 1 ≤ Pd.length := by
  have : (Pd.filter fun q => q.d.i != p.d.i).length < Pd.length := by
    rw [List.length_filter_lt_length_iff_exists]
    exact ⟨p, h, by simp⟩
  omega
theorem draw_wp (hself : SelfOk P sf) (hp : PlanF P N ops ds) {F : Fence} (hF : FOk F) {Q : Exit → Act → World → Prop}
    (hQ : ∀ ι a w, Step P ι0 H0 w0 ι sfin.h w → (∀ t, VR ι ((sfin.tm.get t).getD undef) (a.tmps.getD t undef)) → a.tmps.size = a0.tmps.size → a.defers = a0.defers → sfin.ds = ds0 → Glob P ι → Q .normal a w) :
    ∀ (fuel : Nat) (listed : Array Bool) (a : Act) (w : World) (ι : Emb) (pre post : List DOper) (s : St) (log : List Note) (Pd : List Pend),
      DInv P N ops ds sf sfin ι0 H0 w0 a0 ds0 listed a w ι pre post s log Pd → listed.size = ops.size → Pd.length + post.length ≤ fuel →
      wpAnyIn F 0 P .any ops Q fuel listed a w := by
  have fin : ∀ (listed : Array Bool) (a : Act) (w : World) (ι : Emb) (pre post : List DOper) (s : St) (log : List Note) (Pd : List Pend),
      DInv P N ops ds sf sfin ι0 H0 w0 a0 ds0 listed a w ι pre post s log Pd → post = [] → Pd = [] → Q .normal a w := by
    intro listed a w ι pre post s log Pd h hpo hpd
    subst hpo hpd
    have hrun := h.run
    simp only [dopsRun, Option.some.injEq] at hrun
    subst hrun
    refine hQ ι a w (h.st.regrow (fun r => ?_) ?_) (fun t => h.tm t (fun p hp => by cases hp)) h.tsize h.dfs h.sds h.glob
    · rw [Heap.get_dropAll]; simp
    · simp
  intro fuel
  induction fuel with
  | zero =>
    intro listed a w ι pre post s log Pd h hls hf
    have hpo : post = [] := List.eq_nil_of_length_eq_zero (by omega)
    have hpd : Pd = [] := List.eq_nil_of_length_eq_zero (by omega)
    refine ⟨?_, fin _ _ _ _ _ _ _ _ _ h hpo hpd⟩
    refine List.eq_nil_iff_forall_not_mem.2 fun i hi => ?_
    rw [mem_ready] at hi
    obtain ⟨h1, o, ho, _⟩ := hi
    have hlt : i < listed.size := by rw [hls]; exact (Array.getElem?_eq_some_iff.1 ho).1
    obtain ⟨d, hd, hdi⟩ := hp.all i (by rw [← hls]; exact hlt)
    rw [h.split, hpo, List.append_nil] at hd
    have := (h.done d hd).2 (fun p hp => by rw [hpd] at hp; cases hp)
    rw [hdi] at this
    simp [hlt] at h1 this
    rw [h1] at this; cases this
  | succ fuel ih =>
    intro listed a w ι pre post s log Pd h hls hf
    refine ⟨fun hr => ?_, ?_⟩
    · obtain ⟨hpo, hpd⟩ := h.over hp hls hr
      exact fin _ _ _ _ _ _ _ _ _ h hpo hpd
    · intro i hi
      rw [mem_ready] at hi
      obtain ⟨h1, o, ho, hall⟩ := hi
      have hlt : i < ops.size := (Array.getElem?_eq_some_iff.1 ho).1
      have hlt' : i < listed.size := by rw [hls]; exact hlt
      have hun : listed.getD i false = false := by simpa [hlt'] using h1
      have hdir : ∀ y ∈ directs o, listed.getD y false = true := by
        intro y hy
        obtain ⟨ed, hed, rfl⟩ := List.mem_map.1 hy
        obtain ⟨g1, g2⟩ := List.mem_filter.1 hed
        exact hall ed (by simpa using g1) g2
      have hanc : ∀ d ∈ ds, d.i = i → ∀ x ∈ d.anc, listed.getD x false = true := by
        intro d hd hdi x hx
        rcases hp.anc d hd o (by rw [hdi]; exact ho) x hx with h2 | ⟨y, hy, d', hd', hdy, hx'⟩
        · exact hdir x h2
        · exact h.closed d' hd' (by rw [hdy]; exact hdir y hy) x hx'
      have hset : (listed.setIfInBounds i true).size = ops.size := by simpa using hls
      have smallcase : ∀ (pre post : List DOper) (s : St) (log : List Note) (Pd : List Pend), DInv P N ops ds sf sfin ι0 H0 w0 a0 ds0 listed a w ι pre post s log Pd → Pd.length + post.length ≤ fuel + 1 →
          ∀ p ∈ Pd, p.d.i = i → wpOpIn F 0 P ops Q i (wpAnyIn F 0 P .any ops Q fuel (listed.setIfInBounds i true)) a w := by
        intro pre post s log Pd h hf p hpP hpi
        have hpd : p.d ∈ ds := by rw [h.split]; exact List.mem_append_left _ (h.pmem p hpP)
        have := h.small_exec hp hF (Q := Q) hpP (by rw [hpi]; exact hlt') (hanc _ hpd hpi) (K := wpAnyIn F 0 P .any ops Q fuel (listed.setIfInBounds p.d.i true))
          (fun a' w' ι' h' => ih _ _ _ _ _ _ _ _ _ h' (by rw [hpi]; exact hset) (by have := filter_lt hpP; omega))
        rw [hpi] at this; exact this
      obtain ⟨d, hd, hdi⟩ := hp.all i hlt
      rw [h.split] at hd
      rcases List.mem_append.1 hd with hpre | hpost
      · have : ∃ p ∈ Pd, p.d.i = d.i := by
          refine Classical.byContradiction fun hn => ?_
          have := (h.done d hpre).2 (fun p hp he => hn ⟨p, hp, he⟩)
          rw [hdi, hun] at this; cases this
        obtain ⟨p, hpP, hpi⟩ := this
        exact smallcase pre post s log Pd h hf p hpP (hpi.trans hdi)
      · obtain ⟨l1, l2, hsplit⟩ := List.append_of_mem hpost
        subst hsplit
        have hds : ds = (pre ++ l1) ++ d :: l2 := by rw [h.split]; simp
        have hdd : d ∈ ds := by rw [hds]; simp
        have hsm : ∀ e ∈ l1, e.big = false := by
          intro e he
          cases hb : e.big with
          | false => rfl
          | true =>
            have := (hp.order _ d l2 hds).2.1 e (List.mem_append_right _ he) hb
            have h3 := hanc d hdd hdi _ this
            rw [h.todo e (List.mem_append_left _ he)] at h3; cases h3
        obtain ⟨s1, log1, Pd1, h1', hlen⟩ := h.advances hp l1 pre s log Pd hsm
        have hf1 : Pd1.length + (d :: l2).length ≤ fuel + 1 := by
          simp only [List.length_append, List.length_cons] at hf ⊢; omega
        cases hb : d.big with
        | false =>
          obtain ⟨s2, log2, p, hpd, h2⟩ := h1'.advance hp hb
          exact smallcase _ _ s2 log2 _ h2 (by simp only [List.length_cons] at hf1 ⊢; omega) p (List.mem_cons_self ..) (by rw [hpd]; exact hdi)
        | true =>
          have := h1'.big_exec hself hp hF (Q := Q) hb (by rw [hdi]; exact hlt') (hanc d hdd hdi) (K := wpAnyIn F 0 P .any ops Q fuel (listed.setIfInBounds d.i true))
            (fun a' w' ι' s' h' => ih _ _ _ _ _ _ _ _ _ h' (by rw [hdi]; exact hset) (by simp only [List.length_cons] at hf1 ⊢; omega))
          rw [hdi] at this; exact this
theorem draw_sound {self : Self} (hself : SelfOk P self) (hp : PlanF P N ops ds) {F : Fence} (hF : FOk F) (hm : P.follows .mixedOrders = true) {Q : Exit → Act → World → Prop} {id : Nat} {s s' : St} {ι : Emb} {a : Act} {w : World}
    (hr : dopsRun self ds s [] = some s') (ha : ActR P ι N s a w)
    (hQ : ∀ ι' a' w', Step P ι s.h w ι' s'.h w' → ActR P ι' N s' a' w' → a'.tmps.size = a.tmps.size → a'.defers = a.defers → Q .normal a' w') :
    (Code.region id ops true).wpIn F 0 P Q a w := by
  have hd : Step P ι s.h w ι s.h { w with drawn := w.drawn + 1 } := Step.drawn ha.sat rfl rfl rfl rfl
  refine wpIn_region_any hm (draw_wp hself hp hF (ds := ds) (sfin := s') (ι0 := ι) (H0 := s.h) (w0 := w) (a0 := a) (ds0 := s.ds) ?_ ops.size (Array.replicate ops.size false) a { w with drawn := w.drawn + 1 } ι [] ds s [] [] ?_ (by simp) (by simp [hp.len]))
  · intro ι' a' w' hst htm hsz hdf hds hg
    refine hQ ι' a' w' hst ⟨htm, by rw [hsz]; exact ha.size, ?_, hst.sat, hg⟩ hsz hdf
    rw [hds, hdf]; exact DefR.mono hst.ext ha.ds
  · have hrep : ∀ i, (Array.replicate ops.size false).getD i false = false := by
      intro i
      simp [Array.getElem?_replicate]
      split <;> rfl
    refine { split := rfl, run := hr, done := (fun _ h => nomatch (List.not_mem_nil h)), todo := fun d _ => hrep _, pmem := (fun _ h => nomatch (List.not_mem_nil h)), uniq := (fun _ h => nomatch (List.not_mem_nil h)), pok := (fun _ h => nomatch (List.not_mem_nil h)), apart := (fun _ h => nomatch (List.not_mem_nil h)), ndisj := (fun _ h => nomatch (List.not_mem_nil h)), notes := (fun _ h => nomatch (List.not_mem_nil h)), closed := ?_, dom := ?_, st := ?_, tm := fun t _ => ha.tm t, asize := ha.size, tsize := rfl, dfs := rfl, sds := rfl, glob := ha.glob }
    · intro d _ hl
      rw [hrep] at hl
      cases hl
    · intro r ob hob
      obtain ⟨b, dd, e, c, k1, _⟩ := ha.sat.obj r ob hob
      exact ha.sat.fresh r _ k1
    · refine hd.regrow (fun r => ?_) ?_
      · simp [Heap.get_dropAll]
      · simp
end
end Go.Proofs.YtdlfdieehioolaaDoor
