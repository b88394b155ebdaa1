/- From the arguments of a row to the abstract heap: slices of one cell an element. -/
import Derived.Test.YtdlfdieehioolaaDoorSl
import Derived.ChangeSlices
import Derived.Carry
namespace Go.Proofs.YtdlfdieehioolaaDoor
open Go Go.ChangeShapes Go.WideShapes Go.ChangeAt Go.RowKit
set_option linter.unusedVariables false
set_option linter.unusedSimpArgs false
section
variable {Hh : Type} {enc : TypeId × Value → Hh} {P : Program} {w : World} {base : Nat} {held : Bool}
structure Args (P : Program) (ι : Emb) (H : Heap) (w : World) : Prop where
  sat : Sat P ι H w
  glob : Glob P ι
  wf : WF H
  ro : ∀ r o, H.get r = some o → o.rw = false
  dom : ∀ r, H.next ≤ r → ι r = none
theorem cell_heap {a : Addr} {u : Value} (h : w.cell? a = some u) : ∃ arr el fr, w.heap[a.block]? = some (.cells arr el fr) ∧ arr[a.off]? = some u := by
  unfold World.cell? at h
  split at h
  · split at h
    · simp at h
    · rename_i hb _; exact ⟨_, _, _, hb, h⟩
  · simp at h
theorem Args.slice {ι : Emb} {H : Heap} (h : Args P ι H w) {b off len cap es : Nat} {vs : List Value} (hl : len ≤ cap) (hv : vs.length = cap * es) (hes : 1 ≤ es) (hcell : ∀ i u, vs[i]? = some u → w.cell? ⟨b, off + i, none⟩ = some u)
    (hblk : ∃ arr el fr, w.heap[b]? = some (.cells arr el fr)) (hself : ∀ ι u, u ∈ vs → CellR ι u u) :
    ∃ ι' H', Args P ι' H' w ∧ Ext ι ι' ∧ Fr H H' [] ∧ InSl H' es (.slice (some ⟨H.next, 0, none⟩) len len) len (vs.take (len * es)) ∧ AtomR ι' (.slice (some ⟨H.next, 0, none⟩) len len) (.slice (some ⟨b, off, none⟩) len cap) := by
  obtain ⟨arr, el, fr, hb⟩ := hblk
  have harr : ∀ i u, vs[i]? = some u → arr[off + i]? = some u := by
    intro i u hu
    obtain ⟨arr', el', fr', hb', hu'⟩ := cell_heap (hcell i u hu)
    simp only at hb' hu'
    rw [hb] at hb'; cases hb'; exact hu'
  obtain ⟨d, hd1, hd2, hd3⟩ : ∃ d, (d = off ∨ (len = 0 ∧ cap = 0)) ∧ d + cap * es ≤ arr.size ∧ ∀ i u, vs[i]? = some u → arr[d + i]? = some u := by
    rcases Nat.eq_zero_or_pos cap with h0 | h0
    · subst h0
      refine ⟨0, .inr ⟨by omega, rfl⟩, by simp, fun i u hu => ?_⟩
      have := (List.getElem?_eq_some_iff.1 hu).1
      simp at hv; simp [hv] at this
    · refine ⟨off, .inl rfl, ?_, harr⟩
      have hpos : 0 < cap * es := Nat.mul_pos h0 hes
      have := harr (cap * es - 1) (vs[cap * es - 1]'(by omega)) (by simp)
      have := (Array.getElem?_eq_some_iff.1 this).1
      omega
  have hext : Ext ι (ι.set H.next (b, d, cap - len)) := Ext.set (h.dom _ (Nat.le_refl _))
  have hat : AtomR (ι.set H.next (b, d, cap - len)) (.slice (some ⟨H.next, 0, none⟩) len len) (.slice (some ⟨b, off, none⟩) len cap) := by
    refine .slice 0 none len len ⟨b, off, none⟩ cap (b := b) (d := d) (e := cap - len) (by simp [Emb.set]) (by simp; omega) ?_
    rcases hd1 with rfl | h1
    · exact .inl rfl
    · exact .inr h1
  have hglob : Glob P (ι.set H.next (b, d, cap - len)) := fun g hg => hext _ _ (h.glob g hg)
  have hdom : ∀ r, H.next + 1 ≤ r → (ι.set H.next (b, d, cap - len)) r = none := fun r hr => by
    simp only [Emb.set]; rw [if_neg (by omega)]; exact h.dom r (by omega)
  have hfresh : ∀ r x, (ι.set H.next (b, d, cap - len)) r = some x → r < H.next + 1 := fun r x hx => by
    rcases Nat.lt_or_ge r (H.next + 1) with h1 | h1
    · exact h1
    · rw [hdom r h1] at hx; cases hx
  have hle : len * es ≤ cap * es := Nat.mul_le_mul_right es hl
  refine ⟨_, H.new (.cells (vs.take (len * es)) true es), ⟨⟨fun r o hr => ?_, fun r r' o o' x x' hr hr' hne how => ?_, hfresh⟩, hglob, h.wf.new, fun r o hr => ?_, hdom⟩, hext, Fr.new h.wf _, .full (ro := true) (e := es) (by simp) (by rw [List.length_take]; omega), hat⟩
  · rw [Heap.get_new] at hr
    by_cases e1 : r = H.next
    · rw [if_pos e1] at hr; cases hr; subst e1
      refine ⟨b, d, cap - len, .cells arr el fr, by simp [Emb.set], hb, fun h => (by cases h), ?_, fun i v hi => ?_⟩
      · rw [List.length_take, Nat.sub_mul]; omega
      · rw [List.getElem?_take] at hi
        split at hi
        · exact ⟨v, hd3 i v hi, hself _ v (List.mem_of_getElem? hi)⟩
        · cases hi
    · rw [if_neg e1] at hr
      obtain ⟨b', d', e, c, h1, h2, h3⟩ := h.sat.obj r o hr
      exact ⟨b', d', e, c, hext _ _ h1, h2, h3.mono hext⟩
  · rw [Heap.get_new] at hr
    split at hr
    · cases hr; cases how
    · rw [h.ro r o hr] at how; cases how
  · rw [Heap.get_new] at hr
    split at hr
    · cases hr; rfl
    · exact h.ro r o hr
theorem Args.calls {T : Nat → Option AFun} (hT : TOk P T) (hm : P.follows .mixedOrders = true) {k n : Nat} {ι : Emb} {H : Heap} {args args' : List Value} (h : Args P ι H w) (ha : All2 (VR ι) args args') {H' : Heap}
    (he : exec T n (.fn k) args H = some (.bool true, H')) : Calls P k ⟨args'⟩ w fun e w' => e = .returned (.bool true) ∧ Below w.heap.size w w' := by
  obtain ⟨_, hc⟩ := exec_sound hT hm n (.fn k) args _ _ _ he _ w args' h.sat h.glob ha
  refine (callsIn_wide.1 hc).mono ?_
  rintro e w' ⟨v', ι', rfl, hv, hst⟩
  refine ⟨?_, hst.os, hst.tape, hst.output, hst.size, fun b hb => hst.frame b hb fun r o x hr ho => ?_⟩
  · cases hv with
    | val h => cases h with
      | cell h => cases h with
        | atom h => cases h; rfl
  · rw [h.ro r o hr] at ho; cases ho
theorem trodAll_stays (hl : laidOutB P = true) {W W' : World} (hb : Below W.heap.size W W') : ∀ (ts : List TypeId) (vs : List Value) (ds : List (DataW Hh)) (ps : List MemPlace), (∀ t ∈ ts, P.readableRec t = true ∧ t < P.types.size) →
    (∀ x ∈ ps, x.block < W.heap.size) → DataW.TrodAll enc P W 0 (fun _ => true) true ts vs ds ps → DataW.TrodAll enc P W' 0 (fun b => decide (b < W.heap.size)) true ts vs ds ps := by
  intro ts
  induction ts with
  | nil =>
    intro vs ds ps _ _ h
    obtain ⟨rfl, rfl, rfl⟩ := trodAll_nil h
    exact trodAll_mk0
  | cons t ts ih =>
    intro vs ds ps ht hp h
    obtain ⟨v, vs', d, ds', p, q, rfl, rfl, rfl, h1, h2⟩ := trodAll_cons h
    exact trodAll_cons_mk (Below.trod hl (ht t (List.mem_cons_self ..)).1 (ht t (List.mem_cons_self ..)).2 h1 hb fun x hx => hp x (List.mem_append_left _ hx)) (ih _ _ _ (fun t' h' => ht t' (List.mem_cons_of_mem _ h')) (fun x hx => hp x (List.mem_append_right _ hx)) h2)
theorem args_post {f : Func} {s : ChangeSpec} {W W' : World} {args : Array Value} {ty : TypeId} {ds gs : List (DataW Hh)} {before : List MemPlace} (hl : laidOutB P = true)
    (hW : DataW.Whole enc P f.params.toList s.vars false W args.toList ds gs before) (hv : s.vars = []) (hr : f.resultTypes = #[ty]) (hb : P.underlying ty = some .bool)
    (hfn : s.fn Hh ds = { results := [.lit (.bool true)], args := ds }) (hread : ∀ t ∈ f.params.toList, P.readableRec t = true ∧ t < P.types.size) (hk : Below W.heap.size W W') :
    s.post enc P f false true false false W args (.bool true) W' := by
  have hlt := hW.lt
  have hW' := hW
  obtain ⟨p, q, hA, hV, hpq, hfz, hnd⟩ := hW
  rw [hv] at hV
  obtain ⟨rfl, rfl⟩ := trodVars_none hV
  have hpq' : before = p := by rw [hpq, List.append_nil]
  subst hpq'
  have hone : (Value.bool true).resultList f.resultTypes.size = [.bool true] := by rw [hr]; rfl
  have hA' : DataW.TrodAll enc P W 0 (fun _ => true) true f.params.toList args.toList ds before := hA
  refine ⟨ds, [], before, [], before, [], hW', ?_, ?_, ?_, hk.frame _, fun h => by cases h⟩
  · rw [hone, hr, List.append_nil, hfn]; exact trodAll_mk1 (shut_bool hb true)
  · rw [List.append_nil, hfn]; exact trodAll_stays hl hk _ _ _ _ hread hlt hA'
  · rw [hv, List.append_nil, hfn]; rfl
end
end Go.Proofs.YtdlfdieehioolaaDoor
