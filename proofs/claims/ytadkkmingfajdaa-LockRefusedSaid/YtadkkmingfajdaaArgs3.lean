/- From the arguments of a row to the abstract heap: slices within slices. -/
import Derived.Test.YtadkkmingfajdaaArgs2
import Derived.Test.YtadkkmingfajdaaB10
namespace Go.Proofs.Ytadkkmingfajdaa
open Go Go.ChangeShapes Go.WideShapes Go.ChangeAt Go.RowKit
set_option linter.unusedVariables false
set_option linter.unusedSimpArgs false
set_option linter.unusedSectionVars false

/-- What a cell that is handed in may hold. -/
inductive Sh
  | int (k : IntKind)
  | bool
  | sl (shs : List Sh)

/- in the model's world -/
mutual
def RC (M : Nat) (w : World) : Sh → Value → Prop
  | .int k, v => ∃ z, v = .int k z ∧ (Lit.int k z).wf = true
  | .bool, v => ∃ b, v = .bool b
  | .sl shs, v => v = .slice none 0 0 ∨ ∃ (a : Addr) (len cap : Nat) (chunks : List (List Value)), v = .slice (some a) len cap ∧ len ≤ cap ∧ len ≤ M ∧ 1 ≤ shs.length ∧ chunks.length = cap ∧ (∀ i u, chunks.flatten[i]? = some u → w.cell? (a.add i) = some u) ∧ ∀ c ∈ chunks, RCL M w shs c
def RCL (M : Nat) (w : World) : List Sh → List Value → Prop
  | [], cs => cs = []
  | s :: ss, cs => ∃ v rest, cs = v :: rest ∧ RC M w s v ∧ RCL M w ss rest
end
/- in the abstract heap -/
mutual
def Hv (M : Nat) (H : Heap) : Sh → Value → Prop
  | .int k, v => ∃ z, v = .int k z ∧ (Lit.int k z).wf = true
  | .bool, v => ∃ b, v = .bool b
  | .sl shs, v => ∃ chunks : List (List Value), InSl H shs.length v chunks.length chunks.flatten ∧ chunks.length ≤ M ∧ ∀ c ∈ chunks, HvL M H shs c
def HvL (M : Nat) (H : Heap) : List Sh → List Value → Prop
  | [], cs => cs = []
  | s :: ss, cs => ∃ v rest, cs = v :: rest ∧ Hv M H s v ∧ HvL M H ss rest
end

variable {M : Nat}
mutual
theorem Hv.fr {H H' : Heap} (f : Fr H H' []) : ∀ {s : Sh} {v : Value}, Hv M H s v → Hv M H' s v
  | .int k, v, h => by simpa only [Hv] using h
  | .bool, v, h => by simpa only [Hv] using h
  | .sl shs, v, h => by
    simp only [Hv] at h ⊢
    obtain ⟨chunks, h1, h2, h3⟩ := h
    exact ⟨chunks, h1.fr f, h2, fun c hc => HvL.fr f (h3 c hc)⟩
theorem HvL.fr {H H' : Heap} (f : Fr H H' []) : ∀ {ss : List Sh} {cs : List Value}, HvL M H ss cs → HvL M H' ss cs
  | [], cs, h => by simpa only [HvL] using h
  | s :: ss, cs, h => by
    simp only [HvL] at h ⊢
    obtain ⟨v, rest, h1, h2, h3⟩ := h
    exact ⟨v, rest, h1, Hv.fr f h2, HvL.fr f h3⟩
end
theorem HvL.len {H : Heap} : ∀ {ss : List Sh} {cs : List Value}, HvL M H ss cs → cs.length = ss.length := by
  intro ss
  induction ss with
  | nil => intro cs h; simp only [HvL] at h; subst h; rfl
  | cons s ss ih =>
    intro cs h
    simp only [HvL] at h
    obtain ⟨v, rest, rfl, _, h⟩ := h
    simp [ih h]
theorem RCL.len {w : World} : ∀ {ss : List Sh} {cs : List Value}, RCL M w ss cs → cs.length = ss.length := by
  intro ss
  induction ss with
  | nil => intro cs h; simp only [RCL] at h; subst h; rfl
  | cons s ss ih =>
    intro cs h
    simp only [RCL] at h
    obtain ⟨v, rest, rfl, _, h⟩ := h
    simp [ih h]

section
variable {P : Program} {w : World} {M : Nat}
/-- One slice more: its cells stand for cells that are there. -/
theorem Args.block {ι : Emb} {H : Heap} (h : Args P ι H w) {b off d len cap es : Nat} {a' : Addr} {vs vs' : List Value} (hl : len ≤ cap) (hv : vs.length = cap * es) (hA : All2 (CellR ι) vs' vs)
    (hd1 : a' = ⟨b, d, none⟩ ∨ (len = 0 ∧ cap = 0)) {arr : Array Value} {el : TypeId} {fr : Nat × Nat} (hb : w.heap[b]? = some (.cells arr el fr)) (hd2 : d + cap * es ≤ arr.size) (hd3 : ∀ i u, vs[i]? = some u → arr[d + i]? = some u) :
    ∃ ι' H', Args P ι' H' w ∧ Ext ι ι' ∧ Fr H H' [] ∧ InSl H' es (.slice (some ⟨H.next, 0, none⟩) len len) len (vs'.take (len * es)) ∧ AtomR ι' (.slice (some ⟨H.next, 0, none⟩) len len) (.slice (some a') len cap) := by
  have hext : Ext ι (ι.set H.next (b, d, cap - len)) := Ext.set (h.dom _ (Nat.le_refl _))
  have hat : AtomR (ι.set H.next (b, d, cap - len)) (.slice (some ⟨H.next, 0, none⟩) len len) (.slice (some a') len cap) :=
    .slice 0 none len len a' cap (b := b) (d := d) (e := cap - len) (by simp [Emb.set]) (by simp; omega) hd1
  have hglob : Glob P (ι.set H.next (b, d, cap - len)) := fun g hg => hext _ _ (h.glob g hg)
  have hdom : ∀ r, H.next + 1 ≤ r → (ι.set H.next (b, d, cap - len)) r = none := fun r hr => by
    simp only [Emb.set]; rw [if_neg (by omega)]; exact h.dom r (by omega)
  have hfresh : ∀ r x, (ι.set H.next (b, d, cap - len)) r = some x → r < H.next + 1 := fun r x hx => by
    rcases Nat.lt_or_ge r (H.next + 1) with h1 | h1
    · exact h1
    · rw [hdom r h1] at hx; cases hx
  have hle : len * es ≤ cap * es := Nat.mul_le_mul_right es hl
  have hv' : vs'.length = cap * es := hA.length.trans hv
  refine ⟨_, H.new (.cells (vs'.take (len * es)) true es), ⟨⟨fun r o hr => ?_, fun r r' o o' x x' hr hr' hne how => ?_, hfresh⟩, hglob, h.wf.new, fun r o hr => ?_, hdom⟩, hext, Fr.new h.wf _, .full (ro := true) (e := es) (by simp) (by rw [List.length_take]; omega), hat⟩
  · rw [Heap.get_new] at hr
    by_cases e1 : r = H.next
    · rw [if_pos e1] at hr; cases hr; subst e1
      refine ⟨b, d, cap - len, .cells arr el fr, by simp [Emb.set], hb, fun h => (by cases h), ?_, fun i v hi => ?_⟩
      · rw [List.length_take, Nat.sub_mul]; omega
      · rw [List.getElem?_take] at hi
        split at hi
        · obtain ⟨u, h1, h2⟩ := hA.get hi
          exact ⟨u, hd3 i u h1, h2.mono hext⟩
        · cases hi
    · rw [if_neg e1] at hr
      obtain ⟨b', d', e, c, h1, h2, h3⟩ := h.sat.obj r o hr
      exact ⟨b', d', e, c, hext _ _ h1, h2, h3.mono hext⟩
  · rw [Heap.get_new] at hr
    split at hr
    · cases hr; cases how
    · rw [h.ro r o hr] at how; cases how
  · rw [Heap.get_new] at hr
    split at hr
    · cases hr; rfl
    · exact h.ro r o hr

theorem spot_none {a : Addr} {u : Value} (h : w.cell? a = some u) : a.spot = none := by
  unfold World.cell? at h
  split at h
  · cases hs : a.spot with
    | none => rfl
    | some k => rw [hs] at h; simp at h
  · simp at h

theorem flatten_len {es : Nat} : ∀ {chunks : List (List Value)}, (∀ c ∈ chunks, c.length = es) → chunks.flatten.length = chunks.length * es := by
  intro chunks
  induction chunks with
  | nil => intro _; simp
  | cons c chunks ih => intro h; simp [h c (List.mem_cons_self ..), ih fun x hx => h x (List.mem_cons_of_mem _ hx), Nat.add_mul]; omega
theorem flatten_take {es : Nat} : ∀ {chunks : List (List Value)} {k : Nat}, (∀ c ∈ chunks, c.length = es) → chunks.flatten.take (k * es) = (chunks.take k).flatten := by
  intro chunks
  induction chunks with
  | nil => intro k _; simp
  | cons c chunks ih =>
    intro k h
    have hc := h c (List.mem_cons_self ..)
    cases k with
    | zero => simp
    | succ k =>
      rw [Nat.add_mul, Nat.one_mul, Nat.add_comm, List.flatten_cons, List.take_succ_cons, List.flatten_cons, ← ih fun x hx => h x (List.mem_cons_of_mem _ hx)]
      rw [show es + k * es = c.length + k * es by rw [hc], List.take_length_add_append]

variable (hblk : ∃ (b : Nat) (arr : Array Value) (el : TypeId) (fr : Nat × Nat), w.heap[b]? = some (.cells arr el fr))
include hblk
/-- One by one, so many. -/
theorem build_chunks {shs : List Sh} (hone : ∀ (cs : List Value) (ι : Emb) (H : Heap), Args P ι H w → RCL M w shs cs → ∃ (ι' : Emb) (H' : Heap) (cs' : List Value), Args P ι' H' w ∧ Ext ι ι' ∧ Fr H H' [] ∧ HvL M H' shs cs' ∧ All2 (CellR ι') cs' cs) :
    ∀ (chunks : List (List Value)) (ι : Emb) (H : Heap), Args P ι H w → (∀ c ∈ chunks, RCL M w shs c) →
      ∃ (ι' : Emb) (H' : Heap) (ks : List (List Value)), Args P ι' H' w ∧ Ext ι ι' ∧ Fr H H' [] ∧ ks.length = chunks.length ∧ (∀ c ∈ ks, HvL M H' shs c) ∧ All2 (CellR ι') ks.flatten chunks.flatten := by
  intro chunks
  induction chunks with
  | nil => intro ι H hA _; exact ⟨ι, H, [], hA, Ext.refl _, Fr.refl hA.wf _, rfl, fun _ h => absurd h List.not_mem_nil, .nil⟩
  | cons c chunks ih =>
    intro ι H hA hc
    obtain ⟨ι1, H1, c', g1, g2, g3, g4, g5⟩ := hone c ι H hA (hc c (List.mem_cons_self ..))
    obtain ⟨ι2, H2, ks, k1, k2, k3, k4, k5, k6⟩ := ih ι1 H1 g1 fun c hm => hc c (List.mem_cons_of_mem _ hm)
    refine ⟨ι2, H2, c' :: ks, k1, g2.trans k2, g3.step hA.wf k3 (fun r hr => absurd hr List.not_mem_nil), by simp [k4], fun x hx => ?_, ?_⟩
    · rcases List.mem_cons.1 hx with rfl | hx
      · exact g4.fr k3
      · exact k5 x hx
    · rw [List.flatten_cons, List.flatten_cons]
      exact (g5.mono fun _ _ h => h.mono k2).append k6

mutual
theorem build : ∀ (s : Sh) (v : Value) (ι : Emb) (H : Heap), Args P ι H w → RC M w s v → ∃ (ι' : Emb) (H' : Heap) (va : Value), Args P ι' H' w ∧ Ext ι ι' ∧ Fr H H' [] ∧ Hv M H' s va ∧ CellR ι' va v
  | .int k, v, ι, H, hA, h => by
    simp only [RC] at h
    obtain ⟨z, rfl, hz⟩ := h
    exact ⟨ι, H, _, hA, Ext.refl _, Fr.refl hA.wf _, by simp only [Hv]; exact ⟨z, rfl, hz⟩, .atom (.int _ _)⟩
  | .bool, v, ι, H, hA, h => by
    simp only [RC] at h
    obtain ⟨z, rfl⟩ := h
    exact ⟨ι, H, _, hA, Ext.refl _, Fr.refl hA.wf _, by simp only [Hv]; exact ⟨z, rfl⟩, .atom (.bool _)⟩
  | .sl shs, v, ι, H, hA, h => by
    simp only [RC] at h
    rcases h with rfl | ⟨a, len, cap, chunks, rfl, hl, hm, hes, hcap, hcell, hch⟩
    · exact ⟨ι, H, .slice none 0 0, hA, Ext.refl _, Fr.refl hA.wf _, by simp only [Hv]; exact ⟨[], .empty, by simp, fun _ h => absurd h List.not_mem_nil⟩, .atom .nils⟩
    · obtain ⟨ι1, H1, ks, g1, g2, g3, g4, g5, g6⟩ := build_chunks hblk (fun cs ι H hA h => buildL shs cs ι H hA h) chunks ι H hA hch
      have hfl := flatten_len (es := shs.length) fun c hc => (hch c hc).len
      have hfk := flatten_take (es := shs.length) (k := len) fun c hc => (g5 c hc).len
      rw [hcap] at hfl
      have hex : ∃ (b d : Nat) (arr : Array Value) (el : TypeId) (fr : Nat × Nat), (a = ⟨b, d, none⟩ ∨ (len = 0 ∧ cap = 0)) ∧ w.heap[b]? = some (.cells arr el fr) ∧ d + cap * shs.length ≤ arr.size ∧ ∀ i u, chunks.flatten[i]? = some u → arr[d + i]? = some u := by
        rcases Nat.eq_zero_or_pos cap with h0 | h0
        · obtain ⟨b, arr, el, fr, hb⟩ := hblk
          subst h0
          refine ⟨b, 0, arr, el, fr, .inr ⟨by omega, rfl⟩, hb, by simp, fun i u hu => ?_⟩
          have := (List.getElem?_eq_some_iff.1 hu).1
          omega
        · have hpos : 0 < cap * shs.length := Nat.mul_pos h0 hes
          have h1 := hcell 0 (chunks.flatten[0]'(by omega)) (by simp)
          have hsp := spot_none h1
          have hadd : a.add 0 = a := by simp [Addr.add]
          rw [hadd] at hsp
          obtain ⟨b, off, sp⟩ := a
          simp only at hsp
          subst hsp
          obtain ⟨arr, el, fr, hb, _⟩ := cell_heap h1
          rw [hadd] at hb
          have hall : ∀ i u, chunks.flatten[i]? = some u → arr[off + i]? = some u := by
            intro i u hu
            have h2 := hcell i u hu
            rw [add_plain] at h2
            obtain ⟨arr', el', fr', hb', hu'⟩ := cell_heap h2
            simp only at hb hb' hu'
            rw [hb] at hb'; cases hb'; exact hu'
          refine ⟨b, off, arr, el, fr, .inl rfl, hb, ?_, hall⟩
          have := hall (cap * shs.length - 1) (chunks.flatten[cap * shs.length - 1]'(by omega)) (by simp)
          have := (Array.getElem?_eq_some_iff.1 this).1
          omega
      obtain ⟨b, d, arr, el, fr, hd1, hb, hd2, hd3⟩ := hex
      obtain ⟨ι2, H2, k1, k2, k3, k4, k5⟩ := g1.block (es := shs.length) (off := d) hl hfl g6 hd1 hb hd2 hd3
      rw [hfk] at k4
      have hlen : (ks.take len).length = len := by rw [List.length_take, g4, hcap]; omega
      refine ⟨ι2, H2, _, k1, g2.trans k2, g3.step hA.wf k3 (fun r hr => absurd hr List.not_mem_nil), ?_, .atom k5⟩
      simp only [Hv]
      exact ⟨ks.take len, by rw [hlen]; exact k4, by omega, fun c hc => (g5 c (List.mem_of_mem_take hc)).fr k3⟩
theorem buildL : ∀ (ss : List Sh) (cs : List Value) (ι : Emb) (H : Heap), Args P ι H w → RCL M w ss cs → ∃ (ι' : Emb) (H' : Heap) (cs' : List Value), Args P ι' H' w ∧ Ext ι ι' ∧ Fr H H' [] ∧ HvL M H' ss cs' ∧ All2 (CellR ι') cs' cs
  | [], cs, ι, H, hA, h => by
    simp only [RCL] at h; subst h
    exact ⟨ι, H, [], hA, Ext.refl _, Fr.refl hA.wf _, by simp only [HvL], .nil⟩
  | s :: ss, cs, ι, H, hA, h => by
    simp only [RCL] at h
    obtain ⟨v, rest, rfl, h1, h2⟩ := h
    obtain ⟨ι1, H1, va, g1, g2, g3, g4, g5⟩ := build s v ι H hA h1
    obtain ⟨ι2, H2, cs', k1, k2, k3, k4, k5⟩ := buildL ss rest ι1 H1 g1 h2
    exact ⟨ι2, H2, va :: cs', k1, g2.trans k2, g3.step hA.wf k3 (fun r hr => absurd hr List.not_mem_nil), by simp only [HvL]; exact ⟨va, cs', rfl, g4.fr k3, k4⟩, .cons (g5.mono k2) k5⟩
end
end
end Go.Proofs.Ytadkkmingfajdaa
