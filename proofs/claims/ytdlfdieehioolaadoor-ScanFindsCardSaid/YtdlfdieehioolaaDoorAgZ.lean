import Derived.Test.YtdlfdieehioolaaDoorArgs2
import Derived.Test.YtdlfdieehioolaaDoorB10
import Derived.OpenShut
import Derived.Test.YtdlfdieehioolaaDoorS3
import Derived.SizedLaws
import Derived.Test.YtdlfdieehioolaaDoorPrim3
/- From the arguments of a row to the abstract heap: slices within slices. -/
namespace Go.Proofs.YtdlfdieehioolaaDoor
open Go Go.ChangeShapes Go.WideShapes Go.ChangeAt Go.RowKit
set_option linter.unusedVariables false
set_option linter.unusedSimpArgs false
set_option linter.unusedSectionVars false
inductive Sh
  | int (k : IntKind)
  | bool
  | sl (shs : List Sh)
mutual
/-- At least so many bytes. -/
def Sh.bytes : Sh → Nat
  | .int k => k.bits / 8
  | .bool => 1
  | .sl _ => 24
def bytesL : List Sh → Nat
  | [] => 0
  | s :: ss => s.bytes + bytesL ss
end
/- in the model's world -/
mutual
def RC (M : Nat) (w : World) : Sh → Value → Prop
  | .int k, v => ∃ z, v = .int k z ∧ (Lit.int k z).wf = true
  | .bool, v => ∃ b, v = .bool b
  | .sl shs, v => v = .slice none 0 0 ∨ ∃ (a : Addr) (len cap : Nat) (chunks : List (List Value)), v = .slice (some a) len cap ∧ len ≤ cap ∧ len * bytesL shs ≤ M ∧ 1 ≤ shs.length ∧ chunks.length = cap ∧ (∀ i u, chunks.flatten[i]? = some u → w.cell? (a.add i) = some u) ∧ ∀ c ∈ chunks, RCL M w shs c
def RCL (M : Nat) (w : World) : List Sh → List Value → Prop
  | [], cs => cs = []
  | s :: ss, cs => ∃ v rest, cs = v :: rest ∧ RC M w s v ∧ RCL M w ss rest
end
/- in the abstract heap -/
mutual
def Hv (M : Nat) (H : Heap) : Sh → Value → Prop
  | .int k, v => ∃ z, v = .int k z ∧ (Lit.int k z).wf = true
  | .bool, v => ∃ b, v = .bool b
  | .sl shs, v => ∃ chunks : List (List Value), InSl H shs.length v chunks.length chunks.flatten ∧ chunks.length * bytesL shs ≤ M ∧ ∀ c ∈ chunks, HvL M H shs c
def HvL (M : Nat) (H : Heap) : List Sh → List Value → Prop
  | [], cs => cs = []
  | s :: ss, cs => ∃ v rest, cs = v :: rest ∧ Hv M H s v ∧ HvL M H ss rest
end
variable {M : Nat}
mutual
theorem Hv.fr {H H' : Heap} (f : Fr H H' []) : ∀ {s : Sh} {v : Value}, Hv M H s v → Hv M H' s v
  | .int k, v, h => by simpa only [Hv] using h
  | .bool, v, h => by simpa only [Hv] using h
  | .sl shs, v, h => by
    simp only [Hv] at h ⊢
    obtain ⟨chunks, h1, h2, h3⟩ := h
    exact ⟨chunks, h1.fr f, h2, fun c hc => HvL.fr f (h3 c hc)⟩
theorem HvL.fr {H H' : Heap} (f : Fr H H' []) : ∀ {ss : List Sh} {cs : List Value}, HvL M H ss cs → HvL M H' ss cs
  | [], cs, h => by simpa only [HvL] using h
  | s :: ss, cs, h => by
    simp only [HvL] at h ⊢
    obtain ⟨v, rest, h1, h2, h3⟩ := h
    exact ⟨v, rest, h1, Hv.fr f h2, HvL.fr f h3⟩
end
theorem HvL.len {H : Heap} : ∀ {ss : List Sh} {cs : List Value}, HvL M H ss cs → cs.length = ss.length := by
  intro ss
  induction ss with
  | nil => intro cs h; simp only [HvL] at h; subst h; rfl
  | cons s ss ih =>
    intro cs h
    simp only [HvL] at h
    obtain ⟨v, rest, rfl, _, h⟩ := h
    simp [ih h]
theorem RCL.len {w : World} : ∀ {ss : List Sh} {cs : List Value}, RCL M w ss cs → cs.length = ss.length := by
  intro ss
  induction ss with
  | nil => intro cs h; simp only [RCL] at h; subst h; rfl
  | cons s ss ih =>
    intro cs h
    simp only [RCL] at h
    obtain ⟨v, rest, rfl, _, h⟩ := h
    simp [ih h]
section
variable {P : Program} {w : World} {M : Nat}
theorem Args.block {ι : Emb} {H : Heap} (h : Args P ι H w) {b off d len cap es : Nat} {a' : Addr} {vs vs' : List Value} (hl : len ≤ cap) (hv : vs.length = cap * es) (hA : All2 (CellR ι) vs' vs)
    (hd1 : a' = ⟨b, d, none⟩ ∨ (len = 0 ∧ cap = 0)) {arr : Array Value} {el : TypeId} {fr : Nat × Nat} (hb : w.heap[b]? = some (.cells arr el fr)) (hd2 : d + cap * es ≤ arr.size) (hd3 : ∀ i u, vs[i]? = some u → arr[d + i]? = some u) :
    ∃ ι' H', Args P ι' H' w ∧ Ext ι ι' ∧ Fr H H' [] ∧ InSl H' es (.slice (some ⟨H.next, 0, none⟩) len len) len (vs'.take (len * es)) ∧ AtomR ι' (.slice (some ⟨H.next, 0, none⟩) len len) (.slice (some a') len cap) := by
  have hext : Ext ι (ι.set H.next (b, d, cap - len)) := Ext.set (h.dom _ (Nat.le_refl _))
  have hat : AtomR (ι.set H.next (b, d, cap - len)) (.slice (some ⟨H.next, 0, none⟩) len len) (.slice (some a') len cap) :=
    .slice 0 none len len a' cap (b := b) (d := d) (e := cap - len) (by simp [Emb.set]) (by simp; omega) hd1
  have hglob : Glob P (ι.set H.next (b, d, cap - len)) := fun g hg => hext _ _ (h.glob g hg)
  have hdom : ∀ r, H.next + 1 ≤ r → (ι.set H.next (b, d, cap - len)) r = none := fun r hr => by
    simp only [Emb.set]; rw [if_neg (by omega)]; exact h.dom r (by omega)
  have hfresh : ∀ r x, (ι.set H.next (b, d, cap - len)) r = some x → r < H.next + 1 := fun r x hx => by
    rcases Nat.lt_or_ge r (H.next + 1) with h1 | h1
    · exact h1
    · rw [hdom r h1] at hx; cases hx
  have hle : len * es ≤ cap * es := Nat.mul_le_mul_right es hl
  have hv' : vs'.length = cap * es := hA.length.trans hv
  refine ⟨_, H.new (.cells (vs'.take (len * es)) true es), ⟨⟨fun r o hr => ?_, fun r r' o o' x x' hr hr' hne how => ?_, hfresh⟩, hglob, h.wf.new, fun r o hr => ?_, hdom⟩, hext, Fr.new h.wf _, .full (ro := true) (e := es) (by simp) (by rw [List.length_take]; omega), hat⟩
  · rw [Heap.get_new] at hr
    by_cases e1 : r = H.next
    · rw [if_pos e1] at hr; cases hr; subst e1
      refine ⟨b, d, cap - len, .cells arr el fr, by simp [Emb.set], hb, fun h => (by cases h), ?_, fun i v hi => ?_⟩
      · rw [List.length_take, Nat.sub_mul]; omega
      · rw [List.getElem?_take] at hi
        split at hi
        · obtain ⟨u, h1, h2⟩ := hA.get hi
          exact ⟨u, hd3 i u h1, h2.mono hext⟩
        · cases hi
    · rw [if_neg e1] at hr
      obtain ⟨b', d', e, c, h1, h2, h3⟩ := h.sat.obj r o hr
      exact ⟨b', d', e, c, hext _ _ h1, h2, h3.mono hext⟩
  · rw [Heap.get_new] at hr
    split at hr
    · cases hr; cases how
    · rw [h.ro r o hr] at how; cases how
  · rw [Heap.get_new] at hr
    split at hr
    · cases hr; rfl
    · exact h.ro r o hr
theorem spot_none {a : Addr} {u : Value} (h : w.cell? a = some u) : a.spot = none := by
  unfold World.cell? at h
  split at h
  · cases hs : a.spot with
    | none => rfl
    | some k => rw [hs] at h; simp at h
  · simp at h
theorem flatten_len {es : Nat} : ∀ {chunks : List (List Value)}, (∀ c ∈ chunks, c.length = es) → chunks.flatten.length = chunks.length * es := by
  intro chunks
  induction chunks with
  | nil => intro _; simp
  | cons c chunks ih => intro h; simp [h c (List.mem_cons_self ..), ih fun x hx => h x (List.mem_cons_of_mem _ hx), Nat.add_mul]; omega
theorem flatten_take {es : Nat} : ∀ {chunks : List (List Value)} {k : Nat}, (∀ c ∈ chunks, c.length = es) → chunks.flatten.take (k * es) = (chunks.take k).flatten := by
  intro chunks
  induction chunks with
  | nil => intro k _; simp
  | cons c chunks ih =>
    intro k h
    have hc := h c (List.mem_cons_self ..)
    cases k with
    | zero => simp
    | succ k =>
      rw [Nat.add_mul, Nat.one_mul, Nat.add_comm, List.flatten_cons, List.take_succ_cons, List.flatten_cons, ← ih fun x hx => h x (List.mem_cons_of_mem _ hx)]
      rw [show es + k * es = c.length + k * es by rw [hc], List.take_length_add_append]
variable (hblk : ∃ (b : Nat) (arr : Array Value) (el : TypeId) (fr : Nat × Nat), w.heap[b]? = some (.cells arr el fr))
include hblk
theorem build_chunks {shs : List Sh} (hone : ∀ (cs : List Value) (ι : Emb) (H : Heap), Args P ι H w → RCL M w shs cs → ∃ (ι' : Emb) (H' : Heap) (cs' : List Value), Args P ι' H' w ∧ Ext ι ι' ∧ Fr H H' [] ∧ HvL M H' shs cs' ∧ All2 (CellR ι') cs' cs) :
    ∀ (chunks : List (List Value)) (ι : Emb) (H : Heap), Args P ι H w → (∀ c ∈ chunks, RCL M w shs c) →
      ∃ (ι' : Emb) (H' : Heap) (ks : List (List Value)), Args P ι' H' w ∧ Ext ι ι' ∧ Fr H H' [] ∧ ks.length = chunks.length ∧ (∀ c ∈ ks, HvL M H' shs c) ∧ All2 (CellR ι') ks.flatten chunks.flatten := by
  intro chunks
  induction chunks with
  | nil => intro ι H hA _; exact ⟨ι, H, [], hA, Ext.refl _, Fr.refl hA.wf _, rfl, fun _ h => absurd h List.not_mem_nil, .nil⟩
  | cons c chunks ih =>
    intro ι H hA hc
    obtain ⟨ι1, H1, c', g1, g2, g3, g4, g5⟩ := hone c ι H hA (hc c (List.mem_cons_self ..))
    obtain ⟨ι2, H2, ks, k1, k2, k3, k4, k5, k6⟩ := ih ι1 H1 g1 fun c hm => hc c (List.mem_cons_of_mem _ hm)
    refine ⟨ι2, H2, c' :: ks, k1, g2.trans k2, g3.step hA.wf k3 (fun r hr => absurd hr List.not_mem_nil), by simp [k4], fun x hx => ?_, ?_⟩
    · rcases List.mem_cons.1 hx with rfl | hx
      · exact g4.fr k3
      · exact k5 x hx
    · rw [List.flatten_cons, List.flatten_cons]
      exact (g5.mono fun _ _ h => h.mono k2).append k6
mutual
theorem build : ∀ (s : Sh) (v : Value) (ι : Emb) (H : Heap), Args P ι H w → RC M w s v → ∃ (ι' : Emb) (H' : Heap) (va : Value), Args P ι' H' w ∧ Ext ι ι' ∧ Fr H H' [] ∧ Hv M H' s va ∧ CellR ι' va v
  | .int k, v, ι, H, hA, h => by
    simp only [RC] at h
    obtain ⟨z, rfl, hz⟩ := h
    exact ⟨ι, H, _, hA, Ext.refl _, Fr.refl hA.wf _, by simp only [Hv]; exact ⟨z, rfl, hz⟩, .atom (.int _ _)⟩
  | .bool, v, ι, H, hA, h => by
    simp only [RC] at h
    obtain ⟨z, rfl⟩ := h
    exact ⟨ι, H, _, hA, Ext.refl _, Fr.refl hA.wf _, by simp only [Hv]; exact ⟨z, rfl⟩, .atom (.bool _)⟩
  | .sl shs, v, ι, H, hA, h => by
    simp only [RC] at h
    rcases h with rfl | ⟨a, len, cap, chunks, rfl, hl, hm, hes, hcap, hcell, hch⟩
    · exact ⟨ι, H, .slice none 0 0, hA, Ext.refl _, Fr.refl hA.wf _, by simp only [Hv]; exact ⟨[], .empty, by simp, fun _ h => absurd h List.not_mem_nil⟩, .atom .nils⟩
    · obtain ⟨ι1, H1, ks, g1, g2, g3, g4, g5, g6⟩ := build_chunks hblk (fun cs ι H hA h => buildL shs cs ι H hA h) chunks ι H hA hch
      have hfl := flatten_len (es := shs.length) fun c hc => (hch c hc).len
      have hfk := flatten_take (es := shs.length) (k := len) fun c hc => (g5 c hc).len
      rw [hcap] at hfl
      have hex : ∃ (b d : Nat) (arr : Array Value) (el : TypeId) (fr : Nat × Nat), (a = ⟨b, d, none⟩ ∨ (len = 0 ∧ cap = 0)) ∧ w.heap[b]? = some (.cells arr el fr) ∧ d + cap * shs.length ≤ arr.size ∧ ∀ i u, chunks.flatten[i]? = some u → arr[d + i]? = some u := by
        rcases Nat.eq_zero_or_pos cap with h0 | h0
        · obtain ⟨b, arr, el, fr, hb⟩ := hblk
          subst h0
          refine ⟨b, 0, arr, el, fr, .inr ⟨by omega, rfl⟩, hb, by simp, fun i u hu => ?_⟩
          have := (List.getElem?_eq_some_iff.1 hu).1
          omega
        · have hpos : 0 < cap * shs.length := Nat.mul_pos h0 hes
          have h1 := hcell 0 (chunks.flatten[0]'(by omega)) (by simp)
          have hsp := spot_none h1
          have hadd : a.add 0 = a := by simp [Addr.add]
          rw [hadd] at hsp
          obtain ⟨b, off, sp⟩ := a
          simp only at hsp
          subst hsp
          obtain ⟨arr, el, fr, hb, _⟩ := cell_heap h1
          rw [hadd] at hb
          have hall : ∀ i u, chunks.flatten[i]? = some u → arr[off + i]? = some u := by
            intro i u hu
            have h2 := hcell i u hu
            rw [add_plain] at h2
            obtain ⟨arr', el', fr', hb', hu'⟩ := cell_heap h2
            simp only at hb hb' hu'
            rw [hb] at hb'; cases hb'; exact hu'
          refine ⟨b, off, arr, el, fr, .inl rfl, hb, ?_, hall⟩
          have := hall (cap * shs.length - 1) (chunks.flatten[cap * shs.length - 1]'(by omega)) (by simp)
          have := (Array.getElem?_eq_some_iff.1 this).1
          omega
      obtain ⟨b, d, arr, el, fr, hd1, hb, hd2, hd3⟩ := hex
      obtain ⟨ι2, H2, k1, k2, k3, k4, k5⟩ := g1.block (es := shs.length) (off := d) hl hfl g6 hd1 hb hd2 hd3
      rw [hfk] at k4
      have hlen : (ks.take len).length = len := by rw [List.length_take, g4, hcap]; omega
      refine ⟨ι2, H2, _, k1, g2.trans k2, g3.step hA.wf k3 (fun r hr => absurd hr List.not_mem_nil), ?_, .atom k5⟩
      simp only [Hv]
      exact ⟨ks.take len, by rw [hlen]; exact k4, by rw [hlen]; assumption, fun c hc => (g5 c (List.mem_of_mem_take hc)).fr k3⟩
theorem buildL : ∀ (ss : List Sh) (cs : List Value) (ι : Emb) (H : Heap), Args P ι H w → RCL M w ss cs → ∃ (ι' : Emb) (H' : Heap) (cs' : List Value), Args P ι' H' w ∧ Ext ι ι' ∧ Fr H H' [] ∧ HvL M H' ss cs' ∧ All2 (CellR ι') cs' cs
  | [], cs, ι, H, hA, h => by
    simp only [RCL] at h; subst h
    exact ⟨ι, H, [], hA, Ext.refl _, Fr.refl hA.wf _, by simp only [HvL], .nil⟩
  | s :: ss, cs, ι, H, hA, h => by
    simp only [RCL] at h
    obtain ⟨v, rest, rfl, h1, h2⟩ := h
    obtain ⟨ι1, H1, va, g1, g2, g3, g4, g5⟩ := build s v ι H hA h1
    obtain ⟨ι2, H2, cs', k1, k2, k3, k4, k5⟩ := buildL ss rest ι1 H1 g1 h2
    exact ⟨ι2, H2, va :: cs', k1, g2.trans k2, g3.step hA.wf k3 (fun r hr => absurd hr List.not_mem_nil), by simp only [HvL]; exact ⟨va, cs', rfl, g4.fr k3, k4⟩, .cons (g5.mono k2) k5⟩
end
end
end Go.Proofs.YtdlfdieehioolaaDoor
/- The shape of a type, and what is read at it. -/
namespace Go.Proofs.YtdlfdieehioolaaDoor
open Go Go.ChangeShapes Go.WideShapes Go.ChangeAt Go.RowKit
set_option linter.unusedVariables false
set_option linter.unusedSimpArgs false
def shFs (g : TypeId → Option (List Sh)) (P : Program) : List Field → Nat → Option (List Sh)
  | [], _ => some []
  | fd :: rest, off => match g fd.type with
    | some a => match shFs g P rest (off + a.length) with
      | some b => if fd.offset = off ∧ P.cellsOf fd.type = a.length then some (a ++ b) else none
      | none => none
    | none => none
def shOf (P : Program) : Nat → TypeId → Option (List Sh)
  | 0, _ => none
  | f + 1, t => match P.underlying t with
    | some .bool => some [.bool]
    | some (.int k) => some [.int k]
    | some (.slice e) => match shOf P f e with
      | some shs => if P.cellsOf e = shs.length ∧ 1 ≤ shs.length ∧ bytesL shs ≤ P.bytesOf e then some [.sl shs] else none
      | none => none
    | some (.array n e) => match shOf P f e with
      | some shs => if P.cellsOf e = shs.length ∧ P.cellsOf t = n * shs.length then some (List.replicate n shs).flatten else none
      | none => none
    | some (.struct fs) => match shFs (shOf P f) P fs.toList 0 with
      | some shs => if P.cellsOf t = shs.length then some shs else none
      | none => none
    | _ => none
structure Bk {Hh : Type} (P : Program) (good : TypeId → DataW Hh → Prop) (M : Nat) : Prop where
  sl : ∀ t e elems spare, P.underlying t = some (.slice e) → good t (.slice elems spare) → elems.length * P.bytesOf e ≤ M ∧ ∀ d ∈ elems ++ spare, good e d
  arr : ∀ t n e parts, P.underlying t = some (.array n e) → good t (.agg parts) → ∀ d ∈ parts, good e d
  str : ∀ t fs parts, P.underlying t = some (.struct fs) → good t (.agg parts) → ∀ (i : Nat) fd d, fs[i]? = some fd → parts[i]? = some d → good fd.type d
def goodZ {Hh : Type} (P : Program) (t : TypeId) (d : DataW Hh) : Prop := ∀ n ∈ d.weights P t, n ≤ reachBytes
theorem weightsAll_mem {Hh : Type} {P : Program} {e : TypeId} {n : Nat} : ∀ {l : List (DataW Hh)} {d : DataW Hh}, d ∈ l → n ∈ d.weights P e → n ∈ DataW.weightsAll P e l := by
  intro l
  induction l with
  | nil => intro d h; cases h
  | cons a l ih =>
    intro d h hn
    rw [DataW.weightsAll]
    rcases List.mem_cons.1 h with rfl | h
    · exact List.mem_append_left _ hn
    · exact List.mem_append_right _ (ih h hn)
theorem Bk.sized {Hh : Type} {P : Program} : Bk (Hh := Hh) P (goodZ P) reachBytes := by
  refine ⟨fun t e elems spare hu h => ?_, fun t n e parts hu h d hd m hm => ?_, fun t fs parts hu h i fd d hf hp m hm => ?_⟩
  · have hw : ∀ n, n = (elems.length + spare.length) * P.bytesOf e ∨ n ∈ DataW.weightsAll P e elems ∨ n ∈ DataW.weightsAll P e spare → n ≤ reachBytes := by
      intro n hn
      refine h n ?_
      rw [DataW.weights, hu]
      simp only [List.mem_cons, List.mem_append]
      exact hn
    refine ⟨Nat.le_trans (Nat.mul_le_mul_right _ (Nat.le_add_right _ _)) (hw _ (.inl rfl)), fun d hd n hn => ?_⟩
    rcases List.mem_append.1 hd with hd | hd
    · exact hw n (.inr (.inl (weightsAll_mem hd hn)))
    · exact hw n (.inr (.inr (weightsAll_mem hd hn)))
  · refine h m ?_
    rw [DataW.weights, hu]
    exact weightsAll_mem hd hm
  · refine h m ?_
    rw [DataW.weights, hu]
    refine DataW.weights_mem_each (j := i) (t := fd.type) (d := d) ?_ hp m hm
    rw [List.getElem?_map, Array.getElem?_toList, hf]; rfl
section
variable {Hh : Type} {enc : TypeId × Value → Hh} {P : Program} {w : World} {base : Nat} {held : Bool} {M : Nat} {good : TypeId → DataW Hh → Prop}
theorem open_cellsB (hB : Bk P good M) {t e : TypeId} {fuel es : Nat} {v : Value} {x : DataW Hh × List MemPlace} (ht : P.underlying t = some (.slice e)) (hc : P.cellsOf e = es) (hes : 1 ≤ es) (h : DataW.trod enc P w base (fun _ => true) held fuel t [v] = some x) (hx : good t x.1) :
    v = .slice none 0 0 ∨ ∃ (a : Addr) (len cap : Nat) (vs : List Value), v = .slice (some a) len cap ∧ len ≤ cap ∧ len * P.bytesOf e ≤ M ∧ vs.length = cap * es ∧ (∀ i u, vs[i]? = some u → w.cell? (a.add i) = some u) ∧
      ∀ i, i < cap → ∃ n y, DataW.trod enc P w base (fun _ => true) held n e ((vs.drop (i * es)).take es) = some y ∧ good e y.1 := by
  rcases DataW.trod_slice ht h with ⟨h0, _⟩ | ⟨a, len, cap, elems, rest, n, _, hv, rfl, hb, hl, hm, hlen, hel, hsp, hns⟩
  · simp at h0; exact .inl h0
  · right
    obtain ⟨hrl, hr⟩ := hsp rfl
    obtain ⟨b1, b2⟩ := hB.sl _ _ _ _ ht hx
    have hM : len * P.bytesOf e ≤ M := by
      rw [List.length_map, hlen] at b1; exact b1
    have each : ∀ i, i < cap → ∃ cs y, cs.length = es ∧ (∀ j, j < es → w.cell? (a.add (i * es + j)) = cs[j]?) ∧ DataW.trod enc P w base (fun _ => true) held n e cs = some y ∧ good e y.1 := by
      intro i hi
      have hb' : ∃ y, (w.cells? base (a.add (i * P.cellsOf e)) (P.cellsOf e)).bind (DataW.trod enc P w base (fun _ => true) held n e) = some y ∧ good e y.1 := by
        by_cases h1 : i < len
        · rw [hel i h1]
          have h2 : i < elems.length := by omega
          exact ⟨elems[i], by simp [h2], b2 _ (List.mem_append_left _ (List.mem_map_of_mem (List.getElem_mem h2)))⟩
        · have h2 := hr (i - len) (by omega)
          rw [show len + (i - len) = i by omega] at h2
          have h3 : i - len < rest.length := by omega
          rw [h2]; exact ⟨rest[i - len], by simp [h3], b2 _ (List.mem_append_right _ (List.mem_map_of_mem (List.getElem_mem h3)))⟩
      obtain ⟨y, hy, hby⟩ := hb'
      rw [hc, Option.bind_eq_some_iff] at hy
      obtain ⟨cs', hcs, hy'⟩ := hy
      refine ⟨cs', y, (World.cells?_some hcs).2.1, fun j hj => ?_, hy', hby⟩
      have := (World.cells?_some hcs).2.2 j hj
      rw [← this, add_add]
    have cellAt : ∀ k, k < cap * es → ∃ u, w.cell? (a.add k) = some u := by
      intro k hk
      have hi : k / es < cap := Nat.div_lt_of_lt_mul (by rw [Nat.mul_comm]; exact hk)
      obtain ⟨cs, y, hcl, hcc, _⟩ := each (k / es) hi
      have hj : k % es < es := Nat.mod_lt _ hes
      have := hcc (k % es) hj
      rw [Nat.mul_comm, Nat.div_add_mod] at this
      rw [this]
      exact ⟨cs[k % es]'(by omega), by simp⟩
    refine ⟨a, len, cap, (List.range (cap * es)).map fun i => (w.cell? (a.add i)).getD undef, by simpa using hv, hl, hM, by simp, ?_, ?_⟩
    · intro i u hu
      rw [List.getElem?_map] at hu
      by_cases hi : i < cap * es
      · rw [List.getElem?_range hi] at hu
        obtain ⟨u', h1⟩ := cellAt i hi
        simp only [Option.map_some, h1, Option.getD_some, Option.some.injEq] at hu
        subst hu
        exact h1
      · simp [List.getElem?_eq_none, hi] at hu
    · intro i hi
      obtain ⟨cs, y, hcl, hcc, hy⟩ := each i hi
      refine ⟨n, y, ?_⟩
      have : (((List.range (cap * es)).map fun i => (w.cell? (a.add i)).getD undef).drop (i * es)).take es = cs := by
        apply List.ext_getElem?
        intro j
        have hle : (i + 1) * es ≤ cap * es := Nat.mul_le_mul_right es hi
        rw [Nat.add_mul, Nat.one_mul] at hle
        by_cases hj : j < es
        · rw [List.getElem?_take, if_pos hj, List.getElem?_drop, List.getElem?_map, List.getElem?_range (by omega), Option.map_some, hcc j hj]
          rw [show cs[j]? = some (cs[j]'(by omega)) by simp]
          rfl
        · rw [List.getElem?_take, if_neg hj, List.getElem?_eq_none (by omega)]
      rw [this]; exact ⟨hy.1, hy.2⟩
theorem RCL.append : ∀ {a b : List Sh} {c d : List Value}, RCL M w a c → RCL M w b d → RCL M w (a ++ b) (c ++ d) := by
  intro a
  induction a with
  | nil => intro b c d h1 h2; simp only [RCL] at h1; subst h1; simpa using h2
  | cons s a ih =>
    intro b c d h1 h2
    simp only [RCL] at h1
    obtain ⟨v, rest, rfl, h3, h4⟩ := h1
    simp only [List.cons_append, RCL]
    exact ⟨v, rest ++ d, rfl, h3, ih h4 h2⟩
theorem shFs_rc {g : TypeId → Option (List Sh)} (hg : ∀ t shs, g t = some shs → ∀ n cs y, DataW.trod enc P w base (fun _ => true) held n t cs = some y → good t y.1 → RCL M w shs cs) :
    ∀ (fs : List Field) (off : Nat) (shs : List Sh), shFs g P fs off = some shs → ∀ (cs : List Value), (∀ fd ∈ fs, ∃ n y, DataW.trod enc P w base (fun _ => true) held n fd.type ((cs.drop fd.offset).take (P.cellsOf fd.type)) = some y ∧ good fd.type y.1) → RCL M w shs ((cs.drop off).take shs.length) := by
  intro fs
  induction fs with
  | nil => intro off shs h cs _; simp only [shFs, Option.some.injEq] at h; subst h; simp [RCL]
  | cons fd fs ih =>
    intro off shs h cs hfs
    simp only [shFs] at h
    split at h
    · rename_i a ha
      split at h
      · rename_i b hb
        split at h
        · rename_i hc
          obtain ⟨ho, hl⟩ := hc
          simp only [Option.some.injEq] at h; subst h
          obtain ⟨n, y, hy, hby⟩ := hfs fd (List.mem_cons_self ..)
          rw [ho, hl] at hy
          have h1 := hg _ _ ha _ _ _ hy hby
          have h2 := ih (off + a.length) b hb cs fun x hx => hfs x (List.mem_cons_of_mem _ hx)
          have e : (cs.drop off).take (a ++ b).length = (cs.drop off).take a.length ++ (cs.drop (off + a.length)).take b.length := by
            rw [List.length_append, List.take_add, List.drop_drop]
          rw [e]; exact h1.append h2
        · cases h
      · cases h
    · cases h
theorem rep_rc {a : List Sh} {cs : List Value} : ∀ {n : Nat}, (∀ i, i < n → RCL M w a ((cs.drop (i * a.length)).take a.length)) → RCL M w (List.replicate n a).flatten (cs.take (n * a.length)) := by
  intro n
  induction n with
  | zero => intro _; simp [RCL]
  | succ n ih =>
    intro h
    have h1 := ih fun i hi => h i (by omega)
    have h2 := h n (by omega)
    rw [List.replicate_succ', List.flatten_append, Nat.add_mul, Nat.one_mul, List.take_add]
    simpa using h1.append h2
theorem trod_rc (hB : Bk P good M) : ∀ (f : Nat) (t : TypeId) (shs : List Sh), shOf P f t = some shs → ∀ n cs y, DataW.trod enc P w base (fun _ => true) held n t cs = some y → good t y.1 → RCL M w shs cs := by
  intro f
  induction f with
  | zero => intro t shs h; simp [shOf] at h
  | succ f ih =>
    intro t shs h n cs y hy hby
    simp only [shOf] at h
    split at h
    · rename_i hu
      simp only [Option.some.injEq] at h; subst h
      obtain ⟨b, rfl, _⟩ := DataW.trod_bool hu hy
      simp only [RCL, RC]
      exact ⟨_, [], rfl, ⟨b, rfl⟩, rfl⟩
    · rename_i k hu
      simp only [Option.some.injEq] at h; subst h
      obtain ⟨b, rfl, _, hz⟩ := DataW.trod_int hu hy
      simp only [RCL, RC]
      exact ⟨_, [], rfl, ⟨b, rfl, hz⟩, rfl⟩
    · rename_i e hu
      split at h
      · rename_i ss hss
        split at h
        · rename_i hc
          simp only [Option.some.injEq] at h; subst h
          obtain ⟨v, rfl⟩ : ∃ v, cs = [v] := by
            rcases DataW.trod_slice hu hy with ⟨h0, _⟩ | ⟨a, len, cap, elems, rest, n, _, hv, _⟩
            · exact ⟨_, h0⟩
            · exact ⟨_, hv⟩
          simp only [RCL, RC]
          refine ⟨v, [], rfl, ?_, rfl⟩
          rcases open_cellsB hB hu hc.1 hc.2.1 hy hby with h0 | ⟨a, len, cap, vs, h0, hl, hm, hv, hcell, hels⟩
          · exact .inl h0
          · right
            obtain ⟨L, hL, hvs⟩ := flat_of (α := {c : List Value // RCL M w ss c}) (mk := Subtype.val) hc.2.1 cap vs hv fun i hi => by
              obtain ⟨n', y', hy', hb'⟩ := hels i hi
              exact ⟨⟨_, ih e ss hss n' _ y' hy' hb'⟩, rfl⟩
            have hfl : (L.map Subtype.val).flatten = vs := by rw [hvs]; rfl
            refine ⟨a, len, cap, L.map Subtype.val, h0, hl, Nat.le_trans (Nat.mul_le_mul_left _ hc.2.2) hm, hc.2.1, by simpa using hL, by rw [hfl]; exact hcell, fun c hc => ?_⟩
            obtain ⟨x, _, rfl⟩ := List.mem_map.1 hc
            exact x.2
        · cases h
      · cases h
    · rename_i m e hu
      split at h
      · rename_i ss hss
        split at h
        · rename_i hc
          simp only [Option.some.injEq] at h; subst h
          obtain ⟨xs, k, rfl, rfl, hl, hx, hg⟩ := DataW.trod_array hu hy
          rw [hc.1] at hg
          have := rep_rc (w := w) (a := ss) (cs := cs) (n := m) fun i hi => by
            have h1 := hg i hi
            rw [List.getElem?_eq_getElem (by omega)] at h1
            exact ih e ss hss _ _ _ h1 (hB.arr _ _ _ _ hu hby _ (List.mem_map_of_mem (List.getElem_mem _)))
          rwa [List.take_of_length_le (by rw [hl, hc.2]; exact Nat.le_refl _)] at this
        · cases h
      · cases h
    · rename_i fs hu
      split at h
      · rename_i ss hss
        split at h
        · rename_i hc
          simp only [Option.some.injEq] at h; subst h
          obtain ⟨xs, k, rfl, rfl, hl, hx, hg⟩ := DataW.trod_struct hu hy
          have := shFs_rc (w := w) (enc := enc) (base := base) (held := held) ih fs.toList 0 ss hss cs fun fd hm => by
            obtain ⟨i, hi⟩ := List.mem_iff_getElem?.1 hm
            have hi' : fs[i]? = some fd := by rw [← Array.getElem?_toList]; exact hi
            have h1 := hg i fd hi'
            have hlt := (Array.getElem?_eq_some_iff.1 hi').1
            rw [List.getElem?_eq_getElem (by omega)] at h1
            exact ⟨_, _, h1, hB.str _ _ _ hu hby i fd _ hi' (by rw [List.getElem?_map, List.getElem?_eq_getElem (by omega)]; rfl)⟩
          rwa [List.drop_zero, List.take_of_length_le (by rw [hl, hc]; exact Nat.le_refl _)] at this
        · cases h
      · cases h
    · cases h
end
end Go.Proofs.YtdlfdieehioolaaDoor
/- What is handed in, as something that can be read. -/
namespace Go.Proofs.YtdlfdieehioolaaDoor
open Go
set_option linter.unusedVariables false
set_option linter.unusedSimpArgs false
theorem Sow.mono {es n : Nat} {s : Value} {cs : List Value} {G G' : Ch} (hs : Sow es s n cs G) (hm : ∀ x ∈ G, x ∈ G') : Sow es s n cs G' := fun h hh => hs h fun x hx => hh x (hm x hx)
theorem own_of {h : Heap} (wf : WF h) : ∀ {G : Ch}, (∀ x ∈ G, h.get x.1 = some x.2) → ∃ G', Own h G' ∧ ∀ x ∈ G, x ∈ G' := by
  intro G
  induction G with
  | nil => intro _; exact ⟨[], .nil, fun _ h => h⟩
  | cons x G ih =>
    intro hg
    obtain ⟨G', ho, hm⟩ := ih fun y hy => hg y (List.mem_cons_of_mem _ hy)
    by_cases he : ∃ y ∈ G', y.1 = x.1
    · obtain ⟨y, hy, e⟩ := he
      have : y = x := by
        have h1 := ho.get y hy
        have h2 := hg x (List.mem_cons_self ..)
        rw [e, h2] at h1
        exact Prod.ext e (Option.some.inj h1).symm
      subst this
      exact ⟨G', ho, fun z hz => (List.mem_cons.1 hz).elim (fun e => e ▸ hy) (hm z)⟩
    · refine ⟨x :: G', Own.cons ho (hg x (List.mem_cons_self ..)) (wf.lt (hg x (List.mem_cons_self ..))) fun y hy e => he ⟨y, hy, e⟩, fun z hz => ?_⟩
      rcases List.mem_cons.1 hz with rfl | hz
      · exact List.mem_cons_self ..
      · exact List.mem_cons_of_mem _ (hm z hz)
def Lst (u : Value) (n : Nat) : Prop := (u = .slice none 0 0 ∧ n = 0) ∨ ∃ b, u = .slice (some ⟨b, 0, none⟩) n n
theorem InSl.lst {H : Heap} {es n : Nat} {u : Value} {cs : List Value} (h : InSl H es u n cs) : Lst u n := by
  cases h with
  | empty => exact .inl ⟨rfl, rfl⟩
  | @full b n cs ro e hb hl => exact .inr ⟨b, rfl⟩
/- wherever these blocks are -/
mutual
def Hs (M : Nat) (G : Ch) : Sh → Value → Prop
  | .int k, v => ∃ z, v = .int k z ∧ (Lit.int k z).wf = true
  | .bool, v => ∃ b, v = .bool b
  | .sl shs, v => ∃ chunks : List (List Value), Sow shs.length v chunks.length chunks.flatten G ∧ Lst v chunks.length ∧ chunks.length * bytesL shs ≤ M ∧ ∀ c ∈ chunks, HsL M G shs c
def HsL (M : Nat) (G : Ch) : List Sh → List Value → Prop
  | [], cs => cs = []
  | s :: ss, cs => ∃ v rest, cs = v :: rest ∧ Hs M G s v ∧ HsL M G ss rest
end
variable {M : Nat}
mutual
theorem Hs.mono {G G' : Ch} (f : ∀ x ∈ G, x ∈ G') : ∀ {s : Sh} {v : Value}, Hs M G s v → Hs M G' s v
  | .int k, v, h => by simpa only [Hs] using h
  | .bool, v, h => by simpa only [Hs] using h
  | .sl shs, v, h => by
    simp only [Hs] at h ⊢
    obtain ⟨chunks, h1, h2, h3, h4⟩ := h
    exact ⟨chunks, h1.mono f, h2, h3, fun c hc => HsL.mono f (h4 c hc)⟩
theorem HsL.mono {G G' : Ch} (f : ∀ x ∈ G, x ∈ G') : ∀ {ss : List Sh} {cs : List Value}, HsL M G ss cs → HsL M G' ss cs
  | [], cs, h => by simpa only [HsL] using h
  | s :: ss, cs, h => by
    simp only [HsL] at h ⊢
    obtain ⟨v, rest, h1, h2, h3⟩ := h
    exact ⟨v, rest, h1, Hs.mono f h2, HsL.mono f h3⟩
end
theorem hs_chunks {H : Heap} {shs : List Sh} (hone : ∀ c, HvL M H shs c → ∃ G : Ch, (∀ x ∈ G, H.get x.1 = some x.2) ∧ HsL M G shs c) :
    ∀ (chunks : List (List Value)), (∀ c ∈ chunks, HvL M H shs c) → ∃ G : Ch, (∀ x ∈ G, H.get x.1 = some x.2) ∧ ∀ c ∈ chunks, HsL M G shs c := by
  intro chunks
  induction chunks with
  | nil => intro _; exact ⟨[], fun _ h => absurd h List.not_mem_nil, fun _ h => absurd h List.not_mem_nil⟩
  | cons c chunks ih =>
    intro hc
    obtain ⟨G1, g1, g2⟩ := hone c (hc c (List.mem_cons_self ..))
    obtain ⟨G2, k1, k2⟩ := ih fun c hm => hc c (List.mem_cons_of_mem _ hm)
    refine ⟨G1 ++ G2, fun x hx => (List.mem_append.1 hx).elim (g1 x) (k1 x), fun x hx => ?_⟩
    rcases List.mem_cons.1 hx with rfl | hx
    · exact g2.mono fun y hy => List.mem_append_left _ hy
    · exact (k2 x hx).mono fun y hy => List.mem_append_right _ hy
mutual
theorem hs_of {H : Heap} (wf : WF H) : ∀ (s : Sh) (v : Value), Hv M H s v → ∃ G : Ch, (∀ x ∈ G, H.get x.1 = some x.2) ∧ Hs M G s v
  | .int k, v, h => ⟨[], fun _ h => absurd h List.not_mem_nil, by simp only [Hv] at h; simpa only [Hs] using h⟩
  | .bool, v, h => ⟨[], fun _ h => absurd h List.not_mem_nil, by simp only [Hv] at h; simpa only [Hs] using h⟩
  | .sl shs, v, h => by
    simp only [Hv] at h
    obtain ⟨chunks, h1, h2, h3⟩ := h
    obtain ⟨G1, g1, _, g3⟩ := h1.own wf
    obtain ⟨G2, k1, k2⟩ := hs_chunks (fun c hc => hsL_of wf shs c hc) chunks h3
    refine ⟨G1 ++ G2, fun x hx => (List.mem_append.1 hx).elim (g3 x) (k1 x), ?_⟩
    simp only [Hs]
    exact ⟨chunks, g1.mono fun y hy => List.mem_append_left _ hy, h1.lst, h2, fun c hc => (k2 c hc).mono fun y hy => List.mem_append_right _ hy⟩
theorem hsL_of {H : Heap} (wf : WF H) : ∀ (ss : List Sh) (cs : List Value), HvL M H ss cs → ∃ G : Ch, (∀ x ∈ G, H.get x.1 = some x.2) ∧ HsL M G ss cs
  | [], cs, h => ⟨[], fun _ h => absurd h List.not_mem_nil, by simp only [HvL] at h; simpa only [HsL] using h⟩
  | s :: ss, cs, h => by
    simp only [HvL] at h
    obtain ⟨v, rest, rfl, h1, h2⟩ := h
    obtain ⟨G1, g1, g2⟩ := hs_of wf s v h1
    obtain ⟨G2, k1, k2⟩ := hsL_of wf ss rest h2
    refine ⟨G1 ++ G2, fun x hx => (List.mem_append.1 hx).elim (g1 x) (k1 x), ?_⟩
    simp only [HsL]
    exact ⟨v, rest, rfl, g2.mono fun y hy => List.mem_append_left _ hy, k2.mono fun y hy => List.mem_append_right _ hy⟩
end
theorem Hs.ints {G : Ch} {k : IntKind} {v : Value} (h : Hs M G (.sl [.int k]) v) : ∃ X : List Int, Sow 1 v X.length (iz k X) G ∧ Lst v X.length ∧ X.length * (k.bits / 8) ≤ M ∧ ∀ z ∈ X, (Lit.int k z).wf = true := by
  simp only [Hs, HsL] at h
  obtain ⟨chunks, h1, h2, h3, h4⟩ := h
  obtain ⟨X, hX, hw⟩ : ∃ X : List Int, chunks = (X.map fun z => [.int k z]) ∧ ∀ z ∈ X, (Lit.int k z).wf = true := by
    clear h1 h2 h3
    induction chunks with
    | nil => exact ⟨[], rfl, fun _ h => absurd h List.not_mem_nil⟩
    | cons c cs ih =>
      obtain ⟨X, rfl, hX⟩ := ih fun c hc => h4 c (List.mem_cons_of_mem _ hc)
      obtain ⟨v, rest, rfl, ⟨z, rfl, hz⟩, rfl⟩ := h4 c (List.mem_cons_self ..)
      exact ⟨z :: X, rfl, fun y hy => (List.mem_cons.1 hy).elim (fun e => e ▸ hz) (hX y)⟩
  subst hX
  have hf : (X.map fun z => [Value.int k z]).flatten = iz k X := by
    clear h1 h2 h3 h4 hw
    induction X with
    | nil => rfl
    | cons z X ih => simp [ih]
  rw [hf, List.length_map] at h1
  rw [List.length_map] at h2 h3
  simp only [bytesL, Sh.bytes, Nat.add_zero] at h3
  exact ⟨X, h1, h2, h3, hw⟩
end Go.Proofs.YtdlfdieehioolaaDoor
/- How long what is handed in may be: the form's own reach. -/
namespace Go.Proofs.YtdlfdieehioolaaDoor
open Go Go.ChangeShapes Go.WideShapes Go.ChangeAt Go.RowKit
set_option linter.unusedVariables false
end Go.Proofs.YtdlfdieehioolaaDoor
/- What is handed in beside tables of the package level; arrays as values. -/
namespace Go.Proofs.YtdlfdieehioolaaDoor
open Go Go.ChangeShapes Go.WideShapes Go.ChangeAt Go.RowKit
set_option linter.unusedVariables false
set_option linter.unusedSimpArgs false
theorem args1 (P : Program) (w : World) (tabs : List Tab) (ht : ∀ t ∈ tabs, TabHolds P w t) : Args P (glob0 P) (heap1 P tabs) w := by
  have hget : ∀ r o, (heap1 P tabs).get r = some o → ∃ t ∈ tabs, r = t.g ∧ o = .cells t.cells true 0 := by
    intro r o h
    rcases heapT_get _ _ _ _ h with h | h
    · exact h
    · simp [heap0, Heap.get, Tr.get] at h
  have hnx : (heap1 P tabs).next = P.globals.size := by unfold heap1; rw [heapT_next]; rfl
  refine ⟨⟨fun r o h => ?_, fun r r' o o' x x' h _ _ ho => ?_, fun r x h => ?_⟩, fun g hg => by simp [glob0, hg], fun r hr => ?_, fun r o h => ?_, fun r hr => ?_⟩
  · obtain ⟨t, hm, rfl, rfl⟩ := hget r o h
    obtain ⟨hlt, el, fr, hh⟩ := ht t hm
    refine ⟨t.g, 0, 0, _, by simp [glob0, hlt], hh, fun h => (by cases h), by simp, fun i v hi => ?_⟩
    refine ⟨v, by simpa using hi, ?_⟩
    unfold Tab.cells at hi
    rw [List.getElem?_map] at hi
    cases hz : t.zs[i]? with
    | none => rw [hz] at hi; cases hi
    | some z => rw [hz] at hi; cases hi; exact .atom (.int _ _)
  · obtain ⟨t, _, rfl, rfl⟩ := hget r o h
    cases ho
  · unfold glob0 at h
    split at h
    · rename_i hlt; rw [hnx]; exact hlt
    · cases h
  · cases hx : (heap1 P tabs).get r with
    | none => rfl
    | some o =>
      obtain ⟨t, hm, rfl, rfl⟩ := hget r o hx
      obtain ⟨hlt, _⟩ := ht t hm
      rw [hnx] at hr; omega
  · obtain ⟨t, _, rfl, rfl⟩ := hget r o h
    rfl
  · rw [hnx] at hr
    simp only [glob0]; rw [if_neg (by omega)]
end Go.Proofs.YtdlfdieehioolaaDoor
/- An argument that is a struct with slices inside. -/
namespace Go.Proofs.YtdlfdieehioolaaDoor
open Go Go.ChangeShapes Go.WideShapes Go.ChangeAt Go.RowKit
section
variable {Hh : Type} {enc : TypeId × Value → Hh} {P : Program} {w : World} {M : Nat} {good : TypeId → DataW Hh → Prop}
theorem Args.strd (hB : Bk P good M) (hblk : ∃ (b : Nat) (arr : Array Value) (el : TypeId) (fr : Nat × Nat), w.heap[b]? = some (.cells arr el fr)) {ι : Emb} {H : Heap} {t : TypeId} {fs : Array Field} {v : Value} {d : DataW Hh} {p : List MemPlace} {f : Nat} {shs : List Sh} (hA : Args P ι H w) (ht : P.underlying t = some (.struct fs)) (hsh : shOf P f t = some shs)
    (hval : ∃ b, Value.okWide P w .any b t v) (h : DataW.Trod enc P w 0 (fun _ => true) true t v d p) (hbd : good t d) :
    ∃ (ι' : Emb) (H' : Heap) (cs cs' : List Value), v = .agg ⟨cs⟩ ∧ Args P ι' H' w ∧ Ext ι ι' ∧ Fr H H' [] ∧ HvL M H' shs cs' ∧ All2 (CellR ι') cs' cs := by
  obtain ⟨b, hval⟩ := hval
  simp only [Value.okWide, ht] at hval
  obtain ⟨cs, rfl, _, _⟩ := hval
  obtain ⟨fuel, h⟩ := h
  have hr := trod_rc hB f t _ hsh _ _ _ h hbd
  have hr : RCL M w shs cs.toList := hr
  obtain ⟨ι', H', cs', g1, g2, g3, g4, g5⟩ := buildL hblk shs cs.toList ι H hA hr
  exact ⟨ι', H', cs.toList, cs', rfl, g1, g2, g3, g4, g5⟩
end
end Go.Proofs.YtdlfdieehioolaaDoor
