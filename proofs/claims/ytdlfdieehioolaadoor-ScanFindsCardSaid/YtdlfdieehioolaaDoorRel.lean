/- How the abstract machine's values and heap stand to the model's: definitions and their first laws. -/
import Derived.Test.YtdlfdieehioolaaDoorComp
import Derived.RangeFuncRecord
import Derived.Below
namespace Go.Proofs.YtdlfdieehioolaaDoor
open Go
set_option linter.unusedVariables false
/- ===== the trie ===== -/
theorem Tr.get_nil {α : Type} (k : Nat) : (Tr.nil : Tr α).get k = none := by simp [Tr.get]
theorem beq_mod (k : Nat) : Nat.beq (k % 2) 0 = decide (k % 2 = 0) := by
  by_cases h : k % 2 = 0
  · simp [h]
  · simp only [h, decide_false]
    exact Bool.eq_false_iff.2 fun hb => h (Nat.eq_of_beq_eq_true hb)
theorem Tr.get_setF {α : Type} : ∀ (f : Nat) (t : Tr α) (k : Nat) (v : Option α) (k' : Nat), k < f →
    (Tr.setF f t k v).get k' = if k' = k then v else t.get k' := by
  intro f
  induction f with
  | zero => intro t k v k' h; omega
  | succ f ih =>
    intro t k v k' hk
    cases t with
    | nil =>
      cases k with
      | zero => cases k' <;> simp [Tr.setF, Tr.get]
      | succ k =>
        have hlt : k / 2 < f := by omega
        simp only [Tr.setF, beq_mod]
        by_cases hp : k % 2 = 0
        · simp only [hp, decide_true, cond_true]
          cases k' with
          | zero => simp [Tr.get]
          | succ k' =>
            simp only [Tr.get, beq_mod, ih _ _ _ _ hlt, Nat.add_right_cancel_iff]
            by_cases hp' : k' % 2 = 0
            · simp only [hp', decide_true, cond_true]
              by_cases e : k' = k
              · simp [e]
              · rw [if_neg e, if_neg (by omega)]
            · simp only [hp', decide_false, cond_false]
              rw [if_neg (by rintro rfl; exact hp' hp)]
        · simp only [hp, decide_false, cond_false]
          cases k' with
          | zero => simp [Tr.get]
          | succ k' =>
            simp only [Tr.get, beq_mod, ih _ _ _ _ hlt, Nat.add_right_cancel_iff]
            by_cases hp' : k' % 2 = 0
            · simp only [hp', decide_true, cond_true]
              rw [if_neg (by rintro rfl; exact hp hp')]
            · simp only [hp', decide_false, cond_false]
              by_cases e : k' = k
              · simp [e]
              · rw [if_neg e, if_neg (by omega)]
    | node l x r =>
      cases k with
      | zero => cases k' <;> simp [Tr.setF, Tr.get]
      | succ k =>
        have hlt : k / 2 < f := by omega
        simp only [Tr.setF, beq_mod]
        by_cases hp : k % 2 = 0
        · simp only [hp, decide_true, cond_true]
          cases k' with
          | zero => simp [Tr.get]
          | succ k' =>
            simp only [Tr.get, beq_mod, ih _ _ _ _ hlt, Nat.add_right_cancel_iff]
            by_cases hp' : k' % 2 = 0
            · simp only [hp', decide_true, cond_true]
              by_cases e : k' = k
              · simp [e]
              · rw [if_neg e, if_neg (by omega)]
            · simp only [hp', decide_false, cond_false]
              rw [if_neg (by rintro rfl; exact hp' hp)]
        · simp only [hp, decide_false, cond_false]
          cases k' with
          | zero => simp [Tr.get]
          | succ k' =>
            simp only [Tr.get, beq_mod, ih _ _ _ _ hlt, Nat.add_right_cancel_iff]
            by_cases hp' : k' % 2 = 0
            · simp only [hp', decide_true, cond_true]
              rw [if_neg (by rintro rfl; exact hp hp')]
            · simp only [hp', decide_false, cond_false]
              by_cases e : k' = k
              · simp [e]
              · rw [if_neg e, if_neg (by omega)]
theorem Tr.get_set {α : Type} (t : Tr α) (k : Nat) (v : Option α) (k' : Nat) : (t.set k v).get k' = if k' = k then v else t.get k' :=
  Tr.get_setF _ _ _ _ _ (Nat.lt_succ_self k)
theorem Heap.get_put (H : Heap) (r : Nat) (o : AObj) (k : Nat) : (H.put r o).get k = if k = r then some o else H.get k := Tr.get_set _ _ _ _
theorem Heap.get_drop (H : Heap) (r k : Nat) : (H.drop r).get k = if k = r then none else H.get k := Tr.get_set _ _ _ _
theorem Heap.get_new (H : Heap) (o : AObj) (k : Nat) : (H.new o).get k = if k = H.next then some o else H.get k := Tr.get_set _ _ _ _
@[simp] theorem Heap.next_put (H : Heap) (r : Nat) (o : AObj) : (H.put r o).next = H.next := rfl
@[simp] theorem Heap.next_drop (H : Heap) (r : Nat) : (H.drop r).next = H.next := rfl
@[simp] theorem Heap.next_new (H : Heap) (o : AObj) : (H.new o).next = H.next + 1 := rfl
/- ===== lists related place by place ===== -/
inductive All2 {α β : Type} (R : α → β → Prop) : List α → List β → Prop
  | nil : All2 R [] []
  | cons {a b as bs} : R a b → All2 R as bs → All2 R (a :: as) (b :: bs)
section
variable {α β : Type} {R S : α → β → Prop}
theorem All2.length {as : List α} {bs : List β} (h : All2 R as bs) : as.length = bs.length := by
  induction h <;> simp_all
theorem All2.mono {as : List α} {bs : List β} (h : All2 R as bs) (hr : ∀ a b, R a b → S a b) : All2 S as bs := by
  induction h with
  | nil => exact .nil
  | cons h _ ih => exact .cons (hr _ _ h) ih
theorem All2.append {as as' : List α} {bs bs' : List β} (h : All2 R as bs) (h' : All2 R as' bs') : All2 R (as ++ as') (bs ++ bs') := by
  induction h with
  | nil => exact h'
  | cons h _ ih => exact .cons h ih
theorem All2.get {as : List α} {bs : List β} (h : All2 R as bs) : ∀ {i : Nat} {a : α}, as[i]? = some a → ∃ b, bs[i]? = some b ∧ R a b := by
  induction h with
  | nil => intro i a h; simp at h
  | cons h _ ih =>
    intro i a hi
    cases i with
    | zero => simp at hi; subst hi; exact ⟨_, rfl, h⟩
    | succ i => simpa using ih (by simpa using hi)
theorem All2.of_get {as : List α} {bs : List β} (hl : as.length = bs.length) (h : ∀ (i : Nat) a b, as[i]? = some a → bs[i]? = some b → R a b) : All2 R as bs := by
  induction as generalizing bs with
  | nil => cases bs with
    | nil => exact .nil
    | cons b bs => simp at hl
  | cons a as ih => cases bs with
    | nil => simp at hl
    | cons b bs => exact .cons (h 0 a b rfl rfl) (ih (by simpa using hl) fun i x y hx hy => h (i + 1) x y (by simpa using hx) (by simpa using hy))
theorem All2.drop {as : List α} {bs : List β} (h : All2 R as bs) (n : Nat) : All2 R (as.drop n) (bs.drop n) := by
  induction h generalizing n with
  | nil => simpa using All2.nil
  | cons h hs ih => cases n with
    | zero => exact .cons h hs
    | succ n => simpa using ih n
theorem All2.take {as : List α} {bs : List β} (h : All2 R as bs) (n : Nat) : All2 R (as.take n) (bs.take n) := by
  induction h generalizing n with
  | nil => simpa using All2.nil
  | cons h hs ih => cases n with
    | zero => simpa using All2.nil
    | succ n => simpa using All2.cons h (ih n)
theorem All2.map {γ δ : Type} {T : γ → δ → Prop} {f : α → γ} {g : β → δ} {as : List α} {bs : List β} (h : All2 R as bs) (hf : ∀ a b, R a b → T (f a) (g b)) :
    All2 T (as.map f) (bs.map g) := by
  induction h with
  | nil => exact .nil
  | cons h _ ih => exact .cons (hf _ _ h) ih
theorem All2.self {T : α → α → Prop} {as : List α} (h : ∀ a ∈ as, T a a) : All2 T as as := by
  induction as with
  | nil => exact .nil
  | cons a as ih => exact .cons (h a (by simp)) (ih fun x hx => h x (by simp [hx]))
end
/- ===== values ===== -/
abbrev Emb := Nat → Option (Nat × Nat × Nat)
def Emb.set (ι : Emb) (r : Nat) (x : Nat × Nat × Nat) : Emb := fun k => if k = r then some x else ι k
inductive AtomR (ι : Emb) : Value → Value → Prop
  | bool (b) : AtomR ι (.bool b) (.bool b)
  | int (k n) : AtomR ι (.int k n) (.int k n)
  | str (s) : AtomR ι (.string s) (.string s)
  | nilp : AtomR ι (.pointer none) (.pointer none)
  | ptr {r b d e} (o : Nat) : ι r = some (b, d, e) → AtomR ι (.pointer (some ⟨r, o, none⟩)) (.pointer (some ⟨b, d + o, none⟩))
  | nils : AtomR ι (.slice none 0 0) (.slice none 0 0)
  | slice {r b d e} (o : Nat) (sp : Option Nat) (n c : Nat) (a' : Addr) (c' : Nat) : ι r = some (b, d, e) → c' = (match sp with | some _ => c | none => c + e) →
      (a' = ⟨b, d + o, none⟩ ∨ (n = 0 ∧ c' = 0)) → AtomR ι (.slice (some ⟨r, o, sp⟩) n c) (.slice (some a') n c')
  | nilm : AtomR ι (.map none) (.map none)
  | map {r b d e} : ι r = some (b, d, e) → AtomR ι (.map (some r)) (.map (some b))
  | nilf : AtomR ι .nilFunc .nilFunc
  | nili : AtomR ι .nilIface .nilIface
  | yield {l b d e} : ι l = some (b, d, e) → AtomR ι (.func (.yield l) #[] #[]) (.func (.yield b) #[] #[])
inductive CellR (ι : Emb) : Value → Value → Prop
  | atom {v v'} : AtomR ι v v' → CellR ι v v'
  | fn (g : Nat) {f f' c c' : List Value} : All2 (AtomR ι) f f' → All2 (AtomR ι) c c' → CellR ι (.func (.func g) ⟨f⟩ ⟨c⟩) (.func (.func g) ⟨f'⟩ ⟨c'⟩)
inductive ValR (ι : Emb) : Value → Value → Prop
  | cell {v v'} : CellR ι v v' → ValR ι v v'
  | agg {cs cs' : List Value} : All2 (CellR ι) cs cs' → ValR ι (.agg ⟨cs⟩) (.agg ⟨cs'⟩)
inductive VR (ι : Emb) : Value → Value → Prop
  | val {v v'} : ValR ι v v' → VR ι v v'
  | tuple {vs vs' : List Value} : All2 (ValR ι) vs vs' → VR ι (.tuple ⟨vs⟩) (.tuple ⟨vs'⟩)
def Ext (ι ι' : Emb) : Prop := ∀ r x, ι r = some x → ι' r = some x
theorem Ext.refl (ι : Emb) : Ext ι ι := fun _ _ h => h
theorem Ext.trans {a b c : Emb} (h : Ext a b) (k : Ext b c) : Ext a c := fun r x hx => k r x (h r x hx)
theorem Ext.set {ι : Emb} {r : Nat} {x : Nat × Nat × Nat} (h : ι r = none) : Ext ι (ι.set r x) := fun k y hk => by
  unfold Emb.set
  by_cases e : k = r
  · subst e; rw [h] at hk; cases hk
  · rw [if_neg e]; exact hk
section
variable {ι ι' : Emb} {v v' : Value}
theorem AtomR.mono (h : AtomR ι v v') (hx : Ext ι ι') : AtomR ι' v v' := by
  cases h with
  | ptr o h => exact .ptr o (hx _ _ h)
  | slice o sp n c a' c' h h1 h2 => exact .slice o sp n c a' c' (hx _ _ h) h1 h2
  | map h => exact .map (hx _ _ h)
  | yield h => exact .yield (hx _ _ h)
  | _ => constructor
theorem CellR.mono (h : CellR ι v v') (hx : Ext ι ι') : CellR ι' v v' := by
  cases h with
  | atom h => exact .atom (h.mono hx)
  | fn g h1 h2 => exact .fn g (h1.mono fun _ _ h => h.mono hx) (h2.mono fun _ _ h => h.mono hx)
theorem ValR.mono (h : ValR ι v v') (hx : Ext ι ι') : ValR ι' v v' := by
  cases h with
  | cell h => exact .cell (h.mono hx)
  | agg h => exact .agg (h.mono fun _ _ h => h.mono hx)
theorem VR.mono (h : VR ι v v') (hx : Ext ι ι') : VR ι' v v' := by
  cases h with
  | val h => exact .val (h.mono hx)
  | tuple h => exact .tuple (h.mono fun _ _ h => h.mono hx)
end
abbrev VR.atom {ι : Emb} {v v' : Value} (h : AtomR ι v v') : VR ι v v' := .val (.cell (.atom h))
theorem VR.undef (ι : Emb) : VR ι Go.undef Go.undef := .tuple .nil
theorem CellR.isCell {ι : Emb} {v v' : Value} (h : CellR ι v v') : Go.Proofs.YtdlfdieehioolaaDoor.isCell v = true ∧ v'.oneCell' = true ∧ v.cells = #[v] ∧ v'.cells = #[v'] := by
  cases h with
  | atom h => cases h <;> exact ⟨rfl, rfl, rfl, rfl⟩
  | fn => exact ⟨rfl, rfl, rfl, rfl⟩
theorem VR.cell {ι : Emb} {v v' : Value} (h : VR ι v v') (hc : isCell v = true) : CellR ι v v' := by
  cases h with
  | val h => cases h with
    | cell h => exact h
    | agg h => cases hc
  | tuple h => cases hc
theorem VR.valR {ι : Emb} {v v' : Value} (h : VR ι v v') (hc : ∀ vs, v ≠ .tuple vs) : ValR ι v v' := by
  cases h with
  | val h => exact h
  | tuple h => exact absurd rfl (hc _)
theorem VR.cells {ι : Emb} {v v' : Value} (h : VR ι v v') (hc : (cellsOf v).all isCell = true) : All2 (CellR ι) (cellsOf v) (cellsOf v') := by
  cases h with
  | val h => cases h with
    | cell h =>
      obtain ⟨_, _, e1, e2⟩ := h.isCell
      unfold cellsOf; rw [e1, e2]; exact .cons h .nil
    | agg h => exact h
  | tuple h => simp [cellsOf, Value.cells, isCell] at hc
/- ===== objects, heaps ===== -/
def AObj.rw : AObj → Bool
  | .cells _ ro _ => !ro
  | _ => true
def pendR : Option AExit → Option Code → Prop
  | none, none => True
  | some .ret, some .ret => True
  | some (.exit i), some (.exit j) => i = j
  | _, _ => False
def ObjR (P : Program) (ι : Emb) : AObj → Obj → Nat → Nat → Prop
  | .cells cs ro es, .cells arr elem fr, d, e => (ro = false → fr = (0, 0) ∨ (es ≠ 0 ∧ arr.size ≤ fr.1)) ∧ d + cs.length + e * es ≤ arr.size ∧
      ∀ (i : Nat) (v : Value), cs[i]? = some v → ∃ v', arr[d + i]? = some v' ∧ CellR ι v v'
  | .map kvs, .map es _, _, _ => All2 (fun (p : Value × Value) (q : MapEntry) => CellR ι p.1 q.key ∧ ValR ι p.2 q.val) kvs es.toList
  | .loop tm ps as bd st pend, .loop l, _, _ => l.state = st ∧ (∀ t, VR ι ((tm.get t).getD undef) (l.tmps.getD t undef)) ∧ l.params.toList = ps ∧
      (∃ N, N ≤ l.tmps.size ∧ (∀ p ∈ ps, p < N) ∧ compCode P N l.assign = some as ∧ compCode P N l.body = some bd) ∧ pendR pend l.pending
  | .iter none, .mapIter none _ _ _, d0, _ => d0 = 0
  | .iter (some r), .mapIter (some b) _ _ _, d0, _ => d0 = 0 ∧ ∃ d e, ι r = some (b, d, e)
  | .defr, .deferred (some []), _, _ => True
  | _, _, _, _ => False
theorem ObjR.mono {P : Program} {ι ι' : Emb} {o : AObj} {c : Obj} {d e : Nat} (h : ObjR P ι o c d e) (hx : Ext ι ι') : ObjR P ι' o c d e := by
  unfold ObjR at *
  split at h
  · exact ⟨h.1, h.2.1, fun i v hi => let ⟨v', a, b⟩ := h.2.2 i v hi; ⟨v', a, b.mono hx⟩⟩
  · exact h.mono fun _ _ h => ⟨h.1.mono hx, h.2.mono hx⟩
  · exact ⟨h.1, fun t => (h.2.1 t).mono hx, h.2.2⟩
  · exact h
  · obtain ⟨h0, d, e, h⟩ := h; exact ⟨h0, d, e, hx _ _ h⟩
  · trivial
  · exact h.elim
structure Sat (P : Program) (ι : Emb) (H : Heap) (w : World) : Prop where
  obj : ∀ (r : Nat) (o : AObj), H.get r = some o → ∃ b d e c, ι r = some (b, d, e) ∧ w.heap[b]? = some c ∧ ObjR P ι o c d e
  apart : ∀ (r r' : Nat) (o o' : AObj) (x x' : Nat × Nat × Nat), H.get r = some o → H.get r' = some o' → r ≠ r' → o.rw = true → ι r = some x → ι r' = some x' → x.1 ≠ x'.1
  fresh : ∀ (r : Nat) (x : Nat × Nat × Nat), ι r = some x → r < H.next
structure Step (P : Program) (ι : Emb) (H : Heap) (w : World) (ι' : Emb) (H' : Heap) (w' : World) : Prop where
  ext : Ext ι ι'
  sat : Sat P ι' H' w'
  dom : ∀ (r : Nat) (x : Nat × Nat × Nat), ι' r = some x → ι r = some x ∨ (H.next ≤ r ∧ r < H'.next)
  next : H.next ≤ H'.next
  frame : ∀ b, b < w.heap.size → (∀ (r : Nat) (o : AObj) (x : Nat × Nat × Nat), H.get r = some o → o.rw = true → ι r = some x → x.1 ≠ b) → w'.heap[b]? = w.heap[b]?
  size : w.heap.size ≤ w'.heap.size
  os : w'.os = w.os
  tape : w'.tape = w.tape
  output : w'.output = w.output
  old : ∀ (r : Nat) (o : AObj) (x : Nat × Nat × Nat), H'.get r = some o → ι' r = some x → w.heap.size ≤ x.1 ∨
    ∃ r0 o0 x0, H.get r0 = some o0 ∧ (o.rw = true → o0.rw = true) ∧ ι r0 = some x0 ∧ x0.1 = x.1
  ro : ∀ (r : Nat) (o : AObj), H'.get r = some o → o.rw = false → H.get r = some o
theorem Sat.lt {P : Program} {ι : Emb} {H : Heap} {w : World} (h : Sat P ι H w) {r : Nat} {o : AObj} {x : Nat × Nat × Nat} (hr : H.get r = some o) (hx : ι r = some x) : x.1 < w.heap.size := by
  obtain ⟨b, d, e, c, h1, h2, _⟩ := h.obj r o hr
  rw [hx] at h1; cases h1
  exact (Array.getElem?_eq_some_iff.1 h2).1
theorem Step.refl {P : Program} {ι : Emb} {H : Heap} {w : World} (h : Sat P ι H w) : Step P ι H w ι H w :=
  ⟨Ext.refl _, h, fun _ _ h => .inl h, Nat.le_refl _, fun _ _ _ => rfl, Nat.le_refl _, rfl, rfl, rfl, fun r o x hr hx => .inr ⟨r, o, x, hr, id, hx, rfl⟩, fun _ _ h _ => h⟩
theorem Step.trans {P : Program} {ι ι' ι'' : Emb} {H H' H'' : Heap} {w w' w'' : World} (h : Step P ι H w ι' H' w') (k : Step P ι' H' w' ι'' H'' w'') :
    Step P ι H w ι'' H'' w'' where
  ext := h.ext.trans k.ext
  sat := k.sat
  ro := fun r o hr hw => h.ro r o (k.ro r o hr hw) hw
  dom := fun r x hx => by
    rcases k.dom r x hx with hx | ⟨h1, h2⟩
    · exact (h.dom r x hx).imp id fun ⟨a, b⟩ => ⟨a, Nat.lt_of_lt_of_le b k.next⟩
    · exact .inr ⟨Nat.le_trans h.next h1, h2⟩
  next := Nat.le_trans h.next k.next
  frame := fun b hb hf => by
    rw [k.frame b (Nat.lt_of_lt_of_le hb h.size) ?_, h.frame b hb hf]
    intro r o x hr ho hx hxb
    rcases h.old r o x hr hx with h1 | ⟨r0, o0, x0, a1, a2, a3, a4⟩
    · omega
    · exact hf r0 o0 x0 a1 (a2 ho) a3 (a4.trans hxb)
  size := Nat.le_trans h.size k.size
  os := k.os.trans h.os
  tape := k.tape.trans h.tape
  output := k.output.trans h.output
  old := fun r o x hr hx => by
    rcases k.old r o x hr hx with h1 | ⟨r0, o0, x0, a1, a2, a3, a4⟩
    · exact .inl (Nat.le_trans h.size h1)
    · rcases h.old r0 o0 x0 a1 a3 with h1 | ⟨r1, o1, x1, b1, b2, b3, b4⟩
      · exact .inl (a4 ▸ h1)
      · exact .inr ⟨r1, o1, x1, b1, fun ho => b2 (a2 ho), b3, b4.trans a4⟩
theorem Step.drawn {P : Program} {ι : Emb} {H : Heap} {w w' : World} (h : Sat P ι H w) (hh : w'.heap = w.heap) (ho : w'.os = w.os) (ht : w'.tape = w.tape) (hp : w'.output = w.output) :
    Step P ι H w ι H w' :=
  ⟨Ext.refl _, ⟨fun r o hr => by rw [hh]; exact h.obj r o hr, h.apart, h.fresh⟩, fun _ _ h => .inl h, Nat.le_refl _, fun _ _ _ => by rw [hh], by rw [hh]; exact Nat.le_refl _, ho, ht, hp,
    fun r o x hr hx => .inr ⟨r, o, x, hr, id, hx, rfl⟩, fun _ _ h _ => h⟩
theorem Step.new {P : Program} {ι : Emb} {H : Heap} {w : World} (h : Sat P ι H w) (o : AObj) (c : Obj) (e : Nat)
    (hnone : ι H.next = none) (hc : ObjR P (ι.set H.next (w.heap.size, 0, e)) o c 0 e) (horw : o.rw = true := by rfl) :
    Step P ι H w (ι.set H.next (w.heap.size, 0, e)) (H.new o) (w.alloc c) := by
  have hx : Ext ι (ι.set H.next (w.heap.size, 0, e)) := Ext.set hnone
  have hs : ∀ k, k < w.heap.size → (w.alloc c).heap[k]? = w.heap[k]? := fun k hk => Go.RowKit.Below.heap_alloc w c k hk
  refine ⟨hx, ⟨?_, ?_, ?_⟩, ?_, by simp, fun b hb _ => hs b hb, by rw [World.size_alloc]; omega, rfl, rfl, rfl, ?_, ?_⟩
  · intro r o' hr
    rw [Heap.get_new] at hr
    by_cases e1 : r = H.next
    · rw [if_pos e1] at hr; cases hr; subst e1
      exact ⟨w.heap.size, 0, e, c, by simp [Emb.set], World.alloc_heap_new w c, hc⟩
    · rw [if_neg e1] at hr
      obtain ⟨b, d, e', c', h1, h2, h3⟩ := h.obj r o' hr
      exact ⟨b, d, e', c', hx _ _ h1, (hs b (Array.getElem?_eq_some_iff.1 h2).1).trans h2, h3.mono hx⟩
  · intro r r' o1 o2 x x' hr hr' hne ho hxr hxr'
    rw [Heap.get_new] at hr hr'
    unfold Emb.set at hxr hxr'
    by_cases e1 : r = H.next
    · rw [if_pos e1] at hxr
      have e2 : ¬ r' = H.next := fun e2 => hne (e1.trans e2.symm)
      rw [if_neg e2] at hr' hxr'
      have := h.lt hr' hxr'
      cases hxr; simp; omega
    · rw [if_neg e1] at hr hxr
      by_cases e2 : r' = H.next
      · rw [if_pos e2] at hxr'
        have := h.lt hr hxr
        cases hxr'; simp; omega
      · rw [if_neg e2] at hr' hxr'
        exact h.apart r r' o1 o2 x x' hr hr' hne ho hxr hxr'
  · intro r x hr
    unfold Emb.set at hr
    by_cases e1 : r = H.next
    · subst e1; simp
    · rw [if_neg e1] at hr; have := h.fresh r x hr; simp; omega
  · intro r x hr
    unfold Emb.set at hr
    by_cases e1 : r = H.next
    · subst e1; exact .inr ⟨Nat.le_refl _, by simp⟩
    · rw [if_neg e1] at hr; exact .inl hr
  · intro r o1 x hr hxr
    rw [Heap.get_new] at hr
    unfold Emb.set at hxr
    by_cases e1 : r = H.next
    · rw [if_pos e1] at hxr; cases hxr; exact .inl (Nat.le_refl _)
    · rw [if_neg e1] at hr hxr; exact .inr ⟨r, o1, x, hr, id, hxr, rfl⟩
  · intro r o1 hr hw1
    rw [Heap.get_new] at hr
    by_cases e1 : r = H.next
    · rw [if_pos e1] at hr; cases hr; rw [horw] at hw1; cases hw1
    · rw [if_neg e1] at hr; exact hr
theorem Step.put {P : Program} {ι : Emb} {H : Heap} {w w' : World} (h : Sat P ι H w) {r : Nat} {o0 o1 : AObj} {b d e : Nat} {c : Obj}
    (hr : H.get r = some o0) (hw0 : o0.rw = true) (hw1 : o1.rw = true) (hx : ι r = some (b, d, e)) (hb : w'.heap[b]? = some c) (hc : ObjR P ι o1 c d e)
    (hk : ∀ k, k ≠ b → w'.heap[k]? = w.heap[k]?) (hz : w'.heap.size = w.heap.size) (ho : w'.os = w.os) (ht : w'.tape = w.tape) (hp : w'.output = w.output) :
    Step P ι H w ι (H.put r o1) w' := by
  refine ⟨Ext.refl _, ⟨?_, ?_, ?_⟩, fun _ _ h => .inl h, Nat.le_refl _, ?_, Nat.le_of_eq hz.symm, ho, ht, hp, ?_, ?_⟩
  · intro k o hko
    rw [Heap.get_put] at hko
    by_cases e1 : k = r
    · rw [if_pos e1] at hko; cases hko; subst e1; exact ⟨b, d, e, c, hx, hb, hc⟩
    · rw [if_neg e1] at hko
      obtain ⟨b', d', e', c', h1, h2, h3⟩ := h.obj k o hko
      exact ⟨b', d', e', c', h1, (hk b' (h.apart r k o0 o _ _ hr hko (Ne.symm e1) hw0 hx h1).symm).trans h2, h3⟩
  · intro k k' o o' x x' hko hko' hne how hxk hxk'
    rw [Heap.get_put] at hko hko'
    by_cases e1 : k = r
    · by_cases e2 : k' = r
      · exact absurd (e1.trans e2.symm) hne
      · rw [if_neg e2] at hko'; subst e1
        exact h.apart k k' o0 o' x x' hr hko' hne hw0 hxk hxk'
    · rw [if_neg e1] at hko
      by_cases e2 : k' = r
      · subst e2; exact h.apart k k' o o0 x x' hko hr hne how hxk hxk'
      · rw [if_neg e2] at hko'; exact h.apart k k' o o' x x' hko hko' hne how hxk hxk'
  · exact h.fresh
  · intro b' hb' hf
    exact hk b' fun e1 => hf r o0 _ hr hw0 hx e1.symm
  · intro k o x hko hxk
    rw [Heap.get_put] at hko
    by_cases e1 : k = r
    · subst e1; exact .inr ⟨k, o0, x, hr, fun _ => hw0, hxk, rfl⟩
    · rw [if_neg e1] at hko; exact .inr ⟨k, o, x, hko, id, hxk, rfl⟩
  · intro k o hko hwo
    rw [Heap.get_put] at hko
    by_cases e1 : k = r
    · rw [if_pos e1] at hko; cases hko; rw [hw1] at hwo; cases hwo
    · rw [if_neg e1] at hko; exact hko
theorem Sat.sub {P : Program} {ι : Emb} {H V : Heap} {w : World} (h : Sat P ι H w) (hv : ∀ (r : Nat) (o : AObj), V.get r = some o → H.get r = some o) (hn : H.next ≤ V.next) : Sat P ι V w :=
  ⟨fun r o hr => h.obj r o (hv r o hr), fun r r' o o' x x' hr hr' => h.apart r r' o o' x x' (hv r o hr) (hv r' o' hr'), fun r x hx => Nat.lt_of_lt_of_le (h.fresh r x hx) hn⟩
theorem Step.less {P : Program} {ι : Emb} {H V : Heap} {w : World} (h : Sat P ι H w) (hv : ∀ (r : Nat) (o : AObj), V.get r = some o → H.get r = some o) (hn : V.next = H.next) :
    Step P ι H w ι V w :=
  ⟨Ext.refl _, h.sub hv (Nat.le_of_eq hn.symm), fun _ _ h => .inl h, Nat.le_of_eq hn.symm, fun _ _ _ => rfl, Nat.le_refl _, rfl, rfl, rfl,
    fun r o x hr hx => .inr ⟨r, o, x, hv r o hr, id, hx, rfl⟩, fun r o hr _ => hv r o hr⟩
theorem roOf_rw {o o1 : AObj} (h : o.roOf = some o1) : o1.rw = false := by
  cases o <;> cases h; rfl
theorem roOf_obj {P : Program} {ι : Emb} {o o1 : AObj} {c : Obj} {d e : Nat} (h : o.roOf = some o1) (hc : ObjR P ι o c d e) : ObjR P ι o1 c d e := by
  cases o with
  | cells cs ro es =>
    cases h
    cases c with
    | cells arr el fr => exact ⟨fun h => (by cases h), hc.2.1, hc.2.2⟩
    | _ => exact hc.elim
  | _ => cases h
def View (V H : Heap) : Prop := ∀ (r : Nat) (o : AObj), V.get r = some o → ∃ o0, H.get r = some o0 ∧ (o = o0 ∨ o0.roOf = some o)
theorem View.rw {V H : Heap} (hv : View V H) {r : Nat} {o : AObj} (h : V.get r = some o) (hw : o.rw = true) : H.get r = some o := by
  obtain ⟨o0, h1, h2 | h2⟩ := hv r o h
  · rw [h2]; exact h1
  · have := roOf_rw h2; rw [hw] at this; cases this
theorem Sat.view {P : Program} {ι : Emb} {H V : Heap} {w : World} (h : Sat P ι H w) (hv : View V H) (hn : H.next ≤ V.next) : Sat P ι V w := by
  refine ⟨fun r o hr => ?_, fun r r' o o' x x' hr hr' hne how hx hx' => ?_, fun r x hx => Nat.lt_of_lt_of_le (h.fresh r x hx) hn⟩
  · obtain ⟨o0, h1, h2⟩ := hv r o hr
    obtain ⟨b, d, e, c, a1, a2, a3⟩ := h.obj r o0 h1
    rcases h2 with h2 | h2
    · exact ⟨b, d, e, c, a1, a2, by rw [h2]; exact a3⟩
    · exact ⟨b, d, e, c, a1, a2, roOf_obj h2 a3⟩
  · obtain ⟨o0', h1', _⟩ := hv r' o' hr'
    exact h.apart r r' o o0' x x' (hv.rw hr how) h1' hne how hx hx'
theorem Step.beside {P : Program} {ι ι' : Emb} {H V V' H' : Heap} {w w' : World} (hs : Sat P ι H w) (hvn : V.next = H.next)
    (hv : View V H) (k : Step P ι V w ι' V' w')
    (hn : H'.next = V'.next) (hh : ∀ (r : Nat) (o : AObj), H'.get r = some o → (V'.get r = some o ∧ ∀ o0, V.get r = some o0 → H.get r = some o0) ∨ (H.get r = some o ∧ ∀ o1, V.get r = some o1 → o1.rw = false)) :
    Step P ι H w ι' H' w' := by
  have keep : ∀ (r : Nat) (o : AObj), H.get r = some o → (∀ o1, V.get r = some o1 → o1.rw = false) → ∀ x, ι r = some x → w'.heap[x.1]? = w.heap[x.1]? := by
    intro r o hr hnone x hx
    refine k.frame _ (hs.lt hr hx) ?_
    intro r0 o0 x0 h0 hw0 hx0
    refine hs.apart r0 r o0 o x0 x (hv.rw h0 hw0) hr ?_ hw0 hx0 hx
    rintro rfl; have := hnone _ h0; rw [hw0] at this; cases this
  refine ⟨k.ext, ⟨?_, ?_, ?_⟩, ?_, ?_, ?_, k.size, k.os, k.tape, k.output, ?_, ?_⟩
  · intro r o hr
    rcases hh r o hr with ⟨h1, _⟩ | ⟨h1, h2⟩
    · exact k.sat.obj r o h1
    · obtain ⟨b, d, e, c, a1, a2, a3⟩ := hs.obj r o h1
      exact ⟨b, d, e, c, k.ext _ _ a1, (keep r o h1 h2 _ a1).trans a2, a3.mono k.ext⟩
  · intro r r' o o' x x' hr hr' hne how hx hx'
    rcases hh r o hr with ⟨h1, _⟩ | ⟨h1, h2⟩
    · rcases hh r' o' hr' with ⟨h1', _⟩ | ⟨h1', h2'⟩
      · exact k.sat.apart r r' o o' x x' h1 h1' hne how hx hx'
      · obtain ⟨b, d, e, c, a1, _, _⟩ := hs.obj r' o' h1'
        have := k.ext _ _ a1; rw [this] at hx'; cases hx'
        have hlt := hs.lt h1' a1
        rcases k.old r o x h1 hx with h3 | ⟨r0, o0, x0, b1, b2, b3, b4⟩
        · simp at hlt ⊢; omega
        · rw [← b4]
          refine hs.apart r0 r' o0 o' x0 _ (hv.rw b1 (b2 how)) h1' ?_ (b2 how) b3 a1
          rintro rfl; have := h2' _ b1; rw [b2 how] at this; cases this
    · obtain ⟨b, d, e, c, a1, _, _⟩ := hs.obj r o h1
      have := k.ext _ _ a1; rw [this] at hx; cases hx
      have hlt := hs.lt h1 a1
      rcases hh r' o' hr' with ⟨h1', _⟩ | ⟨h1', h2'⟩
      · cases hw' : o'.rw with
        | true =>
          rcases k.old r' o' x' h1' hx' with h3 | ⟨r0, o0, x0, b1, b2, b3, b4⟩
          · simp at hlt ⊢; omega
          · rw [← b4]
            refine hs.apart r r0 o o0 _ x0 h1 (hv.rw b1 (b2 hw')) ?_ how a1 b3
            rintro rfl; have := h2 _ b1; rw [b2 hw'] at this; cases this
        | false =>
          have hV := k.ro r' o' h1' hw'
          obtain ⟨o0, g1, _⟩ := hv r' o' hV
          obtain ⟨b', d', e', c', a1', _, _⟩ := hs.obj r' o0 g1
          have := k.ext _ _ a1'; rw [this] at hx'; cases hx'
          exact hs.apart r r' o o0 _ _ h1 g1 hne how a1 a1'
      · obtain ⟨b', d', e', c', a1', _, _⟩ := hs.obj r' o' h1'
        have := k.ext _ _ a1'; rw [this] at hx'; cases hx'
        exact hs.apart r r' o o' _ _ h1 h1' hne how a1 a1'
  · intro r x hx
    rw [hn]; exact k.sat.fresh r x hx
  · intro r x hx
    rw [← hvn, hn]; exact k.dom r x hx
  · rw [hn, ← hvn]; exact k.next
  · intro b hb hf
    exact k.frame b hb fun r o x hr how hx => hf r o x (hv.rw hr how) how hx
  · intro r o x hr hx
    rcases hh r o hr with ⟨h1, _⟩ | ⟨h1, h2⟩
    · rcases k.old r o x h1 hx with h3 | ⟨r0, o0, x0, b1, b2, b3, b4⟩
      · exact .inl h3
      · obtain ⟨o0', g1, _⟩ := hv r0 o0 b1
        refine .inr ⟨r0, o0', x0, g1, fun hw => ?_, b3, b4⟩
        have := hv.rw b1 (b2 hw); rw [g1] at this; cases this; exact b2 hw
    · obtain ⟨b, d, e, c, a1, _, _⟩ := hs.obj r o h1
      have := k.ext _ _ a1; rw [this] at hx; cases hx
      exact .inr ⟨r, o, _, h1, id, a1, rfl⟩
  · intro r o hr hw
    rcases hh r o hr with ⟨h1, h2⟩ | ⟨h1, _⟩
    · exact h2 _ (k.ro r o h1 hw)
    · exact h1
end Go.Proofs.YtdlfdieehioolaaDoor
