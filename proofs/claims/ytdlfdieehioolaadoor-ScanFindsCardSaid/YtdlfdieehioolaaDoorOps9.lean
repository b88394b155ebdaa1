/- append, copy, clear. -/
import Derived.Test.YtdlfdieehioolaaDoorOps8
import Derived.Lib.ConvBytes
import Derived.IntWalk
namespace Go.Proofs.YtdlfdieehioolaaDoor
open Go
set_option linter.unusedVariables false
set_option linter.unusedSimpArgs false
section
variable {P : Program} {ι : Emb} {H H' : Heap} {w : World} {ev ρ : Operand → Value} {v : Value} {dst : Option Tmp} {ty : TypeId} {pos : String} {after : Array Edge} {guard : Option (Nat × Bool)}
theorem readCells_len {r off n : Nat} {cs : List Value} (h : readCells H r off n = some cs) : cs.length = n := by
  unfold readCells at h
  split at h
  · rename_i xs _ _ _
    cases hle : Nat.ble (off + n) xs.length with
    | false => rw [hle] at h; cases h
    | true =>
      rw [hle] at h; simp only [cond_true, Option.some.injEq] at h
      have := Nat.le_of_ble_eq_true hle
      rw [← h]; simp; omega
  · cases h
theorem run_loadCells_zero (a : Addr) : (loadCells a 0).run P w = .ok #[] w := rfl
theorem firstCells_ok {b : Option Addr} {m c k es : Nat} {v' : Value} {cs : List Value} (hs : Sat P ι H w) (hv : VR ι (.slice b m c) v') (hk : k ≤ m) (hes : 1 ≤ es)
    (h : srcCells H b (k * es) = some cs) :
    ∃ cs', (∀ W : World, W.heap = w.heap → (Builtin.firstCells es k v').run P W = .ok ⟨cs'⟩ W) ∧ All2 (CellR ι) cs cs' ∧ cs.length = k * es := by
  unfold srcCells at h
  cases b with
  | none =>
    simp only [Option.some.injEq] at h; subst h
    obtain ⟨rfl, rfl, rfl⟩ := nils_inv hv
    have : k = 0 := by omega
    subst this
    exact ⟨[], fun W _ => by simp [Builtin.firstCells], .nil, by simp⟩
  | some q =>
    simp only at h
    have hlen := readCells_len h
    obtain ⟨bb, d, e, o', c', h1, rfl, h3, h4⟩ := slice_inv hv
    obtain ⟨b2, d2, e2, g1, g2, cs', g3, g4⟩ := readCells_ok h (hs.obj q.block)
    rw [h1] at g1; cases g1
    by_cases h0 : k * es = 0
    · have hk0 : k = 0 := by
        rcases Nat.mul_eq_zero.1 h0 with h | h
        · exact h
        · omega
      subst hk0
      have : cs = [] := List.length_eq_zero_iff.1 (by omega)
      subst this
      refine ⟨[], fun W _ => ?_, .nil, hlen⟩
      simp [Builtin.firstCells, run_loadCells_zero]
    · have ho : o' = ⟨bb, d + q.off, none⟩ := h4.resolve_right (fun hh => by
        have : k = 0 := by omega
        subst this; simp at h0)
      subst ho
      refine ⟨cs', fun W hW => ?_, g3, hlen⟩
      have hl : k * es = cs'.length := by rw [← g3.length]; exact hlen.symm
      simp only [Builtin.firstCells, hl]
      exact run_loadCells_list W _ cs' (fun j u hj => by rw [addr_add]; have := g4 j u hj; unfold World.cell? at *; rw [hW]; exact this)
theorem b_copy {t u e : TypeId} {ds sr : Operand} {es : Nat} {e2 : TypeId} (hu : P.underlying t = some (.slice e)) (hz : szOf P e = some es) (hes : 1 ≤ es) (hs : Sat P ι H w)
    (he : aop ev H (.copy es ds sr) = some (v, H')) (hd : VR ι (ev ds) (ρ ds)) (hsr : VR ι (ev sr) (ρ sr)) :
    Big P ι H w (execOp ρ ⟨dst, .call ⟨.builtin .copy, #[ds, sr], #[t, u]⟩, ty, pos, after, guard⟩) v H' := by
  simp only [aop] at he
  cases hvd : ev ds with
  | slice a n c =>
    cases hvs : ev sr with
    | slice b m c2 =>
      simp only [hvd, hvs] at he hd hsr
      have e1 : ∃ a' c', ρ ds = .slice a' n c' := by
        cases a with
        | none => obtain ⟨rfl, rfl, ex⟩ := nils_inv hd; exact ⟨_, _, ex⟩
        | some p => obtain ⟨_, _, _, _, _, _, ex, _⟩ := slice_inv hd; exact ⟨_, _, ex⟩
      have e2 : ∃ a' c', ρ sr = .slice a' m c' := by
        cases b with
        | none => obtain ⟨rfl, rfl, ex⟩ := nils_inv hsr; exact ⟨_, _, ex⟩
        | some p => obtain ⟨_, _, _, _, _, _, ex, _⟩ := slice_inv hsr; exact ⟨_, _, ex⟩
      obtain ⟨b', cb', e2⟩ := e2
      obtain ⟨new, h1, h2⟩ := bind_some he
      obtain ⟨new', g1, g2, g3⟩ := firstCells_ok hs hsr (Nat.min_le_left m n) hes h1
      replace g1 := g1 w rfl
      rw [e2] at g1
      cases a with
      | none =>
        simp only [putCells, Option.map_some, Option.some.injEq, Prod.mk.injEq] at h2
        obtain ⟨rfl, rfl⟩ := h2
        obtain ⟨rfl, rfl, ed⟩ := nils_inv hd
        refine ⟨ι, goInt (Nat.min m 0), w, .inl ?_, .atom (.int _ _), Step.refl hs⟩
        rw [Nat.min_zero] at g1
        simp [execOp, resolve, invoke, builtin, Builtin.copy_, r_und hu, ed, e2, Builtin.lenOf, r_size hz, g1]
      | some p =>
        simp only [putCells, Nat.add_zero] at h2
        cases h3 : writeCells H p.block p.off new with
        | none => simp [h3] at h2
        | some H2 =>
        simp only [h3, Option.map_some, Option.some.injEq, Prod.mk.injEq] at h2
        obtain ⟨rfl, rfl⟩ := h2
        obtain ⟨bb, d, e', o', c', i1, ed, i3, i4⟩ := slice_inv hd
        obtain ⟨w', j1, j2⟩ := writeCells_ok hs h3 g2 i1
        refine ⟨ι, goInt (Nat.min m n), w', .inl ?_, .atom (.int _ _), j2⟩
        have hst : (storeCells o' new').run P w = .ok () w' := by
          rcases i4 with i4 | ⟨i4, _⟩
          · rw [i4]; exact j1
          · have : new' = [] := List.length_eq_zero_iff.1 (by rw [← g2.length, g3, i4]; simp)
            subst this
            exact j1
        simp only [execOp, resolve, invoke, builtin, Builtin.copy_, ed, e2, Sem.run_bind, Sem.run_pure, Result.andThen_ok, List.map_toArray, List.map_cons, List.map_nil, Builtin.lenOf]
        simp [r_und hu, r_size hz, g1, hst]
    | _ => simp [hvd, hvs] at he
  | _ => simp [hvd] at he
theorem b_clear {t e : TypeId} {x : Operand} {z : Value} {es : Nat} (hu : P.underlying t = some (.slice e)) (hz : zeroOf P e = some z) (hsz : szOf P e = some es) (hl : z.cells.toList.length = es) (hes : 1 ≤ es) (hs : Sat P ι H w)
    (he : aop ev H (.clear z.cells.toList x) = some (v, H')) (hx : VR ι (ev x) (ρ x)) :
    Big P ι H w (execOp ρ ⟨dst, .call ⟨.builtin .clear, #[x], #[t]⟩, ty, pos, after, guard⟩) v H' := by
  simp only [aop] at he
  cases hv : ev x with
  | slice a n c =>
    simp only [hv] at he hx
    cases a with
    | none =>
      simp only [Option.some.injEq, Prod.mk.injEq] at he
      obtain ⟨rfl, rfl⟩ := he
      obtain ⟨rfl, rfl, ex⟩ := nils_inv hx
      refine ⟨ι, .tuple #[], w, .inl ?_, .tuple .nil, Step.refl hs⟩
      simp [execOp, resolve, invoke, builtin, Builtin.clear_, r_und hu, ex]
    | some p =>
      simp only at he
      obtain ⟨H2, h3, h4⟩ := bind_some he
      cases h4
      obtain ⟨bb, d, e', o', c', i1, ex, i3, i4⟩ := slice_inv hx
      obtain ⟨w', j1, j2⟩ := writeCells_ok (P := P) hs h3 (flatten_self (ι := ι) (valOk_cells (zeroOf_ok hz)) n) i1
      refine ⟨ι, .tuple #[], w', .inl ?_, .tuple .nil, j2⟩
      by_cases hn : n = 0
      · subst hn
        have hw : w' = w := by
          simp only [List.replicate_zero, List.flatten_nil, storeCells] at j1
          cases j1; rfl
        subst hw
        simp [execOp, resolve, invoke, builtin, Builtin.clear_, r_und hu, ex]
      · have ho : o' = ⟨bb, d + p.off, none⟩ := i4.resolve_right (fun hh => hn hh.1)
        subst ho
        have e3 : (Builtin.zeroCells z.cells n).toList = (List.replicate n (cellsOf z)).flatten := by
          have e2 : z.cells = ⟨cellsOf z⟩ := rfl
          unfold Builtin.zeroCells
          have hsz2 : z.cells.size = es := by rw [← Array.length_toList]; exact hl
          have h := zeros_eq (cellsOf z) n es hl hes
          rw [show n * es = n * z.cells.size by rw [hsz2]] at h
          exact h
        cases n with
        | zero => exact absurd rfl hn
        | succ n =>
          simp only [execOp, resolve, invoke, builtin, Builtin.clear_, ex, Sem.run_bind, Sem.run_pure, Result.andThen_ok, List.map_toArray, List.map_cons, List.map_nil]
          simp [r_und hu, r_zero hz, e3]
          rw [j1]
          rfl
  | _ => simp [hv] at he
theorem Step.move {r : Nat} {cs cs2 : List Value} {es e e2 b d off : Nat} {c : Obj} {w' : World} (hs : Sat P ι H w) (hg : H.get r = some (.cells cs false es)) (hb : ι r = some (b, d, e))
    (hw : w'.heap[b]? = some c) (hc : ObjR P (ι.set H.next (b, d + off, e2)) (.cells cs2 false es) c (d + off) e2)
    (hk : ∀ k, k ≠ b → w'.heap[k]? = w.heap[k]?) (hz : w'.heap.size = w.heap.size) (ho : w'.os = w.os) (ht : w'.tape = w.tape) (hp : w'.output = w.output) :
    Step P ι H w (ι.set H.next (b, d + off, e2)) ((H.drop r).new (.cells cs2 false es)) w' := by
  have hx : Ext ι (ι.set H.next (b, d + off, e2)) := Ext.set (hs.none (Nat.le_refl _))
  have hrn : r ≠ H.next := by
    have := hs.fresh r _ hb; omega
  refine ⟨hx, ⟨?_, ?_, ?_⟩, ?_, by simp, ?_, Nat.le_of_eq hz.symm, ho, ht, hp, ?_, ?_⟩
  · intro k o hko
    rw [Heap.get_new, Heap.next_drop, Heap.get_drop] at hko
    by_cases h1 : k = H.next
    · rw [if_pos h1] at hko; cases hko; subst h1
      exact ⟨b, d + off, e2, c, by simp [Emb.set], hw, hc⟩
    · rw [if_neg h1] at hko
      by_cases h2 : k = r
      · rw [if_pos h2] at hko; cases hko
      · rw [if_neg h2] at hko
        obtain ⟨b', d', e', c', g1, g2, g3⟩ := hs.obj k o hko
        exact ⟨b', d', e', c', hx _ _ g1, (hk b' (hs.apart r k _ o _ _ hg hko (Ne.symm h2) rfl hb g1).symm).trans g2, g3.mono hx⟩
  · intro k k' o o' x x' hko hko' hne how hxk hxk'
    rw [Heap.get_new, Heap.next_drop, Heap.get_drop] at hko hko'
    unfold Emb.set at hxk hxk'
    by_cases h1 : k = H.next
    · have h1' : ¬ k' = H.next := fun h => hne (h1.trans h.symm)
      rw [if_neg h1'] at hko' hxk'
      rw [if_pos h1] at hxk; cases hxk
      by_cases h2 : k' = r
      · rw [if_pos h2] at hko'; cases hko'
      · rw [if_neg h2] at hko'
        have := hs.apart r k' _ o' (b, d, e) x' hg hko' (Ne.symm h2) rfl hb hxk'
        exact this
    · rw [if_neg h1] at hko hxk
      by_cases h2 : k = r
      · rw [if_pos h2] at hko; cases hko
      · rw [if_neg h2] at hko
        by_cases h3 : k' = H.next
        · rw [if_pos h3] at hxk'; cases hxk'
          exact fun hh => hs.apart r k _ o _ _ hg hko (Ne.symm h2) rfl hb hxk hh.symm
        · rw [if_neg h3] at hko' hxk'
          by_cases h4 : k' = r
          · rw [if_pos h4] at hko'; cases hko'
          · rw [if_neg h4] at hko'
            exact hs.apart k k' o o' x x' hko hko' hne how hxk hxk'
  · intro k x hk'
    unfold Emb.set at hk'
    by_cases h1 : k = H.next
    · subst h1; simp
    · rw [if_neg h1] at hk'; have := hs.fresh k x hk'; simp; omega
  · intro k x hk'
    unfold Emb.set at hk'
    by_cases h1 : k = H.next
    · subst h1; exact .inr ⟨Nat.le_refl _, by simp⟩
    · rw [if_neg h1] at hk'; exact .inl hk'
  · intro b' hb' hf
    exact hk b' fun h => hf r _ _ hg rfl hb h.symm
  · intro k o x hko hxk
    rw [Heap.get_new, Heap.next_drop, Heap.get_drop] at hko
    unfold Emb.set at hxk
    by_cases h1 : k = H.next
    · rw [if_pos h1] at hxk; cases hxk
      exact .inr ⟨r, _, _, hg, fun _ => rfl, hb, rfl⟩
    · rw [if_neg h1] at hko hxk
      by_cases h2 : k = r
      · rw [if_pos h2] at hko; cases hko
      · rw [if_neg h2] at hko
        exact .inr ⟨k, o, x, hko, id, hxk, rfl⟩
  · intro k o hko hw
    rw [Heap.get_new, Heap.next_drop, Heap.get_drop] at hko
    by_cases h1 : k = H.next
    · rw [if_pos h1] at hko; cases hko; cases hw
    · rw [if_neg h1] at hko
      by_cases h2 : k = r
      · rw [if_pos h2] at hko; cases hko
      · rw [if_neg h2] at hko; exact hko
theorem growBy_le (n : Nat) : ∀ (r c : Nat), c ≤ n + n / 4 + 512 → Builtin.growBy n r c ≤ n + n / 4 + 512 := by
  intro r
  induction r with
  | zero => intro c h; simpa [Builtin.growBy] using h
  | succ r ih =>
    intro c h
    simp only [Builtin.growBy]
    split
    · exact h
    · exact ih _ (by omega)
theorem grown_le {k b : Nat} (h : k * b ≤ 140737488355328) (hb : b ≤ 4294967296) : (k + k / 4 + 512) * b ≤ 2 ^ 48 := by
  have h1 : k / 4 * b * 4 ≤ k * b := by
    rw [Nat.mul_right_comm]
    exact Nat.mul_le_mul_right _ (by omega)
  rw [Nat.add_mul, Nat.add_mul]
  omega
theorem nextslicecap_le {n c : Nat} (h : c < n) : Builtin.nextslicecap n c ≤ n + n / 4 + 512 := by
  unfold Builtin.nextslicecap
  split
  · omega
  · split
    · omega
    · exact growBy_le _ _ _ (by omega)
theorem run_grow {t u e e2 : TypeId} {i : TypeInfo} {z : Value} {es by_ n m c : Nat} {a : Option Addr} {x' : Value} {old new : List Value} (hu : P.underlying t = some (.slice e)) (hu2 : P.underlying u = some (.slice e2))
    (hz : szOf P e = some es) (hi : P.info? e = some i) (hib : i.bytes = by_) (hzero : zeroOf P e = some z) (hzl : z.cells.toList.length = es) (hby : 1 ≤ by_) (hby2 : by_ ≤ 4294967296)
    (hx : ∃ bb c2, x' = .slice bb m c2) (hfit : (n + m) * by_ ≤ 140737488355328) (hgrow : c < n + m)
    (hold : ∀ W : World, W.heap = w.heap → (Builtin.firstCells es n (.slice a n c)).run P W = .ok ⟨old⟩ W) (hnew : ∀ W : World, W.heap = w.heap → (Builtin.firstCells es m x').run P W = .ok ⟨new⟩ W) :
    ∃ (cap : Nat) (rest : Array Value), n + m ≤ cap ∧ rest.size = (cap - (n + m)) * es ∧
      (Builtin.append_ #[t, u] ty #[.slice a n c, x']).run P w =
        .ok (.slice (some ⟨w.heap.size, 0, none⟩) (n + m) cap) (({ w with drawn := w.drawn + 1 } : World).alloc (.cells (⟨old⟩ ++ (⟨new⟩ ++ rest)) e (0, 0))) := by
  obtain ⟨bb, c2, rfl⟩ := hx
  refine ⟨(Question.appendCap (n + m) c e).cut (w.tape w.drawn (.appendCap (n + m) c e)), Builtin.zeroCells z.cells ((Question.appendCap (n + m) c e).cut (w.tape w.drawn (.appendCap (n + m) c e)) - (n + m)), ?_, ?_, ?_⟩
  · simp only [Question.cut]; omega
  · unfold Builtin.zeroCells
    have : z.cells.size = es := by rw [← Array.length_toList]; exact hzl
    simp [this]
  · have h1 := nextslicecap_le hgrow
    have h2 : Builtin.nextslicecap (n + m) c * by_ ≤ ((n + m) + (n + m) / 4 + 512) * by_ := Nat.mul_le_mul_right _ h1
    have h3 : ((n + m) + (n + m) / 4 + 512) * by_ ≤ 2 ^ 48 := grown_le hfit hby2
    have hcap : ¬ Builtin.nextslicecap (n + m) c * i.bytes > 2 ^ 48 := by rw [hib]; omega
    have hb0 : ¬ i.bytes = 0 := by omega
    have f0 : Question.forced (.appendCap (n + m) c e) = false := rfl
    unfold Builtin.append_
    simp [r_und hu, r_und hu2, r_size hz, r_info hi, Builtin.lenOf, Nat.not_le.2 hgrow, hb0, hcap, f0, r_zero hzero]
    rw [hold w.drew rfl]
    simp
    rw [hnew w.drew rfl]
    simp [newRow]
theorem Sat.heap {w' : World} (h : Sat P ι H w) (hh : w'.heap = w.heap) : Sat P ι H w' := ⟨fun r o hr => by rw [hh]; exact h.obj r o hr, h.apart, h.fresh⟩
def ShE (ι : Emb) (H : Heap) (w : World) (r base : Nat) (cs : List Value) (r' : Nat) : Prop :=
  ∃ b d e, ι r = some (b, d, e) ∧ ((∃ arr el fr, w.heap[b]? = some (.cells arr el fr) ∧ (∀ (i : Nat) v, cs[i]? = some v → ∃ v', arr[d + base + i]? = some v' ∧ CellR ι v v') ∧
    ∀ (r0 : Nat) (o0 : AObj) (x0 : Nat × Nat × Nat), H.get r0 = some o0 → o0.rw = true → ι r0 = some x0 → x0.1 ≠ b) ∨ ∃ e', ι r' = some (b, d + base, e'))
def BigA (P : Program) (ι : Emb) (H : Heap) (w : World) (s : Sem Next) (v : Value) (H' : Heap) (sl : Value) (m es : Nat) : Prop :=
  ∃ ι' v' w', Runs P s w v' w' ∧ VR ι' v v' ∧ Step P ι H w ι' H' w' ∧ ∀ (r off n c : Nat) (old : List Value), sl = .slice (some ⟨r, off, none⟩) n c → c < n + m → readCells H r off (n * es) = some old → ShE ι' H' w' r off old H.next
theorem BigA.big {P : Program} {ι : Emb} {H H' : Heap} {w : World} {s : Sem Next} {v sl : Value} {m es : Nat} (h : BigA P ι H w s v H' sl m es) : Big P ι H w s v H' := by
  obtain ⟨ι', v', w', h1, h2, h3, _⟩ := h
  exact ⟨ι', v', w', h1, h2, h3⟩
theorem shE_copy {P : Program} {ι ι' : Emb} {H H' : Heap} {w w' : World} {r off k r' es' : Nat} {cs old : List Value} (hs : Sat P ι H w) (hg : H.get r = some (.cells cs false es')) (hr : readCells H r off k = some old) (hx : Ext ι ι')
    (hw : ∀ b, b < w.heap.size → w'.heap[b]? = w.heap[b]?) (hsub : ∀ r0 o0, H'.get r0 = some o0 → (r0 ≠ r ∧ H.get r0 = some o0) ∨ ∀ x0, ι' r0 = some x0 → w.heap.size ≤ x0.1) : ShE ι' H' w' r off old r' := by
  obtain ⟨b, d, e, c, h1, h2, h3⟩ := hs.obj _ _ hg
  have hlt := (Array.getElem?_eq_some_iff.1 h2).1
  refine ⟨b, d, e, hx _ _ h1, .inl ?_⟩
  cases c with
  | cells arr el fr =>
    refine ⟨arr, el, fr, (hw b hlt).trans h2, fun i v hi => ?_, fun r0 o0 x0 k1 k2 k3 => ?_⟩
    · unfold readCells at hr
      rw [hg] at hr
      simp only at hr
      cases hle : Nat.ble (off + k) cs.length with
      | false => rw [hle] at hr; cases hr
      | true =>
        rw [hle] at hr; simp only [cond_true, Option.some.injEq] at hr
        rw [← hr, List.getElem?_take] at hi
        split at hi
        · rw [List.getElem?_drop] at hi
          obtain ⟨v', q1, q2⟩ := h3.2.2 _ _ hi
          exact ⟨v', by rw [← q1]; congr 1; omega, q2.mono hx⟩
        · cases hi
    · rcases hsub r0 o0 k1 with ⟨k4, k5⟩ | k4
      · obtain ⟨b', d', e', c', j1, _⟩ := hs.obj _ _ k5
        have := hx _ _ j1
        rw [k3] at this; cases this
        exact fun he => hs.apart r r0 _ o0 _ _ hg k5 (Ne.symm k4) rfl h1 j1 he.symm
      · have := k4 x0 k3
        omega
  | _ => exact h3.elim
theorem append_core {t u1 e : TypeId} {so xo : Operand} {es by_ n m c : Nat} {a : Option Addr} {new new' : List Value} (hes : 1 ≤ es) (hs : Sat P ι H w)
    (he : appendL H by_ es a n c m new = some (v, H')) (hso : VR ι (.slice a n c) (ρ so)) (g2 : All2 (CellR ι) new new') (g3 : new.length = m * es)
    (room : (n + m) * by_ ≤ 140737488355328 → ∀ (a' : Option Addr) (c' : Nat), ρ so = .slice a' n c' → n + m ≤ c' → ∀ w', (match a' with | some p => (storeCells (p.add (n * es)) new').run P w | none => .ok () w) = .ok () w' →
      (Builtin.append_ #[t, u1] ty #[ρ so, ρ xo]).run P w = .ok (.slice a' (n + m) c') w')
    (rgrow : (n + m) * by_ ≤ 140737488355328 → ∀ (a' : Option Addr) (c' : Nat) (old : List Value), ρ so = .slice a' n c' → c' < n + m → (∀ W : World, W.heap = w.heap → (Builtin.firstCells es n (.slice a' n c')).run P W = .ok ⟨old⟩ W) →
      ∃ (cap : Nat) (rest : Array Value), n + m ≤ cap ∧ rest.size = (cap - (n + m)) * es ∧
        (Builtin.append_ #[t, u1] ty #[.slice a' n c', ρ xo]).run P w = .ok (.slice (some ⟨w.heap.size, 0, none⟩) (n + m) cap) (({ w with drawn := w.drawn + 1 } : World).alloc (.cells (⟨old⟩ ++ (⟨new'⟩ ++ rest)) e (0, 0)))) :
    BigA P ι H w (execOp ρ ⟨dst, .call ⟨.builtin .append, #[so, xo], #[t, u1]⟩, ty, pos, after, guard⟩) v H' (.slice a n c) m es := by
  have toBig : ∀ (u : Value) (K : Heap) (v' : Value) (w' : World) (ι' : Emb), (Builtin.append_ #[t, u1] ty #[ρ so, ρ xo]).run P w = .ok v' w' → VR ι' u v' → Step P ι H w ι' K w' →
      (∀ (r off n2 c2 : Nat) (old : List Value), (Value.slice a n c) = .slice (some ⟨r, off, none⟩) n2 c2 → c2 < n2 + m → readCells H r off (n2 * es) = some old → ShE ι' K w' r off old H.next) →
      BigA P ι H w (execOp ρ ⟨dst, .call ⟨.builtin .append, #[so, xo], #[t, u1]⟩, ty, pos, after, guard⟩) u K (.slice a n c) m es := by
    intro u K v' w' ι' h1 h2 h3 h4
    exact ⟨ι', v', w', .inl (by simp [execOp, resolve, invoke, builtin, h1]), h2, h3, h4⟩
  unfold appendL at he
  cases hfit : Nat.ble ((n + m) * by_) 140737488355328 with
  | false => rw [hfit] at he; cases he
  | true =>
    rw [hfit] at he
    simp only [cond_true] at he
    have hfit := Nat.le_of_ble_eq_true hfit
    cases hin : Nat.ble (n + m) c with
    | true =>
      rw [hin] at he
      simp only [cond_true] at he
      have hin := Nat.le_of_ble_eq_true hin
      cases h3 : putCells H a (n * es) new with
      | none => simp [h3] at he
      | some H2 =>
      simp only [h3, Option.map_some, Option.some.injEq, Prod.mk.injEq] at he
      obtain ⟨rfl, rfl⟩ := he
      cases a with
      | none =>
        simp only [putCells, Option.some.injEq] at h3; subst h3
        obtain ⟨rfl, rfl, es'⟩ := nils_inv hso
        have hm : m = 0 := by omega
        subst hm
        exact toBig _ _ _ w ι (room hfit none 0 es' (by omega) w rfl) (.atom .nils) (Step.refl hs) (fun r off n2 c2 old h => by cases h)
      | some p =>
        simp only [putCells] at h3
        obtain ⟨bb, d, e', o', c', i1, es', i3, i4⟩ := slice_inv hso
        have hcc : c ≤ c' := by rw [i3]; split <;> omega
        obtain ⟨w', j1, j2⟩ := writeCells_ok (P := P) hs h3 g2 i1
        have hst : (storeCells (o'.add (n * es)) new').run P w = .ok () w' := by
          rcases i4 with i4 | ⟨i4, i5⟩
          · rw [i4, addr_add, Nat.add_assoc]; exact j1
          · have hm : m = 0 := by omega
            have : new' = [] := List.length_eq_zero_iff.1 (by rw [← g2.length, g3, hm]; simp)
            subst this
            exact j1
        refine toBig _ _ _ w' ι (room hfit _ c' es' (by omega) w' hst) ?_ j2 (fun r off n2 c2 old h h2 _ => by cases h; omega)
        refine .atom ?_
        have hp : p = ⟨p.block, p.off, p.spot⟩ := rfl
        rw [hp]
        exact .slice _ _ _ _ _ _ i1 i3 (by rcases i4 with i4 | ⟨i4, i5⟩; exact .inl i4; exact .inr ⟨by omega, i5⟩)
    | false =>
      rw [hin] at he
      simp only [cond_false] at he
      have hin' : c < n + m := by
        rcases Nat.lt_or_ge c (n + m) with h | h
        · exact h
        · have := Nat.ble_eq_true_of_le h; rw [this] at hin; cases hin
      -- a new block
      have grow : ∀ (H1 : Heap) (old old' : List Value) (a' : Option Addr) (c' : Nat), (∀ (r : Nat) (o : AObj), H1.get r = some o → H.get r = some o) → H1.next = H.next →
          ρ so = .slice a' n c' → c' < n + m → (∀ W : World, W.heap = w.heap → (Builtin.firstCells es n (ρ so)).run P W = .ok ⟨old'⟩ W) → All2 (CellR ι) old old' → old.length = n * es →
          (∀ (r off n2 c2 : Nat), (Value.slice a n c) = .slice (some ⟨r, off, none⟩) n2 c2 → (∃ cs es', H.get r = some (.cells cs false es')) ∧ H1 = H.drop r) →
          BigA P ι H w (execOp ρ ⟨dst, .call ⟨.builtin .append, #[so, xo], #[t, u1]⟩, ty, pos, after, guard⟩) (.slice (some ⟨H.next, 0, none⟩) (n + m) (n + m)) (H1.new (.cells (old ++ new) false es)) (.slice a n c) m es := by
        intro H1 old old' a' c' hsub hn1 es' hlt hold hA hol hsh
        rw [es'] at hold
        obtain ⟨cap, rest, k1, k2, k3⟩ := rgrow hfit a' c' old' es' hlt hold
        have st1 := Step.drawn (w' := { w with drawn := w.drawn + 1 }) hs rfl rfl rfl rfl
        have st2 := Step.less st1.sat hsub hn1
        have hnone : ι H1.next = none := by rw [hn1]; exact hs.none (Nat.le_refl _)
        have hobj : ObjR P (ι.set H1.next (w.heap.size, 0, cap - (n + m))) (.cells (old ++ new) false es) (.cells (⟨old'⟩ ++ (⟨new'⟩ ++ rest)) e (0, 0)) 0 (cap - (n + m)) := by
          have hl1 := hA.length
          have hl2 := g2.length
          refine ⟨fun _ => .inl rfl, ?_, ?_⟩
          · simp only [List.length_append, Array.size_append, List.size_toArray, k2]; omega
          · intro j y hj
            obtain ⟨y', q1, q2⟩ := (hA.append g2).get hj
            refine ⟨y', ?_, q2.mono (Ext.set hnone)⟩
            have hj2 : j < (old' ++ new').length := (List.getElem?_eq_some_iff.1 q1).1
            rw [Nat.zero_add, ← Array.getElem?_toList, ← q1]
            simp only [Array.toList_append]
            rw [← List.append_assoc, List.getElem?_append_left hj2]
        have st3 := Step.new st2.sat (.cells (old ++ new) false es) (.cells (⟨old'⟩ ++ (⟨new'⟩ ++ rest)) e (0, 0)) (cap - (n + m)) hnone hobj
        have hstT := st1.trans (st2.trans st3)
        refine toBig _ _ _ _ _ (by rw [es']; exact k3) ?_ hstT ?_
        rotate_left
        · intro r off n2 c2 old2 hsl _ hrd
          obtain ⟨⟨cs2, es2, hg2⟩, rfl⟩ := hsh r off n2 c2 hsl
          refine shE_copy hs hg2 hrd hstT.ext (fun b hb => ?_) (fun r0 o0 hr0 => ?_)
          · simp only [World.alloc]
            rw [Array.getElem?_push_lt hb, Array.getElem?_eq_getElem hb]
          · rw [Heap.get_new] at hr0
            split at hr0
            · rename_i hr0e
              right
              intro x0 hx0
              subst hr0e
              simp [Emb.set] at hx0
              rw [← hx0]; exact Nat.le_refl _
            · rw [Heap.get_drop] at hr0
              split at hr0
              · cases hr0
              · rename_i hne; exact .inl ⟨hne, hr0⟩
        refine .atom (.slice 0 none (n + m) (n + m) ⟨_, 0, none⟩ cap (e := cap - (n + m)) (d := 0) ?_ (by simp only; omega) (.inl rfl))
        simp [Emb.set, hn1]
      cases a with
      | none =>
        simp only [growCells, Option.some.injEq, Prod.mk.injEq] at he
        obtain ⟨rfl, rfl⟩ := he
        obtain ⟨rfl, rfl, es'⟩ := nils_inv hso
        have := grow H [] [] none 0 (fun _ _ h => h) rfl es' hin' (fun W _ => by rw [es']; simp [Builtin.firstCells]) .nil (by simp) (fun r off n2 c2 h => by cases h)
        simpa using this
      | some p =>
        simp only [growCells] at he
        obtain ⟨old, h5, he⟩ := bind_some he
        obtain ⟨old', q1, q2, q3⟩ := firstCells_ok hs hso (Nat.le_refl n) hes (b := some p) (by simpa [srcCells] using h5)
        obtain ⟨bb, d, e', o', c', i1, es', i3, i4⟩ := slice_inv hso
        cases hgo : letGo H p c es with
        | none => simp [hgo] at he
        | some H1 =>
        simp only [hgo, Option.map_some, Option.some.injEq, Prod.mk.injEq] at he
        obtain ⟨rfl, rfl⟩ := he
        unfold letGo at hgo
        cases hsp : p.spot with
        | some q =>
          simp only [hsp, Option.some.injEq] at hgo i3; subst hgo
          have hH1 : ∀ (r : Nat) (o : AObj), H.get r = some o → H.get r = some o := fun _ _ h => h
          exact grow H old old' _ c' hH1 rfl es' (by omega) q1 q2 q3 (fun r off n2 c2 h => by cases h; cases hsp)
        | none =>
          simp only [hsp] at hgo i3
          split at hgo
          · rename_i cs es2 hg
            cases hc : (Nat.beq es2 es && Nat.ble (p.off + c * es) cs.length) with
            | false => rw [hc] at hgo; cases hgo
            | true =>
              rw [hc] at hgo
              simp only [cond_true, Option.some.injEq] at hgo; subst hgo
              simp only [Bool.and_eq_true] at hc
              have he2 := Nat.eq_of_beq_eq_true hc.1
              subst he2
              have hroom := Nat.le_of_ble_eq_true hc.2
              have hsub : ∀ (r : Nat) (o : AObj), (H.drop p.block).get r = some o → H.get r = some o := by
                intro r o hr
                rw [Heap.get_drop] at hr
                split at hr
                · cases hr
                · exact hr
              rcases Nat.lt_or_ge c' (n + m) with hlt | hge
              · exact grow _ old old' _ c' hsub rfl es' hlt q1 q2 q3 (fun r off n2 c2 h => by cases h; exact ⟨⟨_, _, hg⟩, rfl⟩)
              · -- in its own block
                have ho : o' = ⟨bb, d + p.off, none⟩ := i4.resolve_right (by omega)
                subst ho
                obtain ⟨b2, d2, e3, cc, j1, j2, j3⟩ := hs.obj _ _ hg
                rw [i1] at j1; cases j1
                obtain ⟨arr, el, fr, rfl, hfr, j5, j6⟩ := rw_cells j3
                have hl2 := g2.length
                have hmul : (n + m) * es2 ≤ c' * es2 := Nat.mul_le_mul_right _ hge
                have hmul2 : c' * es2 = c * es2 + e' * es2 := by rw [i3, Nat.add_mul]
                have hmul3 : (n + m) * es2 = n * es2 + m * es2 := Nat.add_mul _ _ _
                have hmul4 : (c' - (n + m)) * es2 = c' * es2 - (n + m) * es2 := Nat.sub_mul _ _ _
                have hfitr : d + p.off + n * es2 + new'.length ≤ arr.size := by omega
                have hrun := run_stores (P := P) bb (d + p.off + n * es2) el fr new' arr w j2 hfr (by omega) (fun x hx => by
                  obtain ⟨i, hi⟩ := List.mem_iff_getElem?.1 hx
                  have hi2 : i < new'.length := (List.getElem?_eq_some_iff.1 hi).1
                  obtain ⟨y, hy⟩ : ∃ y, new[i]? = some y := ⟨new[i], List.getElem?_eq_getElem (by omega)⟩
                  obtain ⟨x', r1, r2⟩ := g2.get hy
                  rw [hi] at r1; cases r1; exact r2.isCell.2.1)
                have hnone := hs.none (Nat.le_refl H.next)
                have hobj2 : ObjR P (ι.set H.next (bb, d + p.off, c' - (n + m))) (.cells (old ++ new) false es2) (.cells (arr.toList.take (d + p.off + n * es2) ++ new' ++ arr.toList.drop (d + p.off + n * es2 + new'.length)).toArray el fr) (d + p.off) (c' - (n + m)) := by
                  refine ⟨fun _ => ?_, ?_, ?_⟩
                  · rcases hfr with h | ⟨h, h'⟩
                    · exact .inl h
                    · exact .inr ⟨h, by simp only [List.size_toArray, List.length_append, List.length_take, List.length_drop, Array.length_toList]; omega⟩
                  · simp only [List.size_toArray, List.length_append, List.length_take, List.length_drop, Array.length_toList]
                    omega
                  · intro j y hj
                    have hget := splice_get arr.toList new' (d + p.off + n * es2) (d + p.off + j) (by simp; omega)
                    simp only [List.getElem?_toArray]
                    rw [hget]
                    by_cases hjn : j < n * es2
                    · rw [if_neg (by omega)]
                      rw [List.getElem?_append_left (by omega)] at hj
                      -- an old cell
                      have hold2 : cs[p.off + j]? = some y := by
                        unfold readCells at h5
                        rw [hg] at h5
                        simp only at h5
                        cases hle : Nat.ble (p.off + n * es2) cs.length with
                        | false => rw [hle] at h5; cases h5
                        | true =>
                          rw [hle] at h5; simp only [cond_true, Option.some.injEq] at h5
                          rw [← h5, List.getElem?_take, if_pos hjn, List.getElem?_drop] at hj
                          exact hj
                      obtain ⟨y', r1, r2⟩ := j6 _ _ hold2
                      exact ⟨y', by rw [Array.getElem?_toList, ← r1]; congr 1; omega, r2.mono (Ext.set hnone)⟩
                    · rw [List.getElem?_append_right (by omega)] at hj
                      obtain ⟨y', r1, r2⟩ := g2.get hj
                      have hj3 : j - old.length < new'.length := (List.getElem?_eq_some_iff.1 r1).1
                      rw [if_pos (by omega)]
                      exact ⟨y', by rw [← r1]; congr 1; omega, r2.mono (Ext.set hnone)⟩
                have hst := Step.move (P := P) (cs2 := old ++ new) (off := p.off) (e2 := c' - (n + m)) hs hg i1 (setRow_heap w bb arr _ el fr j2) hobj2 (fun k hk => setRow_other hk) setRow_size rfl rfl rfl
                refine toBig _ _ _ _ _ (room hfit _ c' es' hge _ (by simp only [addr_add]; exact hrun)) ?_ hst (fun r off n2 c2 old2 h _ _ => by
                  cases h
                  exact ⟨bb, d, e', hst.ext _ _ i1, .inr ⟨c' - (n + m), by simp [Emb.set]⟩⟩)
                exact .atom (.slice 0 none (n + m) (n + m) ⟨_, d + p.off, none⟩ c' (e := c' - (n + m)) (d := d + p.off) (by simp [Emb.set]) (by simp only; omega) (.inl rfl))
          · cases hgo
theorem b_appendA {t u1 e e2 : TypeId} {so xo : Operand} {es by_ : Nat} {z : Value} (hu : P.underlying t = some (.slice e)) (hu2 : P.underlying u1 = some (.slice e2)) (hz : szOf P e = some es) (hb : byOf P e = some by_) (hzero : zeroOf P e = some z)
    (hzl : z.cells.toList.length = es) (hes : 1 ≤ es) (hby : 1 ≤ by_) (hby2 : by_ ≤ 4294967296) (hs : Sat P ι H w)
    (he : aop ev H (.append by_ es so xo) = some (v, H')) (hso : VR ι (ev so) (ρ so)) (hxo : VR ι (ev xo) (ρ xo)) :
    ∃ m, (∃ b c2, ev xo = .slice b m c2) ∧ BigA P ι H w (execOp ρ ⟨dst, .call ⟨.builtin .append, #[so, xo], #[t, u1]⟩, ty, pos, after, guard⟩) v H' (ev so) m es := by
  obtain ⟨i, hi, hib⟩ : ∃ i, P.info? e = some i ∧ i.bytes = by_ := by
    unfold byOf at hb
    cases hi : P.info? e with
    | none => simp [hi] at hb
    | some i => simp [hi] at hb; exact ⟨i, rfl, hb⟩
  simp only [aop] at he
  cases hvs : ev so with
  | slice a n c =>
    cases hvx : ev xo with
    | slice b m c2 =>
      simp only [hvs, hvx] at he hso hxo
      obtain ⟨new, h1, he⟩ := bind_some he
      have e2' : ∃ a' c', ρ xo = .slice a' m c' := by
        cases b with
        | none => obtain ⟨rfl, rfl, ex⟩ := nils_inv hxo; exact ⟨_, _, ex⟩
        | some p => obtain ⟨_, _, _, _, _, _, ex, _⟩ := slice_inv hxo; exact ⟨_, _, ex⟩
      obtain ⟨b', cb', ex⟩ := e2'
      obtain ⟨new', g1, g2, g3⟩ := firstCells_ok hs hxo (Nat.le_refl m) hes h1
      refine ⟨m, ⟨_, _, rfl⟩, append_core hes hs he hso g2 g3 (fun hfit => ?_) (fun hfit a' c' old es' hlt hold => run_grow (P := P) (w := w) (ty := ty) hu hu2 hz hi hib hzero hzl hby hby2 (x' := ρ xo) ⟨_, _, ex⟩ hfit hlt hold g1)⟩
      intro a' c' es' hle w' hw'
      have g1' := g1 w rfl
      rw [ex] at g1' ⊢
      rw [es']
      unfold Builtin.append_
      simp [r_und hu, r_und hu2, r_size hz, Builtin.lenOf, hle, g1']
      cases a' with
      | none => simp at hw' ⊢; exact hw'
      | some p => simp at hw' ⊢; rw [hw']; simp
    | _ => simp [hvs, hvx] at he
  | _ => simp [hvs] at he
theorem b_append {t u1 e e2 : TypeId} {so xo : Operand} {es by_ : Nat} {z : Value} (hu : P.underlying t = some (.slice e)) (hu2 : P.underlying u1 = some (.slice e2)) (hz : szOf P e = some es) (hb : byOf P e = some by_) (hzero : zeroOf P e = some z)
    (hzl : z.cells.toList.length = es) (hes : 1 ≤ es) (hby : 1 ≤ by_) (hby2 : by_ ≤ 4294967296) (hs : Sat P ι H w)
    (he : aop ev H (.append by_ es so xo) = some (v, H')) (hso : VR ι (ev so) (ρ so)) (hxo : VR ι (ev xo) (ρ xo)) :
    Big P ι H w (execOp ρ ⟨dst, .call ⟨.builtin .append, #[so, xo], #[t, u1]⟩, ty, pos, after, guard⟩) v H' := by
  obtain ⟨m, _, h⟩ := b_appendA (dst := dst) (ty := ty) (pos := pos) (after := after) (guard := guard) hu hu2 hz hb hzero hzl hes hby hby2 hs he hso hxo
  exact h.big
theorem zeroCells_toList {z : Value} {es n : Nat} (hzl : z.cells.toList.length = es) (hes : 1 ≤ es) : (Builtin.zeroCells z.cells n).toList = (List.replicate n z.cells.toList).flatten := by
  unfold Builtin.zeroCells
  have hsz2 : z.cells.size = es := by rw [← Array.length_toList]; exact hzl
  have h := zeros_eq (cellsOf z) n es hzl hes
  rw [show n * es = n * z.cells.size by rw [hsz2]] at h
  exact h
theorem b_appendZ {t u1 e : TypeId} {k0 : IntKind} {so xo : Operand} {es by_ : Nat} {z : Value} (hu : P.underlying t = some (.slice e)) (hu2 : P.underlying u1 = some (.int k0)) (hz : szOf P e = some es) (hb : byOf P e = some by_) (hzero : zeroOf P e = some z)
    (hzl : z.cells.toList.length = es) (hes : 1 ≤ es) (hby : 1 ≤ by_) (hby2 : by_ ≤ 4294967296) (hs : Sat P ι H w)
    (he : aop ev H (.appendZ by_ es z.cells.toList so xo) = some (v, H')) (hso : VR ι (ev so) (ρ so)) (hxo : VR ι (ev xo) (ρ xo)) :
    Big P ι H w (execOp ρ ⟨dst, .call ⟨.builtin .append, #[so, xo], #[t, u1]⟩, ty, pos, after, guard⟩) v H' := by
  obtain ⟨i, hi, hib⟩ : ∃ i, P.info? e = some i ∧ i.bytes = by_ := by
    unfold byOf at hb
    cases hi : P.info? e with
    | none => simp [hi] at hb
    | some i => simp [hi] at hb; exact ⟨i, rfl, hb⟩
  simp only [aop] at he
  split at he
  · rename_i a n c kk m hvs hvx
    cases hmm : Nat.ble m 140737488355328 with
    | false => rw [hmm] at he; cases he
    | true =>
      rw [hmm] at he
      simp only [cond_true] at he
      have hmm := Nat.le_of_ble_eq_true hmm
      rw [hvs] at hso
      rw [hvx] at hxo
      have ex := int_inv hxo
      have hzc := valOk_cells (zeroOf_ok hzero) (ι := ι)
      have g2 : All2 (CellR ι) ((List.replicate m z.cells.toList).flatten) ((List.replicate m z.cells.toList).flatten) := flatten_self (ι := ι) hzc m
      have g3 : ((List.replicate m z.cells.toList).flatten).length = m * es := by simp [hzl]
      have hw : IntKind.i64.wrap (Int.ofNat m) = (m : Int) := by
        rw [IntKind.wrap_i64]
        simp only [Int.ofNat_eq_natCast]
        omega
      have hai : ∀ W : World, (asInt (.int kk (Int.ofNat m))).run P W = .ok (Int.ofNat m) W := fun W => by simp [asInt, asIntOf]
      have hw0 : ¬ ((m : Int) < 0) := by omega
      have hzz : (Builtin.zeroCells z.cells m) = ⟨(List.replicate m z.cells.toList).flatten⟩ := by
        apply Array.ext'; exact zeroCells_toList hzl hes
      have hm0 : m * es = 0 → (List.replicate m z.cells.toList).flatten = [] := by
        intro h
        have : m = 0 := by rcases Nat.mul_eq_zero.1 h with h | h <;> omega
        subst this; rfl
      have happ : ∀ W : World, (if m * es = 0 then (pure #[] : Sem (Array Value)) else do pure (Builtin.zeroCells (← zeroValue e).cells m)).run P W = .ok ⟨(List.replicate m z.cells.toList).flatten⟩ W := by
        intro W
        split
        · rename_i h; rw [hm0 h]; rfl
        · simp [r_zero hzero, hzz]
      have hbig : (n + m) * by_ ≤ 140737488355328 → ¬ ((m : Int) * (by_ : Int) > 2 ^ 48) := by
        intro h
        have h1 : m * by_ ≤ (n + m) * by_ := Nat.mul_le_mul_right _ (by omega)
        have h2 : m * by_ ≤ 140737488355328 := Nat.le_trans h1 h
        have : ((m * by_ : Nat) : Int) ≤ 140737488355328 := by omega
        rw [Int.natCast_mul] at this
        omega
      refine BigA.big (append_core (u1 := u1) (t := t) (e := e) hes hs he hso g2 g3 (fun hfit => ?_) (fun hfit a' c' old es' hlt hold => ?_))
      · intro a' c' es' hle w' hw'
        have hbb := hbig hfit
        rw [ex, es']
        unfold Builtin.append_
        simp only [List.getElem?_toArray, List.getElem?_cons_zero, List.getElem?_cons_succ]
        simp only [Sem.run_bind, Sem.run_pure, Result.andThen_ok, r_und hu, r_und hu2, r_size hz, hai, hw, if_neg hw0, r_info hi, hib, if_neg hbb, if_true]
        by_cases hme : m * es = 0
        · rw [hm0 hme] at hw'
          simp [hle, hme]
          cases a' with
          | none => simp at hw' ⊢; exact hw'
          | some p => simp at hw' ⊢; rw [hw']; simp
        · simp [hle, hme, r_zero hzero, hzz]
          cases a' with
          | none => simp at hw' ⊢; exact hw'
          | some p => simp at hw' ⊢; rw [hw']; simp
      · have hbb := hbig hfit
        have h1 := nextslicecap_le hlt
        have h2 : Builtin.nextslicecap (n + m) c' * by_ ≤ ((n + m) + (n + m) / 4 + 512) * by_ := Nat.mul_le_mul_right _ h1
        have h3 : ((n + m) + (n + m) / 4 + 512) * by_ ≤ 2 ^ 48 := grown_le hfit hby2
        have hcap : ¬ Builtin.nextslicecap (n + m) c' * i.bytes > 2 ^ 48 := by rw [hib]; omega
        have hnm : n + m ≤ 140737488355328 := Nat.le_trans (Nat.le_mul_of_pos_right _ hby) hfit
        have hneed : ¬ (((n + m : Nat) : Int) > IntKind.i64.max) := by
          simp [IntKind.max, IntKind.signed, IntKind.bits]; omega
        have hneed2 : ¬ ((9223372036854775807 : Int) < (n : Int) + (m : Int)) := by omega
        have f0 : Question.forced (.appendCap (n + m) c' e) = false := rfl
        refine ⟨(Question.appendCap (n + m) c' e).cut (w.tape w.drawn (.appendCap (n + m) c' e)), Builtin.zeroCells z.cells ((Question.appendCap (n + m) c' e).cut (w.tape w.drawn (.appendCap (n + m) c' e)) - (n + m)), ?_, ?_, ?_⟩
        · simp only [Question.cut]; omega
        · unfold Builtin.zeroCells
          have : z.cells.size = es := by rw [← Array.length_toList]; exact hzl
          simp [this]
        · rw [ex]
          unfold Builtin.append_
          simp only [List.getElem?_toArray, List.getElem?_cons_zero, List.getElem?_cons_succ]
          simp only [Sem.run_bind, Sem.run_pure, Result.andThen_ok, r_und hu, r_und hu2, r_size hz, hai, hw, if_neg hw0, r_info hi, hib, if_neg hbb, if_true]
          by_cases hme : m * es = 0
          · have hnil := hm0 hme
            simp [Nat.not_le.2 hlt, hneed2, hcap, f0, r_zero hzero, hme, r_info hi]
            rw [hold w.drew rfl]
            simp [newRow, hnil]
          · simp [Nat.not_le.2 hlt, hneed2, hcap, f0, r_zero hzero, hme, hzz, r_info hi]
            rw [hold w.drew rfl]
            simp [newRow]
  · cases he
theorem b_rangeM {t k e : TypeId} {x : Operand} (hu : P.underlying t = some (.map k e)) (hs : Sat P ι H w) (he : aop ev H (.rangeM x) = some (v, H')) (hx : VR ι (ev x) (ρ x)) :
    Big P ι H w (execOp ρ ⟨dst, .range t x, ty, pos, after, guard⟩) v H' := by
  have hnone : ι H.next = none := hs.none (Nat.le_refl _)
  simp only [aop] at he
  cases hv : ev x with
  | map r =>
    simp only [hv] at he hx
    cases r with
    | none =>
      simp only [Option.some.injEq, Prod.mk.injEq] at he
      obtain ⟨rfl, rfl⟩ := he
      have ex := nilm_inv hx
      have st := Step.new hs (.iter none) (.mapIter none 0 #[] 0) 0 hnone rfl
      exact ⟨_, .pointer (some ⟨w.heap.size, 0, none⟩), _, .inl (by simp [execOp, Instr.range, ex, r_und hu]), .atom (.ptr 0 (by simp [Emb.set]; rfl)), st⟩
    | some r =>
      simp only at he
      split at he
      · rename_i kvs hg
        simp only [Option.some.injEq, Prod.mk.injEq] at he
        obtain ⟨rfl, rfl⟩ := he
        obtain ⟨b, d, e', ex, hb⟩ : ∃ b d e, ρ x = .map (some b) ∧ ι r = some (b, d, e) := by
          generalize ρ x = y at hx
          cases hx with
          | val h => cases h with
            | cell h => cases h with
              | atom h => cases h with
                | map h => exact ⟨_, _, _, rfl, h⟩
        obtain ⟨b2, d2, e2, c, k1, k2, k3⟩ := hs.obj r _ hg
        rw [hb] at k1; cases k1
        cases c with
        | map es clock =>
          have hx2 : Ext ι (ι.set H.next (w.heap.size, 0, 0)) := Ext.set hnone
          have st := Step.new hs (.iter (some r)) (.mapIter (some b) clock #[] clock) 0 hnone ⟨rfl, d, e', hx2 _ _ hb⟩
          have hget : (getObj b).run P w = .ok (.map es clock) w := by simp [getObj, Sem.run, k2]
          exact ⟨_, .pointer (some ⟨w.heap.size, 0, none⟩), _, .inl (by simp [execOp, Instr.range, ex, r_und hu, hget]), .atom (.ptr 0 (by simp [Emb.set]; rfl)), st⟩
        | _ => exact k3.elim
      · cases he
  | _ => simp [hv] at he
theorem b_nextM {x : Operand} (hs : Sat P ι H w) (he : aop ev H (.nextM x) = some (v, H')) (hx : VR ι (ev x) (ρ x)) :
    Big P ι H w (execOp ρ ⟨dst, .next x false, ty, pos, after, guard⟩) v H' := by
  simp only [aop] at he
  cases hv : ev x with
  | pointer p =>
    cases p with
    | none => simp [hv] at he
    | some p =>
      simp only [hv] at he hx
      cases h0 : Nat.beq p.off 0 with
      | false => rw [h0] at he; cases he
      | true =>
        rw [h0] at he
        simp only [cond_true] at he
        have h0 := Nat.eq_of_beq_eq_true h0
        obtain ⟨hsp, b, d, e, hb, ex⟩ := ptr_inv hx
        have hval : VR ι (.tuple #[.bool false]) (.tuple #[.bool false]) := .tuple (.cons (.cell (.atom (.bool false))) .nil)
        split at he
        · rename_i hg
          simp only [Option.some.injEq, Prod.mk.injEq] at he
          obtain ⟨rfl, rfl⟩ := he
          obtain ⟨b2, d2, e2, c, k1, k2, k3⟩ := hs.obj _ _ hg
          rw [hb] at k1; cases k1
          cases c with
          | mapIter m since seen last =>
            cases m with
            | some m => exact k3.elim
            | none =>
              have hd : d = 0 := k3
              subst hd
              have hget : (getObj b).run P w = .ok (.mapIter none since seen last) w := by simp [getObj, Sem.run, k2]
              exact ⟨ι, .tuple #[.bool false], w, .inl (by simp [execOp, Instr.next, ex, h0, hget]), hval, Step.refl hs⟩
          | _ => exact k3.elim
        · rename_i m hg
          split at he
          · rename_i hgm
            simp only [Option.some.injEq, Prod.mk.injEq] at he
            obtain ⟨rfl, rfl⟩ := he
            obtain ⟨b2, d2, e2, c, k1, k2, k3⟩ := hs.obj _ _ hg
            rw [hb] at k1; cases k1
            cases c with
            | mapIter m' since seen last =>
              cases m' with
              | none => exact k3.elim
              | some bm =>
                obtain ⟨hd, d3, e3, hbm⟩ := k3
                subst hd
                obtain ⟨b4, d4, e4, c4, j1, j2, j3⟩ := hs.obj _ _ hgm
                rw [hbm] at j1; cases j1
                cases c4 with
                | map es clock =>
                  have hes : es = #[] := by
                    have : es.toList = [] := by
                      have := (show All2 _ [] es.toList from j3)
                      cases hes : es.toList with
                      | nil => rfl
                      | cons a l => rw [hes] at this; cases this
                    exact Array.toList_eq_nil_iff.1 this
                  subst hes
                  have hget : (getObj b).run P w = .ok (.mapIter (some bm) since seen last) w := by simp [getObj, Sem.run, k2]
                  have hget2 : (getObj bm).run P w = .ok (.map #[] clock) w := by simp [getObj, Sem.run, j2]
                  exact ⟨ι, .tuple #[.bool false], w, .inl (by simp [execOp, Instr.next, ex, h0, hget, hget2, Question.forced]), hval, Step.refl hs⟩
                | _ => exact j3.elim
            | _ => exact k3.elim
          · cases he
        · cases he
  | _ => simp [hv] at he
theorem b_markS {s d : TypeId} {x : Operand} (hf : sameBytes P s d = true) (hs : Sat P ι H w) (he : aop ev H (.markS x) = some (v, H')) (hx : VR ι (ev x) (ρ x)) :
    Big P ι H w (execOp ρ ⟨dst, .convert s d x, ty, pos, after, guard⟩) v H' := by
  unfold sameBytes at hf
  simp only [Bool.and_eq_true] at hf
  obtain ⟨hsd, hf⟩ := hf
  have hsd := Nat.eq_of_beq_eq_true hsd
  subst hsd
  split at hf
  · rename_i e hu
    split at hf
    · rename_i he8
      simp only [aop] at he
      cases hv : ev x with
      | slice p n c =>
        cases p with
        | none => simp [hv] at he
        | some p =>
          simp only [hv] at he hx
          split at he
          · rename_i cs es hg
            cases h0 : Nat.beq es 0 || Nat.beq n 0 with
            | true => rw [h0] at he; cases he
            | false =>
              rw [h0] at he
              rw [Bool.or_eq_false_iff] at h0
              simp only [cond_false, Option.some.injEq, Prod.mk.injEq] at he
              obtain ⟨rfl, rfl⟩ := he
              have hes : es ≠ 0 := fun h => by rw [h] at h0; cases h0.1
              have hn0 : n ≠ 0 := fun h => by rw [h] at h0; cases h0.2
              obtain ⟨b, d, e', o', c', hb, ex, hc', ho⟩ := slice_inv hx
              obtain rfl : o' = ⟨b, d + p.off, none⟩ := ho.resolve_right (fun h => hn0 h.1)
              obtain ⟨b2, d2, e2, cc, k1, k2, k3⟩ := hs.obj _ _ hg
              rw [hb] at k1; cases k1
              obtain ⟨arr, el, fr, rfl, hfr, j5, j6⟩ := rw_cells k3
              have hsh : w.shape? b = some (el, arr.size) := by simp [World.shape?, k2]
              have hrun : (convert s s (.slice (some ⟨b, d + p.off, none⟩) n c')).run P w = .ok (.slice (some ⟨b, d + p.off, none⟩) n c') (w.freeze ⟨b, arr.size, none⟩ 1) := by
                simp [convert, r_und hu, r_und he8, markStringish, hsh]
              have hheap : ∀ k, (w.freeze ⟨b, arr.size, none⟩ 1).heap[k]? = if b = k then some (.cells arr el (if fr.1 = fr.2 then (arr.size, arr.size + 1) else (min fr.1 arr.size, max fr.2 (arr.size + 1)))) else w.heap[k]? := by
                intro k
                simp only [World.freeze, Nat.one_ne_zero, if_false, Array.getElem?_modify]
                by_cases hk : b = k
                · subst hk
                  rw [if_pos rfl, if_pos rfl, k2]
                  obtain ⟨lo, hi⟩ := fr
                  simp
                · rw [if_neg hk, if_neg hk]
              have hst : Step P ι H w ι (H.put p.block (.cells cs false es)) (w.freeze ⟨b, arr.size, none⟩ 1) := by
                refine Step.put hs hg rfl rfl hb (by rw [hheap, if_pos rfl]) ?_ (fun k hk => by rw [hheap, if_neg (Ne.symm hk)]) (by simp [World.freeze]) (by simp [World.freeze]) (by simp [World.freeze]) (by simp [World.freeze])
                refine ⟨fun _ => .inr ⟨hes, ?_⟩, j5, j6⟩
                split
                · exact Nat.le_refl _
                · rename_i hne
                  rcases hfr with rfl | ⟨_, hle⟩
                  · exact absurd rfl hne
                  · simp only; omega
              refine ⟨_, .slice (some ⟨b, d + p.off, none⟩) n c', _, .inl ?_, by rw [← ex]; exact hx, hst⟩
              simp only [execOp, ex, Sem.run_bind, hrun, Result.andThen_ok, Sem.run_pure]
          · cases he
      | _ => simp [hv] at he
    · cases hf
  · cases hf
theorem b_toBytes {s d : TypeId} {x : Operand} (hf : intoBytes P s d = true) (hs : Sat P ι H w) (he : aop ev H (.toBytes x) = some (v, H')) (hx : VR ι (ev x) (ρ x)) :
    Big P ι H w (execOp ρ ⟨dst, .convert s d x, ty, pos, after, guard⟩) v H' := by
  unfold intoBytes at hf
  split at hf
  · rename_i e hu hd
    split at hf
    · rename_i he8
      simp only [aop] at he
      cases hv : ev x with
      | string b =>
        simp only [hv, Option.some.injEq, Prod.mk.injEq] at he hx
        obtain ⟨rfl, rfl⟩ := he
        have ex : ρ x = .string b := by
          generalize ρ x = y at hx
          cases hx with
          | val h => cases h with
            | cell h => cases h with
              | atom h => cases h; rfl
        have hrun := Lib.run_convert_string_bytes w s d e b hu hd he8
        have hcap : b.data.toList.length ≤ grownCap w b.size 0 e := by
          have : b.size ≤ grownCap w b.size 0 e := by unfold grownCap; simp only [Question.cut]; omega
          simpa using this
        have hnone : ι H.next = none := hs.none (Nat.le_refl _)
        have hcells : (Lib.bytesCells w e b).toList = (b.data.toList.map fun y => Value.int .u8 y.toNat) ++ List.replicate (grownCap w b.size 0 e - b.size) (.int .u8 0) := by
          simp [Lib.bytesCells]
        have hobj : ObjR P (ι.set H.next (w.heap.size, 0, grownCap w b.size 0 e - b.data.toList.length)) (.cells (b.data.toList.map fun y => .int .u8 y.toNat) false 1)
            (.cells (Lib.bytesCells w e b) e ((Lib.bytesCells w e b).size, (Lib.bytesCells w e b).size + 1)) 0 (grownCap w b.size 0 e - b.data.toList.length) := by
          refine ⟨fun _ => .inr ⟨by omega, Nat.le_refl _⟩, ?_, ?_⟩
          · rw [← Array.length_toList, hcells]
            simp
          · intro i y hi
            refine ⟨y, ?_, ?_⟩
            · rw [Nat.zero_add, ← Array.getElem?_toList, hcells, List.getElem?_append_left (List.getElem?_eq_some_iff.1 hi).1]
              exact hi
            · rw [List.getElem?_map] at hi
              cases hb : b.data.toList[i]? with
              | none => rw [hb] at hi; cases hi
              | some z => rw [hb] at hi; cases hi; exact .atom (.int _ _)
        have st1 := Step.new hs _ _ _ hnone hobj
        have hheap : (Lib.bytesWorld w e b).heap = (w.alloc (.cells (Lib.bytesCells w e b) e ((Lib.bytesCells w e b).size, (Lib.bytesCells w e b).size + 1))).heap := by
          apply Array.ext_getElem?
          intro j
          rcases Nat.lt_trichotomy j w.heap.size with h | h | h
          · rw [Lib.bytesWorld_at_old w e b j h]; exact (Go.RowKit.Below.heap_alloc w _ j h).symm
          · subst h; rw [Lib.bytesWorld_at_new, World.alloc_heap_new]
          · rw [Array.getElem?_eq_none (by rw [Lib.bytesWorld_size]; omega), Array.getElem?_eq_none (by rw [World.size_alloc]; omega)]
        have st2 := Step.drawn (w' := Lib.bytesWorld w e b) st1.sat hheap rfl rfl rfl
        refine ⟨_, .slice (some ⟨w.heap.size, 0, none⟩) b.size (grownCap w b.size 0 e), _, .inl ?_, ?_, st1.trans st2⟩
        · simp only [execOp, ex, Sem.run_bind, hrun, Result.andThen_ok, Sem.run_pure]
        · show VR _ _ (.slice (some ⟨w.heap.size, 0, none⟩) b.data.toList.length (grownCap w b.size 0 e))
          exact .atom (.slice 0 none b.data.toList.length b.data.toList.length ⟨_, 0, none⟩ (grownCap w b.size 0 e) (e := grownCap w b.size 0 e - b.data.toList.length) (d := 0) (by simp [Emb.set]) (by simp only; omega) (.inl rfl))
      | _ => simp [hv] at he
    · cases hf
  · cases hf
end
end Go.Proofs.YtdlfdieehioolaaDoor
