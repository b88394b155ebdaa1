/- The operations that write. -/
import Derived.Test.YtdlfdieehioolaaDoorOps7
import Derived.Laws.Tables
namespace Go.Proofs.YtdlfdieehioolaaDoor
open Go
set_option linter.unusedVariables false
set_option linter.unusedSimpArgs false
theorem All2.eraseIdx {α β : Type} {R : α → β → Prop} {l : List α} {m : List β} (h : All2 R l m) (i : Nat) : All2 R (l.eraseIdx i) (m.eraseIdx i) := by
  induction h generalizing i with
  | nil => exact .nil
  | cons hc h ih => cases i with
    | zero => simpa using h
    | succ i => simpa using All2.cons hc (ih i)
def Big (P : Program) (ι : Emb) (H : Heap) (w : World) (s : Sem Next) (v : Value) (H' : Heap) : Prop :=
  ∃ ι' v' w', Runs P s w v' w' ∧ VR ι' v v' ∧ Step P ι H w ι' H' w'
section
variable {P : Program} {ι : Emb} {H H' : Heap} {w : World} {ev ρ : Operand → Value} {v : Value} {dst : Option Tmp} {ty : TypeId} {pos : String} {after : Array Edge} {guard : Option (Nat × Bool)}
theorem Sat.none {P : Program} {ι : Emb} {H : Heap} {w : World} (h : Sat P ι H w) {r : Nat} (hr : H.next ≤ r) : ι r = none := by
  cases hi : ι r with
  | none => rfl
  | some x => have := h.fresh r x hi; omega
theorem Sat.reads {P : Program} {ι : Emb} {H : Heap} {w : World} (h : Sat P ι H w) (rs : List Nat) : ReadOk P ι H w rs :=
  ⟨fun r _ o hr => h.obj r o hr, fun r _ r' _ o o' x x' => h.apart r r' o o' x x'⟩
theorem Small.big {s : Sem Next} (hs : Sat P ι H w) (h : Small P ι H w s v H') : Big P ι H w s v H' := by
  rcases h with ⟨rfl, v', h1, h2⟩ | ⟨ob, c, e, horw, rfl, h⟩
  · exact ⟨ι, v', w, h1, h2, Step.refl hs⟩
  · have hn := hs.none (Nat.le_refl H.next)
    obtain ⟨v', h1, h2, h3⟩ := h (ι.set H.next (w.heap.size, 0, e)) (Ext.set hn) (by simp [Emb.set])
    exact ⟨_, v', _, h1, h2, Step.new hs ob c e hn h3 horw⟩
/- ===== a row of cells, written ===== -/
theorem setRow_other {g k : Nat} {cs : Array Value} (h : k ≠ g) : (w.setRow g cs).heap[k]? = w.heap[k]? := by
  unfold World.setRow; rw [Array.getElem?_modify, if_neg (by omega)]
theorem setRow_size {g : Nat} {cs : Array Value} : (w.setRow g cs).heap.size = w.heap.size := by
  unfold World.setRow; rw [Array.size_modify]
theorem splice_get (l vs : List Value) (o i : Nat) (h : o + vs.length ≤ l.length) :
    (l.take o ++ vs ++ l.drop (o + vs.length))[i]? = if o ≤ i ∧ i < o + vs.length then vs[i - o]? else l[i]? := by
  by_cases h1 : i < o
  · rw [List.append_assoc, List.getElem?_append_left (by simp; omega), List.getElem?_take, if_pos h1, if_neg (by omega)]
  · by_cases h2 : i < o + vs.length
    · rw [List.getElem?_append_left (by simp; omega), List.getElem?_append_right (by simp; omega), if_pos ⟨by omega, h2⟩]
      congr 1; simp; omega
    · rw [List.getElem?_append_right (by simp; omega), if_neg (by omega), List.getElem?_drop]
      congr 1; simp; omega
theorem run_storeCells_u (g o : Nat) (t : TypeId) (fz : Nat × Nat) : ∀ (vs : List Value) (i : Nat) (cur : Array Value) (w : World), w.heap[g]? = some (.cells cur t fz) → cur.size ≤ fz.1 → o + i + vs.length ≤ cur.size → (∀ v ∈ vs, v.oneCell' = true) →
    (storeCells ⟨g, o, none⟩ vs i).run P w = .ok () (w.setRow g (cur.toList.take (o + i) ++ vs ++ cur.toList.drop (o + i + vs.length)).toArray)
  | [], i, cur, w, hg, _, _, _ => by
    simp only [storeCells, List.append_nil, List.length_nil, Nat.add_zero, List.take_append_drop, Array.toArray_toList]
    rw [setRow_self w g cur t fz hg]
    rfl
  | v :: rest, i, cur, w, hg, hz, hl, h1 => by
    have hi : o + i < cur.size := by simp at hl; omega
    have hfro : w.frozen? ⟨g, o + i, none⟩ = false := by
      simp only [World.frozen?, hg, Bool.and_eq_false_iff, decide_eq_false_iff_not]
      left
      omega
    have hcell : w.cell? ⟨g, o + i, none⟩ = some cur[o + i] := by simp [World.cell?, hg, hi]
    have hst : (store ((⟨g, o, none⟩ : Addr).add i) v).run P w = .ok () (w.setRow g (cur.setIfInBounds (o + i) v)) := by
      rw [addr_add, run_store P w _ v _ (h1 v (by simp)), hcell]
      simp [hfro, setCell_eq_setRow w g (o + i) cur t fz v hg]
    have ih := run_storeCells_u g o t fz rest (i + 1) (cur.setIfInBounds (o + i) v) (w.setRow g (cur.setIfInBounds (o + i) v)) (setRow_heap w g cur _ t _ hg) (by simpa using hz) (by simp at hl ⊢; omega) (fun x hx => h1 x (by simp [hx]))
    simp only [storeCells, Sem.run_bind, hst, Result.andThen_ok, ih, setRow_setRow]
    congr 3
    have e := list_seg_step cur.toList (o + i) v rest (by simp at hl ⊢; omega)
    simpa [Array.toList_setIfInBounds, Nat.add_assoc] using e
theorem run_stores {es : Nat} (g o : Nat) (t : TypeId) (fz : Nat × Nat) (vs : List Value) (cur : Array Value) (w : World) (hg : w.heap[g]? = some (.cells cur t fz)) (hf : FrOk es fz cur.size) (hl : o + vs.length ≤ cur.size)
    (h1 : ∀ v ∈ vs, v.oneCell' = true) : (storeCells ⟨g, o, none⟩ vs 0).run P w = .ok () (w.setRow g (cur.toList.take o ++ vs ++ cur.toList.drop (o + vs.length)).toArray) := by
  rcases hf with rfl | ⟨_, hf⟩
  · have := run_storeCells_at (P := P) g o t vs 0 cur w hg (by simpa using hl) h1
    simpa using this
  · have := run_storeCells_u (P := P) g o t fz vs 0 cur w hg hf (by simpa using hl) h1
    simpa using this
theorem writeCells_ok {r off : Nat} {vs vs' : List Value} (hs : Sat P ι H w) (h : writeCells H r off vs = some H') (hv : All2 (CellR ι) vs vs') {b d e : Nat} (hb : ι r = some (b, d, e)) :
    ∃ w', (storeCells ⟨b, d + off, none⟩ vs').run P w = .ok () w' ∧ Step P ι H w ι H' w' := by
  unfold writeCells at h
  split at h
  · rename_i cs es hg
    cases hle : Nat.ble (off + vs.length) cs.length with
    | false => rw [hle] at h; cases h
    | true =>
      rw [hle] at h; simp only [cond_true, Option.some.injEq] at h; subst h
      have hle := Nat.le_of_ble_eq_true hle
      obtain ⟨b', d', e', c, h1, h2, h3⟩ := hs.obj r _ hg
      rw [hb] at h1; cases h1
      obtain ⟨arr, el, fr, rfl, hfr, h5, h6⟩ := rw_cells h3
      have hl := hv.length
      have hrun := run_stores (P := P) b (d + off) el fr vs' arr w h2 hfr (by omega) (fun x hx => by
        obtain ⟨i, hi⟩ := List.mem_iff_getElem?.1 hx
        have hi2 : i < vs'.length := (List.getElem?_eq_some_iff.1 hi).1
        obtain ⟨y, hy⟩ : ∃ y, vs[i]? = some y := ⟨vs[i], List.getElem?_eq_getElem (by omega)⟩
        obtain ⟨x', g1, g2⟩ := hv.get hy
        rw [hi] at g1; cases g1; exact g2.isCell.2.1)
      refine ⟨_, hrun, Step.put hs hg rfl rfl hb (setRow_heap w b arr _ el fr h2) ?_ (fun k hk => setRow_other hk) setRow_size rfl rfl rfl⟩
      refine ⟨fun _ => ?_, ?_, ?_⟩
      · rcases hfr with h | ⟨h, h'⟩
        · exact .inl h
        · exact .inr ⟨h, by simp only [List.size_toArray, List.length_append, List.length_take, List.length_drop, Array.length_toList]; omega⟩
      · simp only [List.size_toArray, writeAt_length, List.length_append, List.length_take, List.length_drop, Array.length_toList]
        omega
      · intro i v hi
        rw [writeAt_get _ _ _ _ hle] at hi
        have hget := splice_get arr.toList vs' (d + off) (d + i) (by simp; omega)
        simp only [List.getElem?_toArray]
        rw [hget]
        split at hi
        · rename_i hc
          rw [if_pos (by omega)]
          obtain ⟨v', g1, g2⟩ := hv.get hi
          exact ⟨v', by rw [← g1]; congr 1; omega, g2⟩
        · rename_i hc
          rw [if_neg (by omega)]
          obtain ⟨v', g1, g2⟩ := h6 i v hi
          exact ⟨v', by simpa using g1, g2⟩
  · cases h
theorem b_store {t : TypeId} {a x : Operand} {s : Nat} (hz : szOf P t = some s) (hs : Sat P ι H w) (he : aop ev H (.store s a x) = some (v, H')) (ha : VR ι (ev a) (ρ a)) (hx : VR ι (ev x) (ρ x)) :
    Big P ι H w (execOp ρ ⟨dst, .store t a x, ty, pos, after, guard⟩) v H' := by
  simp only [aop] at he
  cases hv : ev a with
  | pointer p =>
    cases p with
    | none => simp [hv] at he
    | some p =>
      simp only [hv] at he ha
      cases hc : (Nat.beq (cellsOf (ev x)).length s && (cellsOf (ev x)).all isCell) with
      | false => rw [hc] at he; cases he
      | true =>
        rw [hc] at he; simp only [cond_true] at he
        simp only [Bool.and_eq_true] at hc
        obtain ⟨H2, h1, h2⟩ := bind_some he
        cases h2
        obtain ⟨hsp, b, d, e, hb, hρ⟩ := ptr_inv ha
        have hA := hx.cells hc.2
        have hl : (ρ x).cells.size = s := by rw [← Array.length_toList, cellsOf_cells, ← hA.length]; exact Nat.eq_of_beq_eq_true hc.1
        obtain ⟨w', hr, hst⟩ := writeCells_ok hs h1 hA hb
        refine ⟨ι, undef, w', .inr ⟨?_, rfl⟩, VR.undef _, hst⟩
        have hr' : (storeCells ⟨b, d + p.off, none⟩ (ρ x).cells.toList).run P w = .ok () w' := hr
        simp [execOp, Instr.storeAt, hρ, Instr.sureAddr, storeVar, r_size hz, hl, hr']
  | _ => simp [hv] at he
/- ===== maps, written ===== -/
theorem put_map {r : Nat} {kvs kvs' : List (Value × Value)} {es es' : Array MapEntry} {c c' : Nat} {b d e : Nat} (hs : Sat P ι H w) (hg : H.get r = some (.map kvs)) (hb : ι r = some (b, d, e)) (hw : w.heap[b]? = some (.map es c))
    (h : All2 (fun (p : Value × Value) (q : MapEntry) => CellR ι p.1 q.key ∧ ValR ι p.2 q.val) kvs' es'.toList) :
    (setObj b (.map es' c')).run P w = .ok () (w.putObj b (.map es' c')) ∧ Step P ι H w ι (H.put r (.map kvs')) (w.putObj b (.map es' c')) := by
  have hlt : b < w.heap.size := (Array.getElem?_eq_some_iff.1 hw).1
  refine ⟨by simp [setObj, Sem.run, hw, World.putObj], ?_⟩
  exact Step.put hs hg rfl rfl hb (World.putObj_heap_same hlt) h (fun k hk => World.putObj_heap_other hk) (by simp [World.putObj]) rfl rfl rfl
theorem sameBits_int (n : Nat) (k : IntKind) (a : Int) : Instr.sameBits n (.int k a) (.int k a) = true := by
  cases n <;> simp [Instr.sameBits]
theorem b_mapUpdate {t kt e0 : TypeId} {m key x : Operand} {k : IntKind} (hu : P.underlying t = some (.map kt e0)) (hk : kindOf P kt = some k) (hs : Sat P ι H w)
    (he : aop ev H (.mapUpdate k m key x) = some (v, H')) (hm : VR ι (ev m) (ρ m)) (hkey : VR ι (ev key) (ρ key)) (hx : VR ι (ev x) (ρ x)) :
    Big P ι H w (execOp ρ ⟨dst, .mapUpdate t m key x, ty, pos, after, guard⟩) v H' ∧ Big P ι H w (execOp ρ ⟨dst, .insert t m key x, ty, pos, after, guard⟩) v H' := by
  suffices h : ∃ w', (Instr.mapUpdate t (ρ m) (ρ key) (ρ x)).run P w = .ok () w' ∧ v = undef ∧ Step P ι H w ι H' w' by
    obtain ⟨w', h1, rfl, h2⟩ := h
    exact ⟨⟨ι, undef, w', .inr ⟨by simp [execOp, h1], rfl⟩, VR.undef _, h2⟩, ⟨ι, undef, w', .inr ⟨by simp [execOp, h1], rfl⟩, VR.undef _, h2⟩⟩
  have hku := kindOf_und hk
  simp only [aop] at he
  cases hv : ev key with
  | int k' n =>
    cases hvm : ev m with
    | map r =>
      cases r with
      | none => simp [hv, hvm] at he
      | some r =>
        simp only [hv, hvm] at he hkey hm
        split at he
        · rename_i hkk; subst hkk
          have ek := int_inv hkey
          obtain ⟨b, d, e, hb, em⟩ := map_inv hm
          cases hg : H.get r with
          | none => simp [hg] at he
          | some o =>
            cases o with
            | map kvs =>
              simp only [hg] at he
              obtain ⟨b', d', e', c, h1, h2, h3⟩ := hs.obj r _ hg
              rw [hb] at h1; cases h1
              cases c with
              | map es clock =>
                cases hvx : isTuple (ev x) with
                | true =>
                  simp only [hvx, cond_true] at he
                  split at he <;> cases he
                | false =>
                simp only [hvx, cond_false] at he
                have hxv : ValR ι (ev x) (ρ x) := hx.valR (fun vs h => by rw [h] at hvx; cases hvx)
                have hgo : (getObj b).run P w = .ok (.map es clock) w := by simp [getObj, Sem.run, h2]
                cases hf : findKv k' n kvs 0 with
                | none => simp [hf] at he
                | some q =>
                  obtain ⟨q', g1, g2⟩ := findKv_ok (j := k') h3 hf
                  cases q with
                  | none =>
                    cases q' with
                    | some _ => exact g2.elim
                    | none =>
                      simp only [hf, Option.some.injEq, Prod.mk.injEq] at he
                      obtain ⟨rfl, rfl⟩ := he
                      obtain ⟨p1, p2⟩ := put_map (P := P) (c' := clock + 1) (kvs' := kvs ++ [(.int k' n, ev x)]) (es' := es.push { key := .int k' n, val := ρ x, born := clock }) hs hg hb h2
                        (by rw [Array.toList_push]; exact h3.append (.cons ⟨.atom (.int _ _), hxv⟩ .nil))
                      refine ⟨_, ?_, rfl, p2⟩
                      simp [Instr.mapUpdate, r_und hu, em, ek, hgo, run_checkKey hku, Instr.findKey, r_und hku, g1, p1]
                  | some a =>
                    cases q' with
                    | none => exact g2.elim
                    | some b2 =>
                      obtain ⟨a1, a2⟩ := a; obtain ⟨b1, b2⟩ := b2
                      simp only [hf, Option.some.injEq, Prod.mk.injEq] at he
                      obtain ⟨rfl, rfl⟩ := he
                      obtain ⟨c1, c2, c3, c4, e5, c5, c6⟩ := g2
                      subst c1
                      simp only [Nat.sub_zero] at c5
                      have hk5 : ((es[a1]?).map (·.key)).getD (.int k' n) = .int k' n := by
                        rw [Array.getElem?_toList] at c5; simp [c5, c6]
                      obtain ⟨p1, p2⟩ := put_map (P := P) (c' := clock) (kvs' := kvs.set a1 (.int k' n, ev x)) (es' := es.modify a1 fun e => { e with key := .int k' n, val := ρ x }) hs hg hb h2 (by
                        refine All2.of_get (by simp; simpa using h3.length) ?_
                        intro i p q hp hq
                        rw [List.getElem?_set] at hp
                        rw [Array.getElem?_toList, Array.getElem?_modify] at hq
                        split at hp
                        · rename_i hi; subst hi
                          rw [if_pos rfl] at hq
                          split at hp
                          · cases hp
                            cases hes : es[a1]? with
                            | none => simp [hes] at hq
                            | some q0 => simp [hes] at hq; subst hq; exact ⟨.atom (.int _ _), hxv⟩
                          · cases hp
                        · rename_i hi
                          rw [if_neg hi] at hq
                          obtain ⟨q0, r1, r2⟩ := h3.get hp
                          rw [Array.getElem?_toList, hq] at r1; cases r1; exact r2)
                      refine ⟨_, ?_, rfl, p2⟩
                      simp [Instr.mapUpdate, r_und hu, em, ek, hgo, run_checkKey hku, Instr.findKey, r_und hku, g1, hk5, Instr.keyThatStays, sameBits_int, p1]
              | _ => exact h3.elim
            | _ => simp [hg] at he
        · cases he
    | _ => simp [hv, hvm] at he
  | _ => simp [hv] at he
theorem b_delete {t kt e0 u1 : TypeId} {us : List TypeId} {m key : Operand} {k : IntKind} (hu : P.underlying t = some (.map kt e0)) (hk : kindOf P kt = some k) (hs : Sat P ι H w)
    (he : aop ev H (.delete k m key) = some (v, H')) (hm : VR ι (ev m) (ρ m)) (hkey : VR ι (ev key) (ρ key)) :
    Big P ι H w (execOp ρ ⟨dst, .call ⟨.builtin .delete, #[m, key], ⟨t :: us⟩⟩, ty, pos, after, guard⟩) v H' := by
  have hku := kindOf_und hk
  simp only [aop] at he
  cases hv : ev key with
  | int k' n =>
    cases hvm : ev m with
    | map r =>
      cases r with
      | none =>
        simp only [hv, hvm] at he hkey hm
        split at he
        · rename_i hkk; subst hkk; cases he
          have ek := int_inv hkey
          have em := nilm_inv hm
          refine ⟨ι, .tuple #[], w, .inl ?_, .tuple .nil, Step.refl hs⟩
          simp [execOp, resolve, invoke, builtin, Builtin.delete_, r_und hu, em, ek, run_checkKey hku]
        · cases he
      | some r =>
        simp only [hv, hvm] at he hkey hm
        split at he
        · rename_i hkk; subst hkk
          have ek := int_inv hkey
          obtain ⟨b, d, e, hb, em⟩ := map_inv hm
          cases hg : H.get r with
          | none => simp [hg] at he
          | some o =>
            cases o with
            | map kvs =>
              simp only [hg] at he
              obtain ⟨b', d', e', c, h1, h2, h3⟩ := hs.obj r _ hg
              rw [hb] at h1; cases h1
              cases c with
              | map es clock =>
                have hgo : (getObj b).run P w = .ok (.map es clock) w := by simp [getObj, Sem.run, h2]
                cases hf : findKv k' n kvs 0 with
                | none => simp [hf] at he
                | some q =>
                  obtain ⟨q', g1, g2⟩ := findKv_ok (j := k') h3 hf
                  cases q with
                  | none =>
                    cases q' with
                    | some _ => exact g2.elim
                    | none =>
                      simp only [hf, Option.some.injEq, Prod.mk.injEq] at he
                      obtain ⟨rfl, rfl⟩ := he
                      have hset : (setObj b (.map es clock)).run P w = .ok () (w.putObj b (.map es clock)) := by simp [setObj, Sem.run, h2, World.putObj]
                      have hself : w.putObj b (.map es clock) = w := by
                        unfold World.putObj
                        have : w.heap.setIfInBounds b (.map es clock) = w.heap := by
                          apply Array.ext_getElem?
                          intro i
                          rw [Array.getElem?_setIfInBounds]
                          split
                          · rename_i hi; subst hi
                            split
                            · exact h2.symm
                            · rename_i hlt; rw [Array.getElem?_eq_none (by omega)]
                          · rfl
                        rw [this]
                      refine ⟨ι, .tuple #[], w, .inl ?_, .tuple .nil, Step.refl hs⟩
                      simp [execOp, resolve, invoke, builtin, Builtin.delete_, r_und hu, em, ek, hgo, run_checkKey hku, Instr.findKey, r_und hku, g1, hset, hself]
                  | some a =>
                    cases q' with
                    | none => exact g2.elim
                    | some b2 =>
                      obtain ⟨a1, a2⟩ := a; obtain ⟨b1, b2⟩ := b2
                      simp only [hf, Option.some.injEq, Prod.mk.injEq] at he
                      obtain ⟨rfl, rfl⟩ := he
                      obtain ⟨c1, c2, c3, c4, e5, c5, c6⟩ := g2
                      subst c1
                      obtain ⟨p1, p2⟩ := put_map (P := P) (c' := clock) (kvs' := kvs.eraseIdx a1) (es' := es.eraseIdxIfInBounds a1) hs hg hb h2 (by
                        have hh : (es.eraseIdxIfInBounds a1).toList = es.toList.eraseIdx a1 := by
                          rw [Array.eraseIdxIfInBounds]
                          split
                          · simp
                          · rename_i hlt; rw [List.eraseIdx_of_length_le (by simp; omega)]
                        rw [hh]
                        exact h3.eraseIdx a1)
                      refine ⟨ι, .tuple #[], _, .inl ?_, .tuple .nil, p2⟩
                      simp [execOp, resolve, invoke, builtin, Builtin.delete_, r_und hu, em, ek, hgo, run_checkKey hku, Instr.findKey, r_und hku, g1, p1]
              | _ => exact h3.elim
            | _ => simp [hg] at he
        · cases he
    | _ => simp [hv, hvm] at he
  | _ => simp [hv] at he
end
end Go.Proofs.YtdlfdieehioolaaDoor
