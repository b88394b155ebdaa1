/- The operations that read and make, but turn nothing: the model does what the abstract machine does. -/
import Derived.Test.YtdlfdieehioolaaDoorRel
import Derived.Laws.BytesString
import Derived.Laws.Strings
import Derived.Laws.Cells
import Derived.Laws.CopyRow
import Derived.Laws.IdiomCopy
namespace Go.Proofs.YtdlfdieehioolaaDoor
open Go
set_option linter.unusedVariables false
set_option linter.unusedSimpArgs false
section
variable {P : Program} {w : World} {t : TypeId}
theorem r_und {d : TypeDesc} (h : P.underlying t = some d) : (underlying t).run P w = .ok d w := by simp [underlying, h]
theorem r_info {i : TypeInfo} (h : P.info? t = some i) : (typeInfo t).run P w = .ok i w := by simp [typeInfo, h]
theorem szOf_info {s : Nat} (h : szOf P t = some s) : ∃ i, P.info? t = some i ∧ i.size = s := by
  unfold szOf at h; cases hi : P.info? t with
  | none => simp [hi] at h
  | some i => simp [hi] at h; exact ⟨i, rfl, h⟩
theorem r_size {s : Nat} (h : szOf P t = some s) : (sizeOf t).run P w = .ok s w := by
  obtain ⟨i, hi, rfl⟩ := szOf_info h
  simp [sizeOf, r_info hi]
theorem cells_of {s : Nat} (h : szOf P t = some s) : P.cellsOf t = s := by
  obtain ⟨i, hi, rfl⟩ := szOf_info h
  simp [Program.cellsOf, hi]
theorem r_zero {z : Value} (h : zeroOf P t = some z) : (zeroValue t).run P w = .ok z w := by
  unfold zeroOf at h
  cases hi : P.info? t with
  | none => simp [hi] at h
  | some i =>
    cases hz : i.zero with
    | none => simp [hi, hz] at h
    | some z' => simp [hi, hz] at h; simp [zeroValue, r_info hi, hz, h]
theorem zeroOf_ok {z : Value} (h : zeroOf P t = some z) : valOk z = true := by
  unfold zeroOf at h
  split at h
  · split at h
    · rename_i hv; cases h; exact hv
    · cases h
  · cases h
theorem r_agg {g : Bool} (h : aggOf P t = some g) : (isAgg t).run P w = .ok g w := by
  unfold aggOf at h
  cases hi : P.underlying t with
  | none => simp [hi] at h
  | some d =>
    simp [hi] at h
    simp [isAgg, r_und hi]
    cases d <;> simp_all
end
def Runs (P : Program) (s : Sem Next) (w : World) (v : Value) (w' : World) : Prop :=
  s.run P w = .ok (.value v) w' ∨ (s.run P w = .ok .skip w' ∧ v = undef)
def ReadOk (P : Program) (ι : Emb) (H : Heap) (w : World) (rs : List Nat) : Prop :=
  (∀ r ∈ rs, ∀ o, H.get r = some o → ∃ b d e c, ι r = some (b, d, e) ∧ w.heap[b]? = some c ∧ ObjR P ι o c d e) ∧
  (∀ r ∈ rs, ∀ r' ∈ rs, ∀ o o' x x', H.get r = some o → H.get r' = some o' → r ≠ r' → o.rw = true → ι r = some x → ι r' = some x' → x.1 ≠ x'.1)
def Small (P : Program) (ι : Emb) (H : Heap) (w : World) (s : Sem Next) (v : Value) (H' : Heap) : Prop :=
  (H' = H ∧ ∃ v', Runs P s w v' w ∧ VR ι v v') ∨
  (∃ ob c e, ob.rw = true ∧ H' = H.new ob ∧ ∀ ι2, Ext ι ι2 → ι2 H.next = some (w.heap.size, 0, e) → ∃ v', Runs P s w v' (w.alloc c) ∧ VR ι2 v v' ∧ ObjR P ι2 ob c 0 e)
theorem Small.pure {P : Program} {ι : Emb} {H : Heap} {w : World} {s : Sem Next} {v v' : Value} (hs : s.run P w = .ok (.value v') w) (h : VR ι v v') : Small P ι H w s v H :=
  .inl ⟨rfl, v', .inl hs, h⟩
/- ===== reading cells ===== -/
theorem readCells_ok {P : Program} {ι : Emb} {H : Heap} {w : World} {r off n : Nat} {cs : List Value} (h : readCells H r off n = some cs)
    (hr : ∀ o, H.get r = some o → ∃ b d e c, ι r = some (b, d, e) ∧ w.heap[b]? = some c ∧ ObjR P ι o c d e) :
    ∃ b d e, ι r = some (b, d, e) ∧ cs.length = n ∧ ∃ cs', All2 (CellR ι) cs cs' ∧ ∀ j v, cs'[j]? = some v → w.cell? ⟨b, d + off + j, none⟩ = some v := by
  unfold readCells at h
  cases hg : H.get r with
  | none => simp [hg] at h
  | some o =>
    obtain ⟨b, d, e, c, h1, h2, h3⟩ := hr o hg
    cases o with
    | cells xs ro es =>
      simp only [hg] at h
      cases hle : Nat.ble (off + n) xs.length with
      | false => simp [hle] at h
      | true =>
        have hle' := Nat.le_of_ble_eq_true hle
        simp only [hle, cond_true, Option.some.injEq] at h
        cases c with
        | cells arr elem fr =>
          obtain ⟨h4, h5, h6⟩ := h3
          have hlen : cs.length = n := by rw [← h]; simp; omega
          refine ⟨b, d, e, h1, hlen, (arr.toList.drop (d + off)).take n, ?_, ?_⟩
          · refine All2.of_get (by simp; omega) ?_
            intro i x y hx hy
            rw [← h] at hx
            rw [List.getElem?_take] at hx hy
            split at hx
            · rename_i hi
              rw [if_pos hi] at hy
              rw [List.getElem?_drop] at hx hy
              obtain ⟨v', g1, g2⟩ := h6 _ _ hx
              rw [← Array.getElem?_toList, show d + (off + i) = d + off + i by omega, hy] at g1
              cases g1; exact g2
            · cases hx
          · intro j v hj
            rw [List.getElem?_take] at hj
            split at hj
            · rw [List.getElem?_drop] at hj
              simp only [World.cell?, h2]
              simpa using hj
            · cases hj
        | _ => exact h3.elim
    | _ => simp [hg] at h
theorem loadL_ok {ι : Emb} {g : Bool} {n : Nat} {cs cs' : List Value} {v : Value} (h : loadL g n cs = some v) (ha : All2 (CellR ι) cs cs') (hl : g = false → cs.length = 1) :
    (if g then VR ι v (.agg ⟨cs'⟩) else ∃ x', cs' = [x'] ∧ VR ι v x') := by
  unfold loadL at h
  cases g with
  | true => simp at h; subst h; exact .val (.agg ha)
  | false =>
    match cs, ha with
    | [], _ => simp at hl
    | [x], .cons hx .nil => simp at h; subst h; exact ⟨_, rfl, .val (.cell hx)⟩
    | _ :: _ :: _, _ => simp at hl
theorem ptr_inv {ι : Emb} {p : Addr} {v' : Value} (h : VR ι (.pointer (some p)) v') : p.spot = none ∧ ∃ b d e, ι p.block = some (b, d, e) ∧ v' = .pointer (some ⟨b, d + p.off, none⟩) := by
  cases h with
  | val h => cases h with
    | cell h => cases h with
      | atom h => cases h with
        | ptr o h => exact ⟨rfl, _, _, _, h, rfl⟩
theorem run_loadVar_of {P : Program} {w : World} {t : TypeId} {g : Bool} {s : Nat} {a : Addr} (hg : aggOf P t = some g) (hs : szOf P t = some s) {cs' : List Value}
    (hl : cs'.length = s) (h : ∀ j v, cs'[j]? = some v → w.cell? (a.add j) = some v) (v' : Value) (hv : if g then v' = .agg ⟨cs'⟩ else cs' = [v']) :
    (loadVar t a).run P w = .ok v' w := by
  subst hl
  cases g with
  | true =>
    simp at hv; subst hv
    simp [loadVar, r_agg hg, r_size hs, run_loadCells_list w a cs' h]
  | false =>
    simp at hv; subst hv
    have h0 := h 0 v' rfl
    simp [Addr.add] at h0
    simp [loadVar, r_agg hg, h0]
/- ===== operation by operation ===== -/
section
variable {P : Program} {ι : Emb} {H H' : Heap} {w : World} {ev ρ : Operand → Value} {v : Value} {dst : Option Tmp} {ty : TypeId} {pos : String} {after : Array Edge} {guard : Option (Nat × Bool)}
theorem bind_some {α β : Type} {x : Option α} {f : α → Option β} {b : β} (h : x.bind f = some b) : ∃ a, x = some a ∧ f a = some b := by
  cases x with
  | none => cases h
  | some a => exact ⟨a, rfl, h⟩
theorem s_load {t : TypeId} {a : Operand} {g : Bool} {s : Nat} (hg : aggOf P t = some g) (hs : szOf P t = some s) (h1 : g = true ∨ s = 1)
    (he : aop ev H (.load g s a) = some (v, H')) (ha : VR ι (ev a) (ρ a)) (hr : ReadOk P ι H w (readsOf ev (.load g s a))) :
    Small P ι H w (execOp ρ ⟨dst, .load t a, ty, pos, after, guard⟩) v H' := by
  simp only [aop] at he
  simp only [readsOf] at hr
  cases hv : ev a with
  | pointer p =>
    cases p with
    | none => simp [hv] at he
    | some p =>
      simp only [hv] at he hr ha
      obtain ⟨hsp, b, d, e, hb, hρ⟩ := ptr_inv ha
      obtain ⟨cs, hc, he⟩ := bind_some he
      obtain ⟨v1, hl, he⟩ := bind_some he
      cases he
      obtain ⟨b', d', e', hb', hlen, cs', hA, hcell⟩ := readCells_ok hc (hr.1 p.block (by simp))
      rw [hb] at hb'; cases hb'
      have hl' := loadL_ok hl hA (fun hgf => by rcases h1 with h1 | h1 <;> simp_all)
      have hlen' : cs'.length = s := hA.length.symm.trans hlen
      have key : ∀ v', (if g then v' = Value.agg ⟨cs'⟩ else cs' = [v']) → Sem.run P (execOp ρ ⟨dst, .load t a, ty, pos, after, guard⟩) w = .ok (.value v') w := by
        intro v' hv'
        simp only [execOp, Instr.loadAt, hρ, Instr.sureAddr]
        have := run_loadVar_of (w := w) (a := ⟨b, d + p.off, none⟩) hg hs hlen' (fun j v hj => by
          have := hcell j v hj
          unfold Addr.add; split
          · rename_i h0; subst h0; simpa using this
          · exact this) v' hv'
        simp [this]
      cases g with
      | true => exact .pure (key (.agg ⟨cs'⟩) (by simp)) (by simpa using hl')
      | false =>
        simp at hl'
        obtain ⟨x', e1, e2⟩ := hl'
        exact .pure (key x' (by simpa using e1)) e2
  | _ => simp [hv] at he
theorem addr_add (b o n : Nat) : Addr.add ⟨b, o, none⟩ n = ⟨b, o + n, none⟩ := by
  unfold Addr.add; split
  · rename_i h; simp [h]
  · rfl
theorem s_move {x : Operand} (he : aop ev H (.move x) = some (v, H')) (ha : VR ι (ev x) (ρ x)) :
    Small P ι H w (execOp ρ ⟨dst, .move x, ty, pos, after, guard⟩) v H' ∧ Small P ι H w (execOp ρ ⟨dst, .assign x, ty, pos, after, guard⟩) v H' := by
  simp only [aop] at he; cases he
  exact ⟨.pure (v' := ρ x) (by simp [execOp]) ha, .pure (v' := ρ x) (by simp [execOp]) ha⟩
theorem bool_inv {b : Bool} {v' : Value} (h : VR ι (.bool b) v') : v' = .bool b := by
  cases h with
  | val h => cases h with
    | cell h => cases h with
      | atom h => cases h; rfl
theorem int_inv {k : IntKind} {n : Int} {v' : Value} (h : VR ι (.int k n) v') : v' = .int k n := by
  cases h with
  | val h => cases h with
    | cell h => cases h with
      | atom h => cases h; rfl
theorem str_inv {s : ByteArray} {v' : Value} (h : VR ι (.string s) v') : v' = .string s := by
  cases h with
  | val h => cases h with
    | cell h => cases h with
      | atom h => cases h; rfl
theorem agg_inv {cs : Array Value} {v' : Value} (h : VR ι (.agg cs) v') : ∃ cs', v' = .agg ⟨cs'⟩ ∧ All2 (CellR ι) cs.toList cs' := by
  cases h with
  | val h => cases h with
    | cell h => cases h with
      | atom h => cases h
    | agg h => exact ⟨_, rfl, h⟩
theorem tuple_inv {cs : Array Value} {v' : Value} (h : VR ι (.tuple cs) v') : ∃ cs', v' = .tuple ⟨cs'⟩ ∧ All2 (ValR ι) cs.toList cs' := by
  cases h with
  | val h => cases h with
    | cell h => cases h with
      | atom h => cases h
  | tuple h => exact ⟨_, rfl, h⟩
theorem slice_inv {p : Addr} {n c : Nat} {v' : Value} (h : VR ι (.slice (some p) n c) v') : ∃ b d e a' c', ι p.block = some (b, d, e) ∧ v' = .slice (some a') n c' ∧
    c' = (match p.spot with | some _ => c | none => c + e) ∧ (a' = ⟨b, d + p.off, none⟩ ∨ (n = 0 ∧ c' = 0)) := by
  cases h with
  | val h => cases h with
    | cell h => cases h with
      | atom h => cases h with
        | slice o sp n c a' c' h1 h2 h3 => exact ⟨_, _, _, _, _, h1, rfl, h2, h3⟩
theorem nils_inv {n c : Nat} {v' : Value} (h : VR ι (.slice none n c) v') : n = 0 ∧ c = 0 ∧ v' = .slice none 0 0 := by
  cases h with
  | val h => cases h with
    | cell h => cases h with
      | atom h => cases h; exact ⟨rfl, rfl, rfl⟩
theorem nilp_inv {v' : Value} (h : VR ι (.pointer none) v') : v' = .pointer none := by
  cases h with
  | val h => cases h with
    | cell h => cases h with
      | atom h => cases h; rfl
theorem nilm_inv {v' : Value} (h : VR ι (.map none) v') : v' = .map none := by
  cases h with
  | val h => cases h with
    | cell h => cases h with
      | atom h => cases h; rfl
theorem map_inv {r : Nat} {v' : Value} (h : VR ι (.map (some r)) v') : ∃ b d e, ι r = some (b, d, e) ∧ v' = .map (some b) := by
  cases h with
  | val h => cases h with
    | cell h => cases h with
      | atom h => cases h with
        | map h => exact ⟨_, _, _, h, rfl⟩
theorem nilf_inv {v' : Value} (h : VR ι .nilFunc v') : v' = .nilFunc := by
  cases h with
  | val h => cases h with
    | cell h => cases h with
      | atom h => cases h; rfl
theorem func_inv {fn : Fn} {f c : Array Value} {v' : Value} (h : VR ι (.func fn f c) v') : ∃ fn' f' c', v' = .func fn' f' c' := by
  cases h with
  | val h => cases h with
    | cell h => cases h with
      | atom h => cases h; exact ⟨_, _, _, rfl⟩
      | fn => exact ⟨_, _, _, rfl⟩
theorem s_pick {c a b : Operand} (he : aop ev H (.pick c a b) = some (v, H')) (hc : VR ι (ev c) (ρ c)) (ha : VR ι (ev a) (ρ a)) (hb : VR ι (ev b) (ρ b)) :
    Small P ι H w (execOp ρ ⟨dst, .pick c a b, ty, pos, after, guard⟩) v H' := by
  simp only [aop] at he
  cases hv : ev c with
  | bool t =>
    simp only [hv] at he hc; cases he
    have e := bool_inv hc
    cases t
    · exact .pure (v' := ρ b) (by simp [execOp, e, asBool]) hb
    · exact .pure (v' := ρ a) (by simp [execOp, e, asBool]) ha
  | _ => simp [hv] at he
theorem s_nilCheck {x : Operand} (he : aop ev H (.nilCheck x) = some (v, H')) (ha : VR ι (ev x) (ρ x)) :
    Small P ι H w (execOp ρ ⟨dst, .nilCheck x, ty, pos, after, guard⟩) v H' := by
  simp only [aop] at he
  cases hv : ev x with
  | pointer p =>
    cases p with
    | none => simp [hv] at he
    | some p =>
      simp only [hv] at he ha; cases he
      obtain ⟨hsp, b, d, e, hb, hρ⟩ := ptr_inv ha
      exact .pure (v' := ρ x) (by simp [execOp, hρ]) ha
  | _ => simp [hv] at he
theorem pureV_eq {s : Sem Value} {v : Value} (h : pureV s = some v) : s = .pure v := by
  cases s <;> simp [pureV] at h
  subst h; rfl
theorem binOp_plain {op : BinOp} {t : TypeId} {j k : IntKind} {a b : Int} {v : Value} (h : pureV (binOp op 0 (.int j a) (.int k b)) = some v) :
    binOp op t (.int j a) (.int k b) = Sem.pure v ∧ (∃ i n, v = .int i n) ∨ binOp op t (.int j a) (.int k b) = Sem.pure v ∧ (∃ x, v = .bool x) := by
  have e : binOp op t (.int j a) (.int k b) = binOp op 0 (.int j a) (.int k b) := by cases op <;> rfl
  rw [e]
  have h1 := pureV_eq h
  rw [h1]
  unfold binOp at h1
  cases op <;> simp only at h1
  all_goals
    first
    | (unfold Op.shift at h1; split at h1
       · simp [runtimePanic, program] at h1; cases h1
       · simp [pure] at h1; subst h1; exact .inl ⟨rfl, _, _, rfl⟩)
    | (split at h1
       · cases h1
       · simp only [Op.intArith, Op.intDiv, Op.intBits, Op.intCmp, pure] at h1
         first
         | (cases h1; exact .inl ⟨rfl, _, _, rfl⟩)
         | (cases h1; exact .inr ⟨rfl, _, rfl⟩)
         | (split at h1
            · simp [runtimePanic, program] at h1; cases h1
            · cases h1; exact .inl ⟨rfl, _, _, rfl⟩))
theorem s_bin {op : BinOp} {t yt : TypeId} {x y : Operand} (he : aop ev H (.bin op x y) = some (v, H')) (hx : VR ι (ev x) (ρ x)) (hy : VR ι (ev y) (ρ y)) :
    Small P ι H w (execOp ρ ⟨dst, .binOp op t x y yt, ty, pos, after, guard⟩) v H' := by
  simp only [aop] at he
  cases hvx : ev x with
  | int j a =>
    cases hvy : ev y with
    | int k b =>
      simp only [hvx, hvy] at he hx hy
      have ex := int_inv hx
      have ey := int_inv hy
      cases hp : pureV (binOp op 0 (.int j a) (.int k b)) with
      | none => simp [hp] at he
      | some u =>
        simp only [hp, Option.map_some, Option.some.injEq, Prod.mk.injEq] at he
        obtain ⟨rfl, rfl⟩ := he
        have hq := binOp_plain (t := t) hp
        have hg : (eqGuard op t x y (.int j a) (.int k b)).run P w = .ok () w := by
          unfold eqGuard; split <;> rfl
        rcases hq with ⟨hq, i, n, rfl⟩ | ⟨hq, b', rfl⟩
        · exact .pure (v' := .int i n) (by simp [execOp, ex, ey, hg, hq]) (.atom (.int _ _))
        · exact .pure (v' := .bool b') (by simp [execOp, ex, ey, hg, hq]) (.atom (.bool _))
    | _ => simp [hvx, hvy] at he
  | _ => simp [hvx] at he
theorem s_un {op : UnOp} {t : TypeId} {x : Operand} (he : aop ev H (.un op x) = some (v, H')) (hx : VR ι (ev x) (ρ x)) :
    Small P ι H w (execOp ρ ⟨dst, .unOp op t x, ty, pos, after, guard⟩) v H' := by
  simp only [aop] at he
  cases hvx : ev x with
  | int k n =>
    simp only [hvx] at he hx
    have ex := int_inv hx
    cases hp : pureV (Op.unary op (.int k n)) with
    | none => simp [hp] at he
    | some u =>
      simp only [hp, Option.map_some, Option.some.injEq, Prod.mk.injEq] at he
      obtain ⟨rfl, rfl⟩ := he
      have hq := pureV_eq hp
      have hu : ∃ i m, u = .int i m := by
        cases op <;> simp [Op.unary, Op.intArith, Op.intBits, pure, stuck] at hq <;> (try cases hq) <;> exact ⟨_, _, rfl⟩
      obtain ⟨i, m, rfl⟩ := hu
      exact .pure (v' := .int i m) (by simp [execOp, ex, hq]) (.atom (.int _ _))
  | bool b =>
    simp only [hvx] at he hx
    have ex := bool_inv hx
    cases hp : pureV (Op.unary op (.bool b)) with
    | none => simp [hp] at he
    | some u =>
      simp only [hp, Option.map_some, Option.some.injEq, Prod.mk.injEq] at he
      obtain ⟨rfl, rfl⟩ := he
      have hq := pureV_eq hp
      have hu : ∃ i, u = .bool i := by
        cases op <;> simp [Op.unary, pure, stuck] at hq <;> (try cases hq) <;> exact ⟨_, rfl⟩
      obtain ⟨i, rfl⟩ := hu
      exact .pure (v' := .bool i) (by simp [execOp, ex, hq]) (.atom (.bool _))
  | _ => simp [hvx] at he
theorem kindOf_und {t : TypeId} {k : IntKind} (h : kindOf P t = some k) : P.underlying t = some (.int k) := by
  unfold kindOf at h; split at h <;> simp_all
theorem s_conv {s d : TypeId} {x : Operand} {k0 k : IntKind} (hs : kindOf P s = some k0) (hd : kindOf P d = some k)
    (he : aop ev H (.conv k x) = some (v, H')) (hx : VR ι (ev x) (ρ x)) :
    Small P ι H w (execOp ρ ⟨dst, .convert s d x, ty, pos, after, guard⟩) v H' := by
  simp only [aop] at he
  cases hvx : ev x with
  | int j n =>
    simp only [hvx] at he hx; cases he
    have ex := int_inv hx
    exact .pure (v' := .int k (k.wrap n)) (by simp [execOp, ex, convert, r_und (kindOf_und hs), r_und (kindOf_und hd), Conv.intToInt]) (.atom (.int _ _))
  | _ => simp [hvx] at he
theorem s_toStr {s d : TypeId} {x : Operand} (hf : fromBytes P s d = true) (he : aop ev H (.toStr x) = some (v, H')) (hx : VR ι (ev x) (ρ x)) (hr : ReadOk P ι H w (readsOf ev (.toStr x))) :
    Small P ι H w (execOp ρ ⟨dst, .convert s d x, ty, pos, after, guard⟩) v H' := by
  unfold fromBytes at hf
  split at hf
  · rename_i e hs hd
    split at hf
    · rename_i hu
      simp only [aop] at he
      simp only [readsOf] at hr
      cases hv : ev x with
      | slice p n c =>
        cases p with
        | none =>
          simp only [hv] at he hx; cases he
          have ex : ∃ n' c', ρ x = .slice none n' c' := by
            generalize ρ x = y at hx
            cases hx with
            | val h => cases h with
              | cell h => cases h with
                | atom h => cases h; exact ⟨_, _, rfl⟩
          obtain ⟨n', c', ex⟩ := ex
          exact .pure (v' := .string .empty) (by simp [execOp, ex, convert, r_und hs, r_und hd, r_und hu, Conv.bytesToString]) (.atom (.str _))
        | some p =>
          simp only [hv] at he hx hr
          cases hcs : readCells H p.block p.off n with
          | none => simp [hcs] at he
          | some cs =>
            simp only [hcs] at he
            cases hns : u8s cs with
            | none => simp [hns] at he
            | some ns =>
              simp only [hns] at he; cases he
              obtain ⟨b, d', e', o', c', hb, ex, hc', ho⟩ := slice_inv hx
              obtain ⟨b2, d2, e2, hb2, hlen, cs', hA, hcell⟩ := readCells_ok hcs (hr.1 p.block (by simp))
              rw [hb] at hb2; cases hb2
              have hcs' : cs' = ns.map (Value.int .u8) := by
                clear hcs hcell hlen
                induction hA generalizing ns with
                | nil => simp [u8s] at hns; subst hns; rfl
                | @cons v v' vs vs' h1 _ ih =>
                  unfold u8s at hns
                  split at hns
                  · rename_i heq; cases heq
                  · rename_i m rest heq
                    cases heq
                    cases hr2 : u8s vs with
                    | none => simp [hr2] at hns
                    | some ms =>
                      simp only [hr2, Option.some.injEq] at hns; subst hns
                      have : v' = .int .u8 m := by
                        cases h1 with
                        | atom h => cases h; rfl
                      rw [this, ih ms hr2]; rfl
                  · cases hns
              have hlen' : cs'.length = n := hA.length.symm.trans hlen
              have hload : (loadCells o' n).run P w = .ok (ns.map (Value.int .u8)).toArray w := by
                rw [← hlen', ← hcs']
                refine run_loadCells_list w _ cs' ?_
                intro j v hj
                rcases ho with ho | ⟨ho, _⟩
                · subst ho
                  have := hcell j v hj
                  unfold Addr.add; split
                  · rename_i h0; subst h0; simpa using this
                  · exact this
                · rw [ho] at hlen'
                  have : cs' = [] := List.eq_nil_of_length_eq_zero hlen'
                  rw [this] at hj; simp at hj
              have hfold : ∀ (ns : List Int) (r : ByteArray), ns.foldl (fun (r : ByteArray) n => r.push (UInt8.ofNat n.toNat)) r = ⟨⟨r.data.toList ++ ns.map fun n => UInt8.ofNat n.toNat⟩⟩ := by
                intro ns
                induction ns with
                | nil => intro r; simp
                | cons m ns ih =>
                  intro r
                  rw [List.foldl_cons, ih]
                  simp [ByteArray.push]
              have hrun := run_bytesToString w o' n c' ns hload
              have hstr : ns.foldl (fun (r : ByteArray) n => r.push (UInt8.ofNat n.toNat)) ByteArray.empty = strOfInts ns := by
                rw [hfold]; rfl
              rw [hstr] at hrun
              refine .pure (v' := .string (strOfInts ns)) ?_ (.atom (.str _))
              simp only [execOp, ex, convert, Sem.run_bind, r_und hs, r_und hd, Result.andThen_ok, r_und hu, hrun, Sem.run_pure]
      | _ => simp [hv] at he
    · cases hf
  · cases hf
theorem s_bins {op : BinOp} {t yt : TypeId} {x y : Operand} (he : aop ev H (.bins op x y) = some (v, H')) (hx : VR ι (ev x) (ρ x)) (hy : VR ι (ev y) (ρ y)) :
    Small P ι H w (execOp ρ ⟨dst, .binOp op t x y yt, ty, pos, after, guard⟩) v H' := by
  simp only [aop] at he
  have str_inv : ∀ {s : ByteArray} {z : Value}, VR ι (.string s) z → z = .string s := by
    intro s z h
    cases h with
    | val h => cases h with
      | cell h => cases h with
        | atom h => cases h; rfl
  cases hvx : ev x with
  | string a =>
    cases hvy : ev y with
    | string b =>
      simp only [hvx, hvy] at he hx hy
      have ex := str_inv hx
      have ey := str_inv hy
      cases hp : strOp op a b with
      | none => simp [hp] at he
      | some u =>
        simp only [hp, Option.map_some, Option.some.injEq, Prod.mk.injEq] at he
        obtain ⟨rfl, rfl⟩ := he
        have hg : (eqGuard op t x y (.string a) (.string b)).run P w = .ok () w := by
          unfold eqGuard; split <;> rfl
        unfold strOp at hp
        split at hp
        · cases hp
          exact .pure (v' := .bool (a.data.toList == b.data.toList)) (by simp [execOp, ex, ey, hg, binOp, Op.stringOp, ByteArray.toList_eq]) (.atom (.bool _))
        · cases hp
          exact .pure (v' := .bool (!(a.data.toList == b.data.toList))) (by simp [execOp, ex, ey, hg, binOp, Op.stringOp, ByteArray.toList_eq]) (.atom (.bool _))
        · cases hl : Nat.ble (a.data.toList.length + b.data.toList.length) 1000000000 with
          | false => rw [hl] at hp; cases hp
          | true =>
            rw [hl] at hp; cases hp
            have hle := Nat.le_of_ble_eq_true hl
            have hab : a ++ b = ⟨⟨a.data.toList ++ b.data.toList⟩⟩ := by
              apply ByteArray.ext
              apply Array.ext'
              simp
            have hsz : ¬ (((a.size + b.size : Nat) : Int) > IntKind.i64.max) := by
              have h1 : a.size = a.data.toList.length := by simp
              have h2 : b.size = b.data.toList.length := by simp
              rw [h1, h2]
              simp only [IntKind.max, IntKind.signed, IntKind.bits]
              simp
              simp at hle
              omega
            refine .pure (v' := .string ⟨⟨a.data.toList ++ b.data.toList⟩⟩) ?_ (.atom (.str _))
            have hrun : (binOp .add t (.string a) (.string b)).run P w = .ok (.string ⟨⟨a.data.toList ++ b.data.toList⟩⟩) w := by
              show (Op.stringOp .add a b).run P w = _
              unfold Op.stringOp
              simp only [if_neg hsz, hab, Sem.run_pure]
            simp [execOp, ex, ey, hg, hrun]
        · cases hp
    | _ => simp [hvx, hvy] at he
  | _ => simp [hvx] at he
theorem s_fieldAddr {t : TypeId} {x : Operand} {i : Nat} {fs : Array Field} {f : Field} {s : Nat} (hu : P.underlying t = some (.struct fs)) (hf : fs[i]? = some f) (hs : szOf P f.type = some s) (h0 : s ≠ 0)
    (he : aop ev H (.fieldAddr f.offset x) = some (v, H')) (hx : VR ι (ev x) (ρ x)) :
    Small P ι H w (execOp ρ ⟨dst, .fieldAddr t x i, ty, pos, after, guard⟩) v H' := by
  simp only [aop] at he
  cases hv : ev x with
  | pointer p =>
    cases p with
    | none => simp [hv] at he
    | some p =>
      simp only [hv] at he hx; cases he
      obtain ⟨hsp, b, d, e, hb, hρ⟩ := ptr_inv hx
      refine .pure (v' := .pointer (some ⟨b, d + (p.off + f.offset), none⟩)) ?_ (.atom (.ptr _ hb))
      simp only [execOp, Instr.fieldAt, hρ]
      simp [r_und hu, hf, Instr.sureAddr, fieldPlace, r_size hs, h0, addr_add]
      omega
  | _ => simp [hv] at he
theorem natIn_ok {v : Value} {hi k : Nat} (h : natIn v hi = some k) : ∃ j, v = .int j (Int.ofNat k) ∧ k ≤ hi := by
  unfold natIn at h
  split at h
  · rename_i j n
    cases n with
    | ofNat m =>
      simp only at h
      cases hb : Nat.ble m hi with
      | true => rw [hb] at h; cases h; exact ⟨_, rfl, Nat.le_of_ble_eq_true hb⟩
      | false => rw [hb] at h; cases h
    | negSucc m => cases h
  · cases h
theorem s_idxSlice {t e0 : TypeId} {x i : Operand} {s : Nat} (hu : P.underlying t = some (.slice e0)) (hs : szOf P e0 = some s)
    (he : aop ev H (.idxSlice s x i) = some (v, H')) (hx : VR ι (ev x) (ρ x)) (hi : VR ι (ev i) (ρ i)) :
    Small P ι H w (execOp ρ ⟨dst, .indexAddr t x i, ty, pos, after, guard⟩) v H' := by
  simp only [aop] at he
  cases hv : ev x with
  | slice p n c =>
    cases p with
    | none => simp [hv] at he
    | some p =>
      simp only [hv] at he hx
      cases hn : natIn (ev i) n with
      | none => simp [hn] at he
      | some k =>
        simp only [hn] at he
        cases hb : Nat.blt k n with
        | false => simp [hb] at he
        | true =>
          simp only [hb, cond_true, Option.some.injEq, Prod.mk.injEq] at he
          obtain ⟨rfl, rfl⟩ := he
          have hlt : k < n := Nat.le_of_ble_eq_true hb
          obtain ⟨j, hj, _⟩ := natIn_ok hn
          rw [hj] at hi
          have ei := int_inv hi
          obtain ⟨b, d, e, o', c', h1, h2, h3, h4⟩ := slice_inv hx
          have ho : o' = ⟨b, d + p.off, none⟩ := h4.resolve_right (by omega)
          subst ho
          refine .pure (v' := .pointer (some ⟨b, d + (p.off + k * s), none⟩)) ?_ (.atom (.ptr _ h1))
          simp only [execOp, Instr.indexAt, h2, ei]
          simp [asIntOf, r_und hu, r_size hs, hlt, addr_add]
          omega
  | _ => simp [hv] at he
theorem s_idxArr {t e0 : TypeId} {x i : Operand} {n s : Nat} (hu : P.underlying t = some (.array n e0)) (hs : szOf P e0 = some s)
    (he : aop ev H (.idxArr n s x i) = some (v, H')) (hx : VR ι (ev x) (ρ x)) (hi : VR ι (ev i) (ρ i)) :
    Small P ι H w (execOp ρ ⟨dst, .indexAddr t x i, ty, pos, after, guard⟩) v H' := by
  simp only [aop] at he
  cases hv : ev x with
  | pointer p =>
    cases p with
    | none => simp [hv] at he
    | some p =>
      simp only [hv] at he hx
      cases hn : natIn (ev i) n with
      | none => simp [hn] at he
      | some k =>
        simp only [hn] at he
        cases hb : Nat.blt k n with
        | false => simp [hb] at he
        | true =>
          simp only [hb, cond_true, Option.some.injEq, Prod.mk.injEq] at he
          obtain ⟨rfl, rfl⟩ := he
          have hlt : k < n := Nat.le_of_ble_eq_true hb
          obtain ⟨j, hj, _⟩ := natIn_ok hn
          rw [hj] at hi
          have ei := int_inv hi
          obtain ⟨hsp, b, d, e, h1, h2⟩ := ptr_inv hx
          refine .pure (v' := .pointer (some ⟨b, d + (p.off + k * s), none⟩)) ?_ (.atom (.ptr _ h1))
          simp only [execOp, Instr.indexAt, h2, ei]
          simp [asIntOf, r_und hu, r_size hs, hlt, addr_add, Instr.sureAddr]
          omega
  | _ => simp [hv] at he
theorem s_extract {x : Operand} {i : Nat} (he : aop ev H (.extract x i) = some (v, H')) (hx : VR ι (ev x) (ρ x)) :
    Small P ι H w (execOp ρ ⟨dst, .extract x i, ty, pos, after, guard⟩) v H' := by
  simp only [aop] at he
  cases hv : ev x with
  | tuple vs =>
    simp only [hv] at he hx
    cases hn : vs.toList[i]? with
    | none => simp [hn] at he
    | some u =>
      simp only [hn] at he; cases he
      obtain ⟨cs', e1, e2⟩ := tuple_inv hx
      obtain ⟨u', e3, e4⟩ := e2.get hn
      refine .pure (v' := u') ?_ (.val e4)
      simp [execOp, Instr.extract, e1, e3]
  | _ => simp [hv] at he
end
end Go.Proofs.YtdlfdieehioolaaDoor
