/- The operations that read and make, but turn nothing: parts, lengths, maps read, what is made. -/
import Derived.Test.YtdlfdieehioolaaDoorOps4
import Derived.Carry
namespace Go.Proofs.YtdlfdieehioolaaDoor
open Go
set_option linter.unusedVariables false
set_option linter.unusedSimpArgs false
section
variable {P : Program} {ι : Emb} {H H' : Heap} {w : World} {ev ρ : Operand → Value} {v : Value} {dst : Option Tmp} {ty : TypeId} {pos : String} {after : Array Edge} {guard : Option (Nat × Bool)}
theorem s_sliceArr {t e0 : TypeId} {x : Operand} {lo hi : Option Operand} {n s : Nat} (hu : P.underlying t = some (.array n e0)) (hs : szOf P e0 = some s)
    (he : aop ev H (.sliceArr n s x lo hi none) = some (v, H')) (hx : VR ι (ev x) (ρ x))
    (hlo : ∀ x, lo = some x → VR ι (ev x) (ρ x)) (hhi : ∀ x, hi = some x → VR ι (ev x) (ρ x)) :
    Small P ι H w (execOp ρ ⟨dst, .slice t x lo hi none, ty, pos, after, guard⟩) v H' := by
  simp only [aop] at he
  cases hv : ev x with
  | pointer p =>
    cases p with
    | none => simp [hv] at he
    | some p =>
      simp only [hv] at he hx
      obtain ⟨⟨l, h, m⟩, hb, he⟩ := bind_some he
      cases he
      obtain ⟨hsp, b, d, e, hb1, ex⟩ := ptr_inv hx
      obtain ⟨hrun, h1, h2, h3, h4⟩ := bnds_ok (P := P) (w := w) (isS := false) (mx := none) (c' := n) hb hlo hhi (fun _ h => by cases h) (Nat.le_refl _)
      have := h4 rfl; subst this
      simp only [Option.map_none, Option.isSome_none, Bool.false_eq_true, if_false] at hrun
      refine .pure (v' := .slice (some (if m = l then ⟨b, d + p.off, none⟩ else ⟨b, d + p.off + l * s, none⟩)) (h - l) (m - l)) ?_ ?_
      · simp only [execOp, Instr.sliceAt, Sem.run_bind, r_und hu, Result.andThen_ok, ex, Instr.sureAddr, hrun, r_size hs, Sem.run_pure, Option.map_none, addr_add]
      · by_cases hml : m = l
        · rw [if_pos hml]
          exact .atom (.slice _ _ _ _ _ _ hb1 rfl (.inr ⟨by show h - l = 0; omega, by show m - l = 0; omega⟩))
        · rw [if_neg hml]
          exact .atom (.slice _ _ _ _ _ _ hb1 rfl (.inl (by show (⟨b, d + p.off + l * s, none⟩ : Addr) = ⟨b, d + (p.off + l * s), none⟩; rw [Nat.add_assoc])))
  | _ => simp [hv] at he
theorem part_ok {t : TypeId} {g : Bool} {s off : Nat} {cs cs' : List Value} (hg : aggOf P t = some g) (hs : szOf P t = some s) (h1 : g = true ∨ s = 1) (hA : All2 (CellR ι) cs cs')
    (hle : off + s ≤ cs.length) (hl : loadL g s ((cs.drop off).take s) = some v) : ∃ v', (part t ⟨cs'⟩ off).run P w = .ok v' w ∧ VR ι v v' := by
  obtain ⟨v', hr, g', hg', hv⟩ := run_part_of (P := P) (cs := cs') w hs ⟨g, hg, h1⟩ (by rw [← hA.length]; exact hle)
  rw [hg] at hg'; cases hg'
  have hl' := loadL_ok hl ((hA.drop off).take s) (fun hgf => by rcases h1 with h1 | h1 <;> simp_all; omega)
  refine ⟨v', hr, ?_⟩
  cases g with
  | true => simp at hv hl'; rw [hv]; exact hl'
  | false =>
    simp at hv hl'
    obtain ⟨x', e1, e2⟩ := hl'
    rw [e1] at hv; cases hv; exact e2
theorem s_field {t : TypeId} {x : Operand} {i : Nat} {fs : Array Field} {f : Field} {s : Nat} {g : Bool} (hu : P.underlying t = some (.struct fs)) (hf : fs[i]? = some f) (hs : szOf P f.type = some s) (hg : aggOf P f.type = some g)
    (h1 : g = true ∨ s = 1) (he : aop ev H (.field g f.offset s x) = some (v, H')) (hx : VR ι (ev x) (ρ x)) :
    Small P ι H w (execOp ρ ⟨dst, .field t x i, ty, pos, after, guard⟩) v H' := by
  simp only [aop] at he
  cases hv : ev x with
  | agg cs =>
    simp only [hv] at he hx
    cases hle : Nat.ble (f.offset + s) cs.toList.length with
    | false => rw [hle] at he; cases he
    | true =>
      simp only [hle, cond_true] at he
      cases hl : loadL g s ((cs.toList.drop f.offset).take s) with
      | none => simp [hl] at he
      | some u =>
        simp only [hl, Option.map_some, Option.some.injEq, Prod.mk.injEq] at he
        obtain ⟨rfl, rfl⟩ := he
        obtain ⟨cs', ex, hA⟩ := agg_inv hx
        obtain ⟨v', hr, hvr⟩ := part_ok (P := P) (w := w) hg hs h1 hA (Nat.le_of_ble_eq_true hle) hl
        exact .pure (v' := v') (by simp [execOp, Instr.field, r_und hu, hf, ex, asAgg, hr]) hvr
  | _ => simp [hv] at he
theorem s_index {t e0 : TypeId} {x i : Operand} {n s : Nat} {g : Bool} (hu : P.underlying t = some (.array n e0)) (hs : szOf P e0 = some s) (hg : aggOf P e0 = some g)
    (h1 : g = true ∨ s = 1) (he : aop ev H (.index g n s x i) = some (v, H')) (hx : VR ι (ev x) (ρ x)) (hi : VR ι (ev i) (ρ i)) :
    Small P ι H w (execOp ρ ⟨dst, .index t x i, ty, pos, after, guard⟩) v H' := by
  simp only [aop] at he
  cases hv : ev x with
  | agg cs =>
    simp only [hv] at he hx
    cases hn : natIn (ev i) n with
    | none => simp [hn] at he
    | some k =>
      simp only [hn] at he
      cases hb : Nat.blt k n && Nat.ble (k * s + s) cs.toList.length with
      | false => rw [hb] at he; cases he
      | true =>
        simp only [hb, cond_true] at he
        simp only [Bool.and_eq_true] at hb
        have hlt : k < n := Nat.le_of_ble_eq_true hb.1
        have hle := Nat.le_of_ble_eq_true hb.2
        cases hl : loadL g s ((cs.toList.drop (k * s)).take s) with
        | none => simp [hl] at he
        | some u =>
          simp only [hl, Option.map_some, Option.some.injEq, Prod.mk.injEq] at he
          obtain ⟨rfl, rfl⟩ := he
          obtain ⟨j, hj, _⟩ := natIn_ok hn
          rw [hj] at hi
          have ei := int_inv hi
          obtain ⟨cs', ex, hA⟩ := agg_inv hx
          obtain ⟨v', hr, hvr⟩ := part_ok (P := P) (w := w) hg hs h1 hA hle hl
          exact .pure (v' := v') (by simp [execOp, Instr.index, asIntOf, ei, r_und hu, ex, hlt, r_size hs, hr]) hvr
  | _ => simp [hv] at he
theorem s_indexStr {t : TypeId} {x i : Operand} (hu : P.underlying t = some .string) (he : aop ev H (.indexStr x i) = some (v, H')) (hx : VR ι (ev x) (ρ x)) (hi : VR ι (ev i) (ρ i)) :
    Small P ι H w (execOp ρ ⟨dst, .index t x i, ty, pos, after, guard⟩) v H' := by
  simp only [aop] at he
  cases hv : ev x with
  | string str =>
    simp only [hv] at he hx
    cases hn : natIn (ev i) str.size with
    | none => simp [hn] at he
    | some k =>
      simp only [hn] at he
      cases hb : str[k]? with
      | none => simp [hb] at he
      | some b =>
        simp only [hb, Option.some.injEq, Prod.mk.injEq] at he
        obtain ⟨rfl, rfl⟩ := he
        obtain ⟨j, hj, _⟩ := natIn_ok hn
        rw [hj] at hi
        have ei := int_inv hi
        have ex := str_inv hx
        exact .pure (v' := .int .u8 b.toNat) (by simp [execOp, Instr.index, asIntOf, ei, r_und hu, ex, hb]) (.atom (.int _ _))
  | _ => simp [hv] at he
/- ===== lengths ===== -/
theorem s_lenS {t e : TypeId} {x : Operand} (hu : P.underlying t = some (.slice e)) (he : aop ev H (.lenS x) = some (v, H')) (hx : VR ι (ev x) (ρ x)) :
    Small P ι H w (execOp ρ ⟨dst, .call ⟨.builtin .len, #[x], #[t]⟩, ty, pos, after, guard⟩) v H' := by
  simp only [aop] at he
  cases hv : ev x with
  | slice a n c =>
    simp only [hv] at he hx; cases he
    have : ∃ a' c', ρ x = .slice a' n c' := by
      cases a with
      | none => obtain ⟨rfl, rfl, ex⟩ := nils_inv hx; exact ⟨_, _, ex⟩
      | some p => obtain ⟨b, d, e, o', c', _, ex, _⟩ := slice_inv hx; exact ⟨_, _, ex⟩
    obtain ⟨a', c', ex⟩ := this
    exact .pure (v' := goInt n) (by simp [execOp, resolve, invoke, builtin, Builtin.len_, r_und hu, ex]) (.atom (.int _ _))
  | _ => simp [hv] at he
theorem s_lenStr {t : TypeId} {x : Operand} (hu : P.underlying t = some .string) (he : aop ev H (.lenStr x) = some (v, H')) (hx : VR ι (ev x) (ρ x)) :
    Small P ι H w (execOp ρ ⟨dst, .call ⟨.builtin .len, #[x], #[t]⟩, ty, pos, after, guard⟩) v H' := by
  simp only [aop] at he
  cases hv : ev x with
  | string s =>
    simp only [hv] at he hx; cases he
    have ex := str_inv hx
    exact .pure (v' := goInt s.size) (by simp [execOp, resolve, invoke, builtin, Builtin.len_, r_und hu, ex]) (.atom (.int _ _))
  | _ => simp [hv] at he
theorem s_lenC {t : TypeId} {x : Operand} {n : Nat} (hu : (∃ e, P.underlying t = some (.array n e)) ∨ ∃ a e, P.underlying t = some (.pointer a) ∧ P.underlying a = some (.array n e))
    (he : aop ev H (.lenC n) = some (v, H')) :
    Small P ι H w (execOp ρ ⟨dst, .call ⟨.builtin .len, #[x], #[t]⟩, ty, pos, after, guard⟩) v H' := by
  simp only [aop] at he; cases he
  refine .pure (v' := goInt n) ?_ (.atom (.int _ _))
  rcases hu with ⟨e, hu⟩ | ⟨a, e, hu, hu'⟩
  · simp [execOp, resolve, invoke, builtin, Builtin.len_, r_und hu]
  · simp [execOp, resolve, invoke, builtin, Builtin.len_, r_und hu, r_und hu']
theorem s_lenM {t k e : TypeId} {x : Operand} (hu : P.underlying t = some (.map k e)) (he : aop ev H (.lenM x) = some (v, H')) (hx : VR ι (ev x) (ρ x))
    (hr : ReadOk P ι H w (readsOf ev (.lenM x))) :
    Small P ι H w (execOp ρ ⟨dst, .call ⟨.builtin .len, #[x], #[t]⟩, ty, pos, after, guard⟩) v H' := by
  simp only [aop] at he
  simp only [readsOf] at hr
  cases hv : ev x with
  | map r =>
    simp only [hv] at he hx hr
    cases r with
    | none =>
      cases he
      have ex := nilm_inv hx
      exact .pure (v' := goInt 0) (by simp [execOp, resolve, invoke, builtin, Builtin.len_, r_und hu, ex]) (.atom (.int _ _))
    | some r =>
      simp only at he
      cases hg : H.get r with
      | none => simp [hg] at he
      | some o =>
        cases o with
        | map kvs =>
          simp only [hg] at he; cases he
          obtain ⟨b, d, e', c, h1, h2, h3⟩ := hr.1 r (by simp) _ hg
          obtain ⟨b', d', e'', h1', ex⟩ := map_inv hx
          rw [h1] at h1'; cases h1'
          cases c with
          | map es clock =>
            have hl : kvs.length = es.size := by have := h3.length; simpa using this
            refine .pure (v' := goInt kvs.length) ?_ (.atom (.int _ _))
            simp [execOp, resolve, invoke, builtin, Builtin.len_, r_und hu, ex, getObj, Sem.run, h2, hl]
          | _ => exact h3.elim
        | _ => simp [hg] at he
  | _ => simp [hv] at he
theorem s_capS {t e : TypeId} {x : Operand} (hu : P.underlying t = some (.slice e)) (he : aop ev H (.capS x) = some (v, H')) (hx : VR ι (ev x) (ρ x)) :
    Small P ι H w (execOp ρ ⟨dst, .call ⟨.builtin .cap, #[x], #[t]⟩, ty, pos, after, guard⟩) v H' := by
  simp only [aop] at he
  cases hv : ev x with
  | slice a n c =>
    simp only [hv] at he hx
    cases a with
    | none =>
      simp only at he; cases he
      obtain ⟨rfl, rfl, ex⟩ := nils_inv hx
      exact .pure (v' := goInt 0) (by simp [execOp, resolve, invoke, builtin, Builtin.cap_, r_und hu, ex]) (.atom (.int _ _))
    | some p =>
      simp only at he
      obtain ⟨b, d, e, o', c', _, ex, hc, _⟩ := slice_inv hx
      cases hs : p.spot with
      | none => simp [hs] at he
      | some q =>
        simp only [hs] at he hc; cases he
        subst hc
        exact .pure (v' := goInt c') (by simp [execOp, resolve, invoke, builtin, Builtin.cap_, r_und hu, ex]) (.atom (.int _ _))
  | _ => simp [hv] at he
theorem s_arrAt {t e : TypeId} {x : Operand} {n : Nat} (hu : P.underlying t = some (.array n e)) (he : aop ev H (.arrAt n x) = some (v, H')) (hx : VR ι (ev x) (ρ x)) :
    Small P ι H w (execOp ρ ⟨dst, .sliceToArrayPointer t x, ty, pos, after, guard⟩) v H' := by
  simp only [aop] at he
  cases hv : ev x with
  | slice a m c =>
    simp only [hv] at he hx
    cases a with
    | none => simp at he
    | some p =>
      simp only at he
      cases hb : Nat.ble n m && Nat.ble 1 n with
      | false => rw [hb] at he; cases he
      | true =>
        simp only [hb, cond_true] at he; cases he
        simp only [Bool.and_eq_true] at hb
        have h1 := Nat.le_of_ble_eq_true hb.1
        have h2 := Nat.le_of_ble_eq_true hb.2
        obtain ⟨b, d, e, o', c', hb1, ex, _, ho⟩ := slice_inv hx
        have ho' : o' = ⟨b, d + p.off, none⟩ := ho.resolve_right (by omega)
        subst ho'
        refine .pure (v' := .pointer (some ⟨b, d + p.off, none⟩)) ?_ (.atom (.ptr _ hb1))
        simp [execOp, Instr.arrayAt, r_und hu, ex]
        intro h; omega
  | _ => simp [hv] at he
theorem VR.isAtom {v v' : Value} (h : VR ι v v') (ha : Go.Proofs.YtdlfdieehioolaaDoor.isAtom v = true) : AtomR ι v v' := by
  cases h with
  | val h => cases h with
    | cell h => cases h with
      | atom h => exact h
      | fn => cases ha
    | agg h => cases ha
  | tuple h => cases ha
theorem s_makeFunc {f : Nat} {first captured : Array Operand} (he : aop ev H (.makeFunc f first.toList captured.toList) = some (v, H'))
    (hf : ∀ x ∈ first.toList, VR ι (ev x) (ρ x)) (hc : ∀ x ∈ captured.toList, VR ι (ev x) (ρ x)) :
    Small P ι H w (execOp ρ ⟨dst, .makeFunc (.func f) first captured, ty, pos, after, guard⟩) v H' := by
  simp only [aop] at he
  cases hb : (first.toList.map ev).all isAtom && (captured.toList.map ev).all isAtom with
  | false => rw [hb] at he; cases he
  | true =>
    simp only [hb, cond_true] at he; cases he
    simp only [Bool.and_eq_true] at hb
    have key : ∀ (l : List Operand), (∀ x ∈ l, VR ι (ev x) (ρ x)) → (l.map ev).all isAtom = true → All2 (AtomR ι) (l.map ev) (l.map ρ) := by
      intro l
      induction l with
      | nil => intro _ _; exact .nil
      | cons a l ih =>
        intro h1 h2
        simp only [List.map_cons, List.all_cons, Bool.and_eq_true] at h2
        refine .cons ?_ (ih (fun x hx => h1 x (List.mem_cons_of_mem _ hx)) h2.2)
        exact (h1 a (List.mem_cons_self ..)).isAtom h2.1
    refine .pure (v' := .func (.func f) (first.map ρ) (captured.map ρ)) (by simp [execOp, Instr.makeFunc]) ?_
    have e1 : first.map ρ = ⟨first.toList.map ρ⟩ := by cases first; simp
    have e2 : captured.map ρ = ⟨captured.toList.map ρ⟩ := by cases captured; simp
    rw [e1, e2]
    exact .val (.cell (.fn f (key _ hf hb.1) (key _ hc hb.2)))
/- ===== least and greatest ===== -/
theorem minmax_fold {isMax : Bool} : ∀ {xs : List Operand} {k : IntKind} {n : Int} {v : Value}, (∀ x ∈ xs, VR ι (ev x) (ρ x)) →
    (xs.map ev).foldlM (fun acc y => match acc, y with
        | .int k' a, .int k2 b => bif k' == k2 then some (Value.int k' (bif isMax then (if a < b then b else a) else (if b < a then b else a))) else none
        | _, _ => none) (Value.int k n) = some v →
    ((xs.map ρ).foldlM (if isMax then Builtin.max2 else Builtin.min2) (Value.int k n)).run P w = .ok v w ∧ ∃ j m, v = .int j m := by
  intro xs
  induction xs with
  | nil => intro k n v _ h; simp at h; subst h; exact ⟨by simp, _, _, rfl⟩
  | cons x xs ih =>
    intro k n v hx h
    rw [List.map_cons, List.foldlM_cons] at h ⊢
    obtain ⟨u, h1, h2⟩ := bind_some h
    have hvx := hx x (List.mem_cons_self ..)
    cases hv : ev x with
    | int k2 b =>
      rw [hv] at h1 hvx
      simp only at h1
      cases hk : (k == k2) with
      | false => rw [hk] at h1; cases h1
      | true =>
        rw [hk] at h1; simp only [cond_true, Option.some.injEq] at h1; subst h1
        have ex := int_inv hvx
        have := ih (fun y hy => hx y (List.mem_cons_of_mem _ hy)) h2
        cases isMax with
        | true => simp only [if_true, ex, Builtin.max2, cond_true] at this ⊢; simpa using this
        | false => simp only [Bool.false_eq_true, if_false, ex, Builtin.min2, cond_false] at this ⊢; simpa using this
    | _ => rw [hv] at h1; cases h1
theorem s_minmax {isMax : Bool} {args : Array Operand} {ts : Array TypeId} (he : aop ev H (.minmax isMax args.toList) = some (v, H')) (hx : ∀ x ∈ args.toList, VR ι (ev x) (ρ x)) :
    Small P ι H w (execOp ρ ⟨dst, .call ⟨.builtin (if isMax then .max else .min), args, ts⟩, ty, pos, after, guard⟩) v H' := by
  simp only [aop] at he
  obtain ⟨l⟩ := args
  cases l with
  | nil => simp at he
  | cons x l =>
    simp only [List.map_cons] at he
    cases hv : ev x with
    | int k n =>
      simp only [hv] at he
      obtain ⟨u, h1, h2⟩ := bind_some he
      cases h2
      obtain ⟨h3, j, m, rfl⟩ := minmax_fold (P := P) (w := w) (ρ := ρ) (fun y hy => hx y (List.mem_cons_of_mem _ hy)) h1
      have hvx := hx x (List.mem_cons_self ..)
      rw [hv] at hvx
      have ex := int_inv hvx
      refine .pure (v' := .int j m) ?_ (.atom (.int _ _))
      cases isMax with
      | true => simp only [if_true] at h3; simp [execOp, resolve, invoke, builtin, Builtin.max_, ex, h3]
      | false => simp only [Bool.false_eq_true, if_false] at h3; simp [execOp, resolve, invoke, builtin, Builtin.min_, ex, h3]
    | _ => simp [hv] at he
/- ===== maps, read ===== -/
theorem findKv_ok {k : IntKind} {key : Int} {j : IntKind} : ∀ {kvs : List (Value × Value)} {es : List MapEntry} {i : Nat} {r : Option (Nat × Value)},
    All2 (fun (p : Value × Value) (q : MapEntry) => CellR ι p.1 q.key ∧ ValR ι p.2 q.val) kvs es → findKv k key kvs i = some r →
    ∃ r', Instr.findNow (.int j) (.int k key) es i = some r' ∧ match r, r' with
      | none, none => True
      | some (a, v), some (b, v') => a = b ∧ ValR ι v v' ∧ i ≤ a ∧ a < i + es.length ∧ ∃ e, es[a - i]? = some e ∧ e.key = .int k key
      | _, _ => False := by
  intro kvs
  induction kvs with
  | nil => intro es i r h1 h2; cases h1; simp [findKv] at h2; subst h2; exact ⟨none, rfl, trivial⟩
  | cons p kvs ih =>
    intro es i r h1 h2
    cases h1 with
    | @cons _ q _ es hc h1 =>
      obtain ⟨pk, pv⟩ := p
      obtain ⟨hk, hv⟩ := hc
      cases pk with
      | int k' n =>
        simp only [findKv] at h2
        split at h2
        · rename_i hkk
          have eq := int_inv (.val (.cell hk))
          have ek : q.key = .int k' n := eq
          subst hkk
          simp only [Instr.findNow, ek, Instr.sameNow, if_true]
          by_cases hn : n = key
          · subst hn
            simp at h2; subst h2
            exact ⟨some (i, q.val), by simp, rfl, hv, Nat.le_refl _, by simp, q, by simp, ek⟩
          · have e1 : (n == key) = false := by simp [hn]
            have e2 : (key == n) = false := by simp [Ne.symm hn]
            rw [e1] at h2; simp only [cond_false] at h2
            rw [e2]
            obtain ⟨r', g1, g2⟩ := ih h1 h2
            refine ⟨r', g1, ?_⟩
            cases r with
            | none => cases r' <;> simp_all
            | some a => cases r' with
              | none => simp_all
              | some b =>
                obtain ⟨a1, a2⟩ := a; obtain ⟨b1, b2⟩ := b
                simp only at g2 ⊢
                obtain ⟨c1, c2, c3, c4, e, c5, c6⟩ := g2
                refine ⟨c1, c2, by omega, by simp; omega, e, ?_, c6⟩
                rw [show a1 - i = (a1 - (i + 1)) + 1 by omega]
                simpa using c5
        · cases h2
      | _ => simp [findKv] at h2
theorem run_checkKey' (d : Nat) {empty : Bool} {kt : TypeId} {j k : IntKind} {n : Int} (hk : P.underlying kt = some (.int j)) : (Instr.checkKey empty (d + 1) kt (.int k n)).run P w = .ok () w := by
  simp [Instr.checkKey, r_und hk]
theorem run_checkKey {empty : Bool} {kt : TypeId} {j k : IntKind} {n : Int} (hk : P.underlying kt = some (.int j)) : (Instr.checkKey empty 10000 kt (.int k n)).run P w = .ok () w :=
  run_checkKey' 9999 hk
theorem s_lookup {t kt e : TypeId} {m key : Operand} {k : IntKind} {zero : Value} {ok : Bool} (hu : P.underlying t = some (.map kt e)) (hk : kindOf P kt = some k) (hz : zeroOf P e = some zero)
    (he : aop ev H (.lookup k zero m key ok) = some (v, H')) (hm : VR ι (ev m) (ρ m)) (hkey : VR ι (ev key) (ρ key)) (hr : ReadOk P ι H w (readsOf ev (.lookup k zero m key ok))) :
    Small P ι H w (execOp ρ ⟨dst, .lookup t m key ok, ty, pos, after, guard⟩) v H' := by
  have hku := kindOf_und hk
  have hzv : ValR ι zero zero := (valOk_VR (zeroOf_ok hz)).valR (fun vs h => by subst h; have := zeroOf_ok hz; simp [valOk, constCell] at this)
  simp only [aop] at he
  simp only [readsOf] at hr
  cases hv : ev key with
  | int k' n =>
    simp only [hv] at he hkey
    have ek := int_inv hkey
    split at he
    · rename_i hkk; subst hkk
      cases hvm : ev m with
      | map r =>
        simp only [hvm] at he hm hr
        cases r with
        | none =>
          simp only [Option.some.injEq, Prod.mk.injEq] at he
          obtain ⟨rfl, rfl⟩ := he
          have em := nilm_inv hm
          cases ok with
          | true =>
            refine .pure (v' := .tuple #[zero, .bool false]) ?_ (.tuple (.cons hzv (.cons (.cell (.atom (.bool _))) .nil)))
            simp [execOp, Instr.lookup, r_und hu, em, ek, run_checkKey hku, Instr.findKey, r_und hku, Instr.findNow, r_zero hz]
          | false =>
            refine .pure (v' := zero) ?_ (.val hzv)
            simp [execOp, Instr.lookup, r_und hu, em, ek, run_checkKey hku, Instr.findKey, r_und hku, Instr.findNow, r_zero hz]
        | some r =>
          simp only at he
          cases hg : H.get r with
          | none => simp [hg] at he
          | some o =>
            cases o with
            | map kvs =>
              simp only [hg] at he
              obtain ⟨b, d, e', c, h1, h2, h3⟩ := hr.1 r (by simp) _ hg
              obtain ⟨b', d', e'', h1', em⟩ := map_inv hm
              rw [h1] at h1'; cases h1'
              cases c with
              | map es clock =>
                cases hf : findKv k' n kvs 0 with
                | none => simp [hf] at he
                | some r =>
                  obtain ⟨r', g1, g2⟩ := findKv_ok (j := k') h3 hf
                  have hgo : (getObj b).run P w = .ok (.map es clock) w := by simp [getObj, Sem.run, h2]
                  cases r with
                  | none =>
                    cases r' with
                    | some _ => exact g2.elim
                    | none =>
                      simp only [hf, Option.some.injEq, Prod.mk.injEq] at he
                      obtain ⟨rfl, rfl⟩ := he
                      cases ok with
                      | true =>
                        refine .pure (v' := .tuple #[zero, .bool false]) ?_ (.tuple (.cons hzv (.cons (.cell (.atom (.bool _))) .nil)))
                        simp [execOp, Instr.lookup, r_und hu, em, ek, hgo, run_checkKey hku, Instr.findKey, r_und hku, g1, r_zero hz]
                      | false =>
                        refine .pure (v' := zero) ?_ (.val hzv)
                        simp [execOp, Instr.lookup, r_und hu, em, ek, hgo, run_checkKey hku, Instr.findKey, r_und hku, g1, r_zero hz]
                  | some a =>
                    cases r' with
                    | none => exact g2.elim
                    | some b2 =>
                      obtain ⟨a1, a2⟩ := a; obtain ⟨b1, b2⟩ := b2
                      simp only at g2
                      simp only [hf, Option.some.injEq, Prod.mk.injEq] at he
                      obtain ⟨rfl, rfl⟩ := he
                      cases ok with
                      | true =>
                        refine .pure (v' := .tuple #[b2, .bool true]) ?_ (.tuple (.cons g2.2.1 (.cons (.cell (.atom (.bool _))) .nil)))
                        simp [execOp, Instr.lookup, r_und hu, em, ek, hgo, run_checkKey hku, Instr.findKey, r_und hku, g1, r_zero hz]
                      | false =>
                        refine .pure (v' := b2) ?_ (.val g2.2.1)
                        simp [execOp, Instr.lookup, r_und hu, em, ek, hgo, run_checkKey hku, Instr.findKey, r_und hku, g1, r_zero hz]
              | _ => exact h3.elim
            | _ => simp [hg] at he
      | _ => simp [hvm] at he
    · cases he
  | _ => simp [hv] at he
end
end Go.Proofs.YtdlfdieehioolaaDoor
