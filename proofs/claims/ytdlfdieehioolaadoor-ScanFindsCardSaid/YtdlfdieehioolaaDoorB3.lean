/- Each operation of the second semantics. -/
import Derived.Test.YtdlfdieehioolaaDoorB2
namespace Go.Proofs.YtdlfdieehioolaaDoor
open Go
set_option linter.unusedVariables false
set_option linter.unusedSimpArgs false
theorem bindS {α β : Type} {x : Option α} {f : α → Option β} {r : β} (h : x.bind f = some r) : ∃ a, x = some a ∧ f a = some r := Option.bind_eq_some_iff.1 h
theorem mapS {α β : Type} {x : Option α} {f : α → β} {r : β} (h : x.map f = some r) : ∃ a, x = some a ∧ f a = r := Option.map_eq_some_iff.1 h
theorem prj_val {t : Ty} {v : Value} {x : t.T} (h : t.prj v = some x) : t.val x = v := by
  cases t with
  | int k =>
    cases v <;> try cases h
    rename_i k' n
    simp only [Ty.prj] at h
    split at h
    · rename_i e; subst e; cases h; rfl
    · cases h
  | bool => cases v <;> cases h; rfl
  | ptr => cases v <;> cases h; rfl
  | any => cases h; rfl
  | fn g c =>
    have key : ∀ {c : Nat} {vs : List Value} {a : Ptrs c}, Ptrs.prj c vs = some a → Ptrs.vals c a = vs := by
      intro c
      induction c with
      | zero => intro vs a h; cases vs with
        | nil => rfl
        | cons v vs => cases h
      | succ c ih =>
        intro vs a h
        cases vs with
        | nil => cases h
        | cons v vs =>
          cases v <;> try cases h
          obtain ⟨as, e1, e2⟩ := bindS h
          cases e2
          simp only [Ptrs.vals, ih e1]
    cases v <;> try cases h
    rename_i f first captured
    cases f <;> try cases h
    rename_i g'
    simp only [Ty.prj] at h
    cases hb : Nat.beq g g' && first.toList.isEmpty with
    | false => rw [hb] at h; cases h
    | true =>
      rw [hb] at h
      simp only [Bool.and_eq_true] at hb
      obtain rfl := Nat.eq_of_beq_eq_true hb.1
      have hf : first = #[] := by
        obtain ⟨l⟩ := first
        have : l = [] := by simpa using hb.2
        rw [this]
      simp only [Ty.val, key h, hf]
theorem kEq_iff {a b : IntKind} : kEq a b = true ↔ a = b := by simp [kEq]
section
variable {h H : Heap} {ev : Operand → Value} {R : Type} {r : R}
theorem binB_sound {op : BinOp} {x y : Value} {k : Value → Option R} (e : binB op x y k = some r) : ∃ v, binK H op x y = some (v, H) ∧ k v = some r := by
  have kk : ∀ {j j' : IntKind} {z : Option R}, (bif kEq j j' then z else none) = some r → j = j' ∧ z = some r := by
    intro j j' z hz
    cases hb : kEq j j' with
    | false => rw [hb] at hz; cases hz
    | true => rw [hb] at hz; exact ⟨kEq_iff.1 hb, hz⟩
  cases x <;> try cases e
  rename_i j a
  cases y <;> try cases e
  rename_i j' b
  cases op with
  | add => obtain ⟨rfl, e'⟩ := kk e; exact ⟨_, binK_add, e'⟩
  | sub => obtain ⟨rfl, e'⟩ := kk e; exact ⟨_, binK_sub, e'⟩
  | mul => obtain ⟨rfl, e'⟩ := kk e; exact ⟨_, binK_mul, e'⟩
  | eql => obtain ⟨rfl, e'⟩ := kk e; exact ⟨_, binK_eql, e'⟩
  | neq => obtain ⟨rfl, e'⟩ := kk e; exact ⟨.bool (!decide (a = b)), by rw [binK_neq]; simp, e'⟩
  | lss => obtain ⟨rfl, e'⟩ := kk e; exact ⟨_, binK_lss, e'⟩
  | leq => obtain ⟨rfl, e'⟩ := kk e; exact ⟨_, binK_leq, e'⟩
  | gtr => obtain ⟨rfl, e'⟩ := kk e; exact ⟨_, binK_gtr, e'⟩
  | geq => obtain ⟨rfl, e'⟩ := kk e; exact ⟨_, binK_geq, e'⟩
  | quo =>
    obtain ⟨rfl, e'⟩ := kk e
    by_cases hb : b = 0
    · simp [hb] at e'
    · simp only [hb, decide_false, cond_false] at e'
      exact ⟨_, binK_quo hb, e'⟩
  | rem =>
    obtain ⟨rfl, e'⟩ := kk e
    by_cases hb : b = 0
    · simp [hb] at e'
    · simp only [hb, decide_false, cond_false] at e'
      exact ⟨_, binK_rem hb, e'⟩
  | _ =>
    obtain ⟨n, e1, e⟩ := bindS e
    obtain ⟨v, e2, e1⟩ := bindS e1
    refine ⟨_, ?_, e⟩
    simp only [binK, e2, Option.map_some]
    rw [← prj_val e1]; rfl
theorem ldT_read {t : Ty} {p : Option Addr} {x : t.T} (hh : HLe h H) (e : ldT t h p = some x) : ∃ q, p = some q ∧ (readCells H q.block q.off 1).bind (fun cs => (loadL false 1 cs).map (·, H)) = some (t.val x, H) := by
  obtain ⟨q, rfl, e0⟩ := bindS e
  obtain ⟨cs, e1, e0⟩ := bindS e0
  obtain ⟨v, e2, e0⟩ := bindS e0
  refine ⟨q, rfl, ?_⟩
  rw [readCells_mono hh e1]
  simp only [Option.bind_some, e2, Option.map_some, prj_val e0]
theorem eqVals_mono {q : EqK} {x y : Value} {b : Bool} (hh : HLe h H) (e : eqVals h q x y = some b) : eqVals H q x y = some b := by
  have al : ∀ n, alive h n = true → alive H n = true := by
    intro n ha
    unfold alive at ha
    split at ha
    · rename_i hg; unfold alive; simp only [hh.le _ _ hg]
    · cases ha
  unfold eqVals at e ⊢
  split at e <;> try exact e
  rename_i a b'
  cases h1 : alive h a.block with
  | false => simp [h1] at e
  | true =>
    cases h2 : alive h b'.block with
    | false => simp [h2] at e
    | true =>
      simp only [h1, h2, Bool.and_self, cond_true] at e
      simp only [al _ h1, al _ h2, Bool.and_self, cond_true]; exact e
theorem natIn_ofNat {k : IntKind} {n m : Nat} (h : n ≤ m) : natIn (.int k (.ofNat n)) m = some n := natIn_int h
theorem blt_of {a b : Nat} (h : Nat.blt a b = true) : a < b := Nat.le_of_ble_eq_true h
theorem rdB_sound (hcst : ∀ v, ev (.const v) = v) {op : AOp} {ty : Ty} {k : Value → Option R} (hh : HLe h H) (e : rdB ev h op ty k = some r) : ∃ v, aop ev H op = some (v, H) ∧ k v = some r := by
  have via : ∀ {o : Option (Value × Heap)} {v : Value}, (∀ self, opRun self ev H op = o) → (∀ self, opRun self ev H op = aop ev H op) → o = some (v, H) → aop ev H op = some (v, H) := by
    intro o v h1 h2 h3
    rw [← h2 (fun _ _ _ => none), h1, h3]
  cases op <;> simp only [rdB] at e <;> try cases e
  case move x => exact ⟨_, rfl, e⟩
  case pick c a b =>
    split at e
    · rename_i t ht
      cases t with
      | true => exact ⟨ev a, by simp only [aop, ht]; rfl, e⟩
      | false => exact ⟨ev b, by simp only [aop, ht]; rfl, e⟩
    · cases e
  case build zs ps =>
    obtain ⟨cs, e1, e⟩ := bindS e
    exact ⟨_, by simp only [aop, e1]; rfl, e⟩
  case load g sz a =>
    cases g with
    | true =>
      simp only at e
      split at e
      · rename_i p hp
        obtain ⟨cs, e1, e9⟩ := bindS e
        clear e
        obtain ⟨q, rfl, e3⟩ := bindS e1
        refine ⟨_, via (fun self => opRun_load) (fun _ => rfl) ?_, e9⟩
        rw [hp, loadK_ptr, readCells_mono hh e3]; simp
      · cases e
    | false =>
      simp only at e
      cases hs : Nat.beq sz 1 with
      | false => rw [hs] at e; cases e
      | true =>
        rw [hs] at e
        obtain rfl := Nat.eq_of_beq_eq_true hs
        simp only [cond_true] at e
        split at e
        · rename_i p hp
          obtain ⟨x, e1, e9⟩ := bindS e
          clear e
          obtain ⟨q, rfl, e3⟩ := ldT_read hh e1
          refine ⟨_, via (fun self => opRun_load) (fun _ => rfl) ?_, e9⟩
          rw [hp, loadK_ptr]; exact e3
        · cases e
  case loadS g sz a =>
    cases g with
    | true =>
      simp only at e
      split at e
      · rename_i p hp
        obtain ⟨cs, e1, e9⟩ := bindS e
        clear e
        obtain ⟨q, rfl, e3⟩ := bindS e1
        have e4 := readS_mono hh e3
        rw [hh.sh] at e4
        exact ⟨_, by simp only [aop, hp, e4]; rfl, e9⟩
      · cases e
    | false =>
      simp only at e
      cases hs : Nat.beq sz 1 with
      | false => rw [hs] at e; cases e
      | true =>
        rw [hs] at e
        obtain rfl := Nat.eq_of_beq_eq_true hs
        simp only [cond_true] at e
        split at e
        · rename_i p hp
          obtain ⟨x, e1, e9⟩ := bindS e
          clear e
          obtain ⟨q, rfl, e3⟩ := bindS e1
          obtain ⟨cs, e4, e5⟩ := bindS e3
          obtain ⟨v, e6, e7⟩ := bindS e5
          have e8 := readS_mono hh e4
          rw [hh.sh] at e8
          have e10 : ty.val x = v := (prj_val e7)
          exact ⟨_, by simp only [aop, hp, e8]; rw [e10]; show (some cs).bind _ = _; simp only [Option.bind_some, e6]; rfl, e9⟩
        · cases e
  case nilCheck x =>
    split at e
    · rename_i p hp
      obtain ⟨q, rfl, e⟩ := bindS e
      exact ⟨_, by simp only [aop, hp], e⟩
    · cases e
  case bin op x y =>
    obtain ⟨v, e1, e⟩ := binB_sound (H := H) e
    exact ⟨v, via (fun self => opRun_bin) (fun _ => rfl) e1, e⟩
  case eqv neg q x y =>
    have gen : ((eqVals h q (ev x) (ev y)).bind fun b => k (.bool (bif neg then !b else b))) = some r → ∃ v, aop ev H (.eqv neg q x y) = some (v, H) ∧ k v = some r := by
      intro e
      obtain ⟨b, e1, e⟩ := bindS e
      exact ⟨_, by simp only [aop, eqVals_mono hh e1]; rfl, e⟩
    cases q <;> simp only at e <;> try exact gen e
    cases hc : isNilConst y with
    | false => rw [hc] at e; exact gen e
    | true =>
      rw [hc] at e
      simp only [cond_true] at e
      split at e
      · rename_i p hp
        refine ⟨_, ?_, e⟩
        have hy : ∃ y0, y = .const (.pointer y0) ∧ y0 = none := by
          unfold isNilConst at hc
          split at hc
          · exact ⟨_, rfl, rfl⟩
          · cases hc
        obtain ⟨_, rfl, rfl⟩ := hy
        simp only [aop, hp, hcst]
        cases p <;> cases neg <;> rfl
      · cases e
  case un op x =>
    split at e
    · rename_i b hb
      cases op <;> try cases e
      exact ⟨_, via (fun self => opRun_un) (fun _ => rfl) (by rw [hb, unK_not]), e⟩
    · rename_i j n hb
      obtain ⟨m, e1, e⟩ := bindS e
      obtain ⟨v, e2, e1⟩ := bindS e1
      refine ⟨_, via (fun self => opRun_un) (fun _ => rfl) ?_, e⟩
      rw [hb]; simp only [unK, e2, Option.map_some]; rw [← prj_val e1]; rfl
    · cases e
  case conv j x =>
    split at e
    · rename_i n hb
      exact ⟨_, by simp only [aop, hb], e⟩
    · cases e
  case fieldAddr off x =>
    split at e
    · rename_i p hp
      obtain ⟨q, rfl, e⟩ := bindS e
      exact ⟨_, by simp only [aop, hp], e⟩
    · cases e
  case idxSlice es x i =>
    split at e
    · rename_i j z hz
      obtain ⟨q, e1, e⟩ := bindS e
      refine ⟨_, via (fun self => opRun_idxSlice) (fun _ => rfl) ?_, e⟩
      rw [hz]
      unfold ixB at e1
      split at e1
      · rename_i p n c m hx
        cases hb : Nat.blt m n with
        | false => rw [hb] at e1; cases e1
        | true =>
          rw [hb] at e1
          simp only [cond_true, Option.some.injEq] at e1
          subst e1
          rw [hx]; simp only [idxK, hb, cond_true]
      · cases e1
    · cases e
  case idxArr n es x i =>
    split at e
    · rename_i j z hz
      split at e
      · rename_i p hp
        obtain ⟨q, e1, e⟩ := bindS e
        refine ⟨_, via (fun self => opRun_idxArr) (fun _ => rfl) ?_, e⟩
        unfold ixA at e1
        split at e1
        · rename_i m
          obtain ⟨q', rfl, e3⟩ := bindS e1
          cases hb : Nat.blt m n with
          | false => rw [hb] at e3; cases e3
          | true =>
            rw [hb] at e3
            simp only [cond_true, Option.some.injEq] at e3
            subst e3
            rw [hz, hp]
            simp only [idxAK, natIn_ofNat (Nat.le_of_lt (blt_of hb)), hb, cond_true]
        · cases e1
      · cases e
    · cases e
  case field g off sz x =>
    cases g with
    | true =>
      simp only at e
      obtain ⟨cs, e1, e⟩ := bindS e
      refine ⟨_, via (fun self => opRun_field) (fun _ => rfl) ?_, e⟩
      unfold fldA at e1
      split at e1
      · rename_i cs' hx
        cases hb : Nat.ble (off + sz) cs'.toList.length with
        | false => rw [hb] at e1; cases e1
        | true =>
          rw [hb] at e1
          simp only [cond_true, Option.some.injEq] at e1
          subst e1
          rw [hx]; simp only [fieldK, hb, cond_true, loadL_agg, Option.map_some]
      · cases e1
    | false =>
      simp only at e
      cases hs : Nat.beq sz 1 with
      | false => rw [hs] at e; cases e
      | true =>
        rw [hs] at e
        obtain rfl := Nat.eq_of_beq_eq_true hs
        simp only [cond_true] at e
        obtain ⟨a, e1, e⟩ := bindS e
        refine ⟨_, via (fun self => opRun_field) (fun _ => rfl) ?_, e⟩
        unfold fldT at e1
        split at e1
        · rename_i cs' hx
          obtain ⟨v, e2, e1⟩ := bindS e1
          rw [hx]
          have hlt : off < cs'.toList.length := (List.getElem?_eq_some_iff.1 e2).1
          have h1 : (cs'.toList.drop off).take 1 = [v] := by
            rw [List.drop_eq_getElem_cons hlt, List.take_succ_cons, List.take_zero, (List.getElem?_eq_some_iff.1 e2).2]
          simp only [fieldK, Nat.ble_eq_true_of_le (show off + 1 ≤ cs'.toList.length from hlt), cond_true, h1, loadL_one, Option.map_some, prj_val e1]
        · cases e1
  case index g n es x i =>
    cases g with
    | true =>
      simp only at e
      split at e
      · rename_i j z hz
        obtain ⟨cs, e1, e⟩ := bindS e
        unfold aixA at e1
        split at e1
        · rename_i cs' m hx
          cases hb : Nat.blt m n && Nat.ble (m * es + es) cs'.toList.length with
          | false => rw [hb] at e1; cases e1
          | true =>
            rw [hb] at e1
            simp only [cond_true, Option.some.injEq] at e1
            subst e1
            have hb1 : Nat.blt m n = true := by cases h1 : Nat.blt m n <;> simp [h1] at hb ⊢
            refine ⟨_, ?_, e⟩
            simp only [aop, hx, hz, natIn_ofNat (Nat.le_of_lt (blt_of hb1)), hb, cond_true, loadL_agg, Option.map_some]
        · cases e1
      · cases e
    | false =>
      simp only at e
      cases hs : Nat.beq es 1 with
      | false => rw [hs] at e; cases e
      | true =>
        rw [hs] at e
        obtain rfl := Nat.eq_of_beq_eq_true hs
        simp only [cond_true] at e
        split at e
        · rename_i j z hz
          obtain ⟨a, e1, e9⟩ := bindS e
          clear e
          unfold aixT at e1
          split at e1
          · rename_i cs' m hx
            cases hb : Nat.blt m n with
            | false => rw [hb] at e1; cases e1
            | true =>
              rw [hb] at e1
              simp only [cond_true] at e1
              obtain ⟨v, e2, e1⟩ := bindS e1
              have hlt : m < cs'.toList.length := (List.getElem?_eq_some_iff.1 e2).1
              have h1 : (cs'.toList.drop m).take 1 = [v] := by
                rw [List.drop_eq_getElem_cons hlt, List.take_succ_cons, List.take_zero, (List.getElem?_eq_some_iff.1 e2).2]
              refine ⟨_, ?_, e9⟩
              simp only [aop, hx, hz, natIn_ofNat (Nat.le_of_lt (blt_of hb)), hb, Nat.mul_one, Nat.ble_eq_true_of_le (show m + 1 ≤ cs'.toList.length from hlt), Bool.and_self, cond_true, h1, loadL_one, Option.map_some, prj_val e1]
          · cases e1
        · cases e
  case extract x i =>
    split at e
    · rename_i vs hx
      obtain ⟨v, e1, e⟩ := bindS e
      exact ⟨v, by simp only [aop, hx, e1], e⟩
    · cases e
  case lenS x =>
    obtain ⟨n, e1, e⟩ := bindS e
    unfold lenB at e1
    split at e1
    · rename_i hx; cases e1; exact ⟨_, by simp only [aop, hx], e⟩
    · cases e1
  case lenC n => exact ⟨_, rfl, e⟩
  case lenM x =>
    obtain ⟨n, e1, e⟩ := bindS e
    unfold lenMB at e1
    split at e1
    · rename_i hx; cases e1; exact ⟨_, by simp only [aop, hx]; rfl, e⟩
    · rename_i q hx
      split at e1
      · rename_i kvs hg; cases e1; exact ⟨_, by simp only [aop, hx, hh.le _ _ hg], e⟩
      · cases e1
    · cases e1
  case minmax b xs =>
    match xs with
    | [] => cases e
    | [_] => cases e
    | _ :: _ :: _ :: _ :: _ => cases e
    | [x, y, z] =>
      simp only at e
      split at e
      · rename_i j m j' n j2 o hx hy hz
        cases hb : kEq j j' && kEq j j2 with
        | false => rw [hb] at e; cases e
        | true =>
          rw [hb] at e
          rw [Bool.and_eq_true] at hb
          obtain rfl := kEq_iff.1 hb.1
          obtain rfl := kEq_iff.1 hb.2
          have hj : (j == j) = true := by cases j <;> rfl
          refine ⟨_, via (fun self => opRun_minmax3 hx hy hz) (fun _ => rfl) rfl, e⟩
      · cases e
    | [x, y] =>
      simp only at e
      split at e
      · rename_i j m j' n hx hy
        cases hb : kEq j j' with
        | false => rw [hb] at e; cases e
        | true =>
          rw [hb] at e
          obtain rfl := kEq_iff.1 hb
          refine ⟨_, via (fun self => opRun_minmax2) (fun _ => rfl) ?_, e⟩
          have hj : (j == j) = true := by cases j <;> rfl
          rw [hx, hy]; simp only [maxK, hj, cond_true]
      · cases e
  case makeFunc f a c =>
    cases hb : (a.map ev).all isAtom && (c.map ev).all isAtom with
    | false => rw [hb] at e; cases e
    | true =>
      rw [hb] at e
      exact ⟨_, by simp only [aop, hb, cond_true], e⟩
  case lookup j zero m key ok =>
    split at e
    · rename_i j' z hz
      cases hb : kEq j' j with
      | false => rw [hb] at e; cases e
      | true =>
        rw [hb] at e
        obtain rfl := kEq_iff.1 hb
        simp only [cond_true] at e
        obtain ⟨p, e1, e⟩ := bindS e
        refine ⟨_, via (fun self => opRun_lookup) (fun _ => rfl) ?_, e⟩
        rw [hz]
        unfold lkT at e1
        split at e1
        · rename_i hx
          obtain ⟨a, e3, rfl⟩ := mapS e1
          rw [hx]; simp only [lookupK, if_true, prj_val e3]
        · rename_i q hx
          split at e1
          · rename_i kvs hg
            rw [hx]
            split at e1
            · rename_i i v hf
              obtain ⟨a, e3, rfl⟩ := mapS e1
              rw [lookupK_some (hh.le _ _ hg) hf]; simp only [prj_val e3]
            · rename_i hf
              obtain ⟨a, e3, rfl⟩ := mapS e1
              rw [lookupK_none (hh.le _ _ hg) hf]; simp only [prj_val e3]
            · cases e1
          · cases e1
        · cases e1
    · cases e
  case slice es x lo hi mx =>
    obtain ⟨p, e1, e⟩ := bindS e
    refine ⟨p.1, via (fun self => opRun_slice) (fun _ => rfl) ?_, e⟩
    unfold sliceK at e1 ⊢
    split at e1
    · obtain ⟨b, e2, e1⟩ := bindS e1
      simp only [e2, Option.bind_some]
      split at e1 <;> cases e1 <;> rfl
    · cases e1
  case sliceArr n es x lo hi mx =>
    cases mx with
    | some m => cases e
    | none =>
      simp only at e
      split at e
      · rename_i p hp
        obtain ⟨b, e1, e⟩ := bindS e
        refine ⟨b.1, via (fun self => opRun_sliceArr) (fun _ => rfl) ?_, e⟩
        rw [hp]
        unfold sliceArrK at e1 ⊢
        split at e1
        · obtain ⟨c, e2, e1⟩ := mapS e1
          subst e1
          simp only [e2, Option.map_some]
        · cases e1
      · cases e
  case arrAt n x =>
    obtain ⟨q, e1, e⟩ := bindS e
    obtain ⟨p, e1, e2⟩ := bindS e1
    have := prj_val e2
    refine ⟨_, via (fun self => opRun_arrAt) (fun _ => rfl) ?_, e⟩
    unfold arrAtK at e1 ⊢
    split at e1
    · rename_i m _ _
      cases hb : Nat.ble n m && Nat.ble 1 n with
      | false => rw [hb] at e1; cases e1
      | true =>
        rw [hb] at e1
        cases e1
        simp only [cond_true, Option.some.injEq, Prod.mk.injEq, and_true]
        exact this.symm
    · cases e1
  case toStr x =>
    obtain ⟨p, e1, e⟩ := bindS e
    refine ⟨p.1, via (fun self => opRun_toStr) (fun _ => rfl) ?_, e⟩
    unfold toStrK at e1 ⊢
    split at e1
    · cases e1; rfl
    · obtain ⟨cs, e2, e1⟩ := bindS e1
      obtain ⟨ns, e3, e1⟩ := mapS e1
      subst e1
      simp only [readCells_mono hh e2, Option.bind_some, e3, Option.map_some]
    · cases e1
  case bins op x y =>
    obtain ⟨a, e1, e⟩ := bindS e
    obtain ⟨p, e1, e2⟩ := bindS e1
    refine ⟨_, via (fun self => opRun_bins) (fun _ => rfl) ?_, e⟩
    unfold binsK at e1 ⊢
    split at e1
    · obtain ⟨v, e3, e1⟩ := mapS e1
      subst e1
      simp only [e3, Option.map_some, prj_val e2]
    · cases e1
theorem nwB_sound {op : AOp} {k : Value → AObj → Option R} (e : nwB ev H.next op k = some r) : ∃ v o, aop ev H op = some (v, H.new o) ∧ k v o = some r := by
  cases op <;> simp only [nwB] at e <;> try cases e
  case alloc zs => exact ⟨_, _, rfl, e⟩
  case box x =>
    cases hb : (cellsOf (ev x)).all isCell with
    | false => rw [hb] at e; cases e
    | true => rw [hb] at e; exact ⟨_, _, by simp only [aop, hb, cond_true], e⟩
  case buildSlice n es zs ps =>
    obtain ⟨cs, e1, e⟩ := bindS e
    exact ⟨_, _, by simp only [aop, e1]; rfl, e⟩
  case makeMap => exact ⟨_, _, rfl, e⟩
  case toBytes x =>
    obtain ⟨p, e1, e⟩ := bindS e
    unfold toBy at e1
    split at e1
    · rename_i s hs
      cases e1
      exact ⟨_, _, by simp only [aop, hs], e⟩
    · cases e1
  case makeSlice bytes es zs l c =>
    obtain ⟨z, e9, e⟩ := bindS e
    obtain ⟨p, e1, e8⟩ := bindS e9
    obtain ⟨o, e2, e3⟩ := mapS e8
    clear e9 e8
    subst e3
    refine ⟨p.1, o, ?_, e⟩
    have g : aop ev H (.makeSlice bytes es zs l c) = makeSliceK H bytes es zs (ev l) (ev c) := opRun_makeSlice (self := fun _ _ _ => none) (ev := ev)
    rw [g]
    unfold makeSliceK at e1 ⊢
    split at e1
    · split at e1
      · rename_i l' c' hl hc
        cases hb : Nat.ble l' c' && Nat.ble (c' * bytes) 140737488355328 with
        | false => rw [hb] at e1; cases e1
        | true =>
          rw [hb] at e1
          cases e1
          have : (({ tr := .nil, next := H.next } : Heap).new (.cells ((List.replicate c' zs).flatten) false es)).get H.next = some (.cells ((List.replicate c' zs).flatten) false es) := by
            rw [Heap.get_new, if_pos rfl]
          simp only at e2
          rw [this] at e2
          cases e2
          rfl
      · cases e1
    · cases e1
theorem bgB_sound {op : AOp} {ty : Ty} {k : Value → Heap → Option R} (hh : HLe h H) (e : bgB ev h op ty k = some r) : ∃ v h' H', aop ev H op = some (v, H') ∧ k v h' = some r ∧ HLe h' H' ∧ Stp No h H h' H' := by
  cases op <;> simp only [bgB] at e <;> try cases e
  case store sz a v =>
    split at e
    · rename_i p hp
      obtain ⟨h', e1, e9⟩ := bindS e
      clear e
      obtain ⟨q, rfl, e3⟩ := bindS e1
      cases hb : Nat.beq (cellsOf (ev v)).length sz && (cellsOf (ev v)).all isCell with
      | false => rw [hb] at e3; cases e3
      | true =>
        rw [hb] at e3
        obtain ⟨H', g1, g2, g3⟩ := writeCells_mono hh e3
        exact ⟨_, h', H', by simp only [aop, hp, hb, cond_true, g1]; rfl, e9, g2, g3⟩
    · cases e
  case mapUpdate j m key v =>
    obtain ⟨p, e1, e⟩ := bindS e
    unfold mapUpdateK at e1
    split at e1
    · rename_i k' n q hk hm
      split at e1
      · rename_i hkk
        subst hkk
        split at e1
        · rename_i kvs hg
          have hG := hh.le _ _ hg
          split at e1
          · rename_i i u hf
            cases hb : isTuple (ev v) with
            | true => rw [hb] at e1; cases e1
            | false =>
              rw [hb] at e1; cases e1
              obtain ⟨g1, g2⟩ := hh.put (o' := .map (kvs.set i (.int k' n, ev v))) hg
              exact ⟨undef, _, _, by simp only [aop, hk, hm, if_true, hG, hf, hb, cond_false], e, g1, g2⟩
          · rename_i hf
            cases hb : isTuple (ev v) with
            | true => rw [hb] at e1; cases e1
            | false =>
              rw [hb] at e1; cases e1
              obtain ⟨g1, g2⟩ := hh.put (o' := .map (kvs ++ [(.int k' n, ev v)])) hg
              exact ⟨undef, _, _, by simp only [aop, hk, hm, if_true, hG, hf, hb, cond_false], e, g1, g2⟩
          · cases e1
        · cases e1
      · cases e1
    · cases e1
  case delete j m key =>
    obtain ⟨p, e1, e⟩ := bindS e
    unfold deleteK at e1
    split at e1
    · rename_i k' n q hk hm
      split at e1
      · rename_i hkk
        subst hkk
        split at e1
        · rename_i kvs hg
          have hG := hh.le _ _ hg
          split at e1
          · rename_i i u hf
            cases e1
            obtain ⟨g1, g2⟩ := hh.put (o' := .map (kvs.eraseIdx i)) hg
            exact ⟨_, _, _, by simp only [aop, hk, hm, if_true, hG, hf], e, g1, g2⟩
          · rename_i hf
            cases e1
            exact ⟨_, _, _, by simp only [aop, hk, hm, if_true, hG, hf], e, hh, .refl⟩
          · cases e1
        · cases e1
      · cases e1
    · rename_i k' n hk hm
      split at e1
      · rename_i hkk
        cases e1
        exact ⟨_, _, _, by simp only [aop, hk, hm, hkk, if_true], e, hh, .refl⟩
      · cases e1
    · cases e1
  case append bytes es s x =>
    obtain ⟨⟨v, h'⟩, e1, e⟩ := bindS e
    unfold appendK at e1
    split at e1
    · rename_i a n c b m c' hs hx
      obtain ⟨new, e2, e1⟩ := bindS e1
      obtain ⟨H', g1, g2, g3⟩ := appendL_mono hh e1
      exact ⟨v, h', H', by simp only [aop, hs, hx, srcCells_mono hh e2, Option.bind_some, g1], e, g2, g3⟩
    · cases e1
  case clrS =>
    obtain ⟨g1, g2⟩ := hh.clr
    exact ⟨_, _, _, by simp only [aop], e, g1, g2⟩
  case appendS bytes es s x =>
    obtain ⟨⟨v, h'⟩, e1, e⟩ := bindS e
    unfold appendSK at e1
    split at e1
    · rename_i a n c b m c' hs hx
      obtain ⟨new, e2, e1⟩ := bindS e1
      obtain ⟨⟨v0, h0⟩, e3, e1⟩ := mapS e1
      cases e1
      obtain ⟨H', g1, g2, g3⟩ := appendL_mono hh e3
      obtain ⟨k1, k2⟩ := noteS_mono (n := n) (c := c) (m := m) (es := es) (a := a) hh g2 g3 fun hb => grow_read e3 hb
      exact ⟨v0, _, _, by simp only [aop, hs, hx, srcCells_mono hh e2, Option.bind_some, g1, Option.map_some], e, k1, k2⟩
    · cases e1
  case appendZ bytes es zs s x =>
    obtain ⟨⟨v, h'⟩, e1, e⟩ := bindS e
    unfold appendZK at e1
    split at e1
    · rename_i a n c k' m hs hx
      cases hb : Nat.ble m 140737488355328 with
      | false => rw [hb] at e1; cases e1
      | true =>
        rw [hb] at e1
        obtain ⟨H', g1, g2, g3⟩ := appendL_mono hh e1
        exact ⟨v, h', H', by simp only [aop, hs, hx, hb, cond_true, g1], e, g2, g3⟩
    · cases e1
  case copy es d s =>
    obtain ⟨⟨v, h'⟩, e1, e⟩ := bindS e
    unfold copyK at e1
    split at e1
    · rename_i a n c b m c' hs hx
      obtain ⟨new, e2, e1⟩ := bindS e1
      obtain ⟨h1, e3, e1⟩ := mapS e1
      cases e1
      obtain ⟨H', g1, g2, g3⟩ := putCells_mono hh e3
      exact ⟨_, h', H', by simp only [aop, hs, hx, srcCells_mono hh e2, Option.bind_some, g1, Option.map_some], e, g2, g3⟩
    · cases e1
  case markS x =>
    obtain ⟨p, e1, e⟩ := bindS e
    unfold markSK at e1
    split at e1
    · rename_i q n c hx
      split at e1
      · rename_i cs es hg
        cases hb : Nat.beq es 0 || Nat.beq n 0 with
        | true => rw [hb] at e1; cases e1
        | false =>
          rw [hb] at e1
          cases e1
          obtain ⟨g1, g2⟩ := hh.put (o' := .cells cs false es) hg
          exact ⟨_, _, _, by simp only [aop, hx, hh.le _ _ hg, hb, cond_false], e, g1, g2⟩
      · cases e1
    · cases e1
  case clear zs x =>
    obtain ⟨p, e1, e⟩ := bindS e
    unfold clearK at e1
    split at e1
    · rename_i q n c hx
      obtain ⟨h', e2, e1⟩ := mapS e1
      cases e1
      obtain ⟨H', g1, g2, g3⟩ := writeCells_mono hh e2
      exact ⟨_, h', H', by simp only [aop, hx, g1]; rfl, e, g2, g3⟩
    · rename_i n c hx
      cases e1
      exact ⟨_, h, H, by simp only [aop, hx], e, hh, .refl⟩
    · cases e1
end
end Go.Proofs.YtdlfdieehioolaaDoor
