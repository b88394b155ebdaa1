/- Code that looks behind its appends: what was let go is read where it still stands. -/
import Derived.Test.YtdlfdieehioolaaDoorCode7
namespace Go.Proofs.YtdlfdieehioolaaDoor
open Go
set_option linter.unusedVariables false
set_option linter.unusedSimpArgs false
def ShOk (ι : Emb) (H : Heap) (w : World) : Prop := ∀ x ∈ H.sh, ShE ι H w x.1 x.2.1 x.2.2.1 x.2.2.2
section
variable {P : Program} {N : Nat} {ι ι' : Emb} {H H' : Heap} {w w' : World}
theorem ShOk.nil (h : H.sh = []) : ShOk ι H w := fun x hx => by rw [h] at hx; cases hx
theorem ShE.step {r base r' : Nat} {cs : List Value} (hs : Sat P ι H w) (h : ShE ι H w r base cs r') (st : Step P ι H w ι' H' w') : ShE ι' H' w' r base cs r' := by
  obtain ⟨b, d, e, h1, h2⟩ := h
  refine ⟨b, d, e, st.ext _ _ h1, ?_⟩
  rcases h2 with ⟨arr, el, fr, k1, k2, k3⟩ | ⟨e', k1⟩
  · have hlt := (Array.getElem?_eq_some_iff.1 k1).1
    refine .inl ⟨arr, el, fr, (st.frame b hlt fun r0 o0 x0 q1 q2 q3 => k3 r0 o0 x0 q1 q2 q3).trans k1, fun i v hi => ?_, fun r0 o0 x0 q1 q2 q3 => ?_⟩
    · obtain ⟨v', g1, g2⟩ := k2 i v hi
      exact ⟨v', g1, g2.mono st.ext⟩
    · rcases st.old r0 o0 x0 q1 q3 with g | ⟨r1, o1, x1, a1, a2, a3, a4⟩
      · omega
      · rw [← a4]; exact k3 r1 o1 x1 a1 (a2 q2) a3
  · exact .inr ⟨e', st.ext _ _ k1⟩
theorem ShOk.step (hs : Sat P ι H w) (h : ShOk ι H w) (st : Step P ι H w ι' H' w') (hsh : H'.sh = H.sh) : ShOk ι' H' w' := fun x hx => by
  rw [hsh] at hx; exact (h x hx).step hs st
theorem shFind_mem {r : Nat} {e : Nat × List Value × Nat} : ∀ {l : List (Nat × Nat × List Value × Nat)}, shFind r l = some e → (r, e) ∈ l := by
  intro l
  induction l with
  | nil => intro h; cases h
  | cons x l ih =>
    obtain ⟨r', e'⟩ := x
    intro h
    simp only [shFind] at h
    cases hb : Nat.beq r' r with
    | true =>
      rw [hb] at h; simp only [cond_true, Option.some.injEq] at h
      obtain rfl := Nat.eq_of_beq_eq_true hb
      subst h; exact List.mem_cons_self ..
    | false =>
      rw [hb] at h; exact List.mem_cons_of_mem _ (ih h)
theorem sameV_eq {a b : Value} (h : sameV a b = true) : a = b := by
  cases a <;> cases b <;> simp_all [sameV]
theorem sameL_eq : ∀ {a b : List Value}, sameL a b = true → a = b := by
  intro a
  induction a with
  | nil => intro b h; cases b with
    | nil => rfl
    | cons _ _ => cases h
  | cons x a ih => intro b h; cases b with
    | nil => cases h
    | cons y b =>
      simp only [sameL, Bool.and_eq_true] at h
      rw [sameV_eq h.1, ih h.2]
theorem readS_ok (hs : Sat P ι H w) (hsh : ShOk ι H w) : ∀ (f r off n : Nat) (vs : List Value), readS H f r off n = some vs →
    ∃ b d e, ι r = some (b, d, e) ∧ vs.length = n ∧ ∃ cs', All2 (CellR ι) vs cs' ∧ ∀ j v, cs'[j]? = some v → w.cell? ⟨b, d + off + j, none⟩ = some v := by
  intro f
  induction f with
  | zero => intro r off n vs h; cases h
  | succ f ih =>
    intro r off n vs h
    simp only [readS] at h
    cases hf : shFind r H.sh with
    | none =>
      rw [hf] at h
      exact readCells_ok h (hs.obj r)
    | some e0 =>
      obtain ⟨base, cs, r'⟩ := e0
      rw [hf] at h
      simp only at h
      cases hb : (Nat.ble base off && Nat.ble (off - base + n) cs.length) with
      | false => rw [hb] at h; cases h
      | true =>
        rw [hb] at h
        simp only [cond_true] at h
        rw [Bool.and_eq_true] at hb
        have hb1 := Nat.le_of_ble_eq_true hb.1
        have hb2 := Nat.le_of_ble_eq_true hb.2
        cases hr : readS H f r' (off - base) n with
        | none => simp [hr] at h
        | some vs0 =>
          simp only [hr] at h
          cases hsm : sameL vs0 ((cs.drop (off - base)).take n) with
          | false => rw [hsm] at h; cases h
          | true =>
            rw [hsm] at h
            simp only [cond_true, Option.some.injEq] at h
            subst h
            obtain ⟨b2, d2, e2, q1, q2, cs2, q3, q4⟩ := ih r' (off - base) n vs0 hr
            have heq := sameL_eq hsm
            obtain ⟨b, d, e, h1, h2⟩ := hsh _ (shFind_mem hf)
            rcases h2 with ⟨arr, el, fr, k1, k2, k3⟩ | ⟨e', k1⟩
            · have hsz : n = 0 ∨ d + off + n ≤ arr.size := by
                rcases Nat.eq_zero_or_pos n with h0 | h0
                · exact .inl h0
                · right
                  have hi : off - base + (n - 1) < cs.length := by omega
                  obtain ⟨v', g1, _⟩ := k2 _ _ (List.getElem?_eq_getElem hi)
                  have := (Array.getElem?_eq_some_iff.1 g1).1
                  simp only at this
                  omega
              refine ⟨b, d, e, h1, q2, (arr.toList.drop (d + off)).take n, ?_, ?_⟩
              · refine All2.of_get (by simp; omega) ?_
                intro i x y hx hy
                rw [heq] at hx
                rw [List.getElem?_take] at hx hy
                split at hx
                · rename_i hi
                  rw [if_pos hi] at hy
                  rw [List.getElem?_drop] at hx hy
                  obtain ⟨v', g1, g2⟩ := k2 _ _ hx
                  simp only at g1
                  rw [← Array.getElem?_toList, show d + base + (off - base + i) = d + off + i by omega, hy] at g1
                  cases g1; exact g2
                · cases hx
              · intro j v hj
                rw [List.getElem?_take] at hj
                split at hj
                · rw [List.getElem?_drop] at hj
                  simp only [World.cell?, k1]
                  simpa using hj
                · cases hj
            · simp only at k1
              rw [q1] at k1
              simp only [Option.some.injEq, Prod.mk.injEq] at k1
              obtain ⟨rfl, rfl, rfl⟩ := k1
              refine ⟨b2, d, e, h1, q2, cs2, q3, fun j v hj => ?_⟩
              have := q4 j v hj
              rw [show d + base + (off - base) + j = d + off + j by omega] at this
              exact this
section
variable {ev ρ : Operand → Value} {v : Value} {dst : Option Tmp} {ty : TypeId} {pos : String} {after : Array Edge} {guard : Option (Nat × Bool)}
theorem b_loadS {t : TypeId} {a : Operand} {g : Bool} {s : Nat} (hg : aggOf P t = some g) (hs : szOf P t = some s) (h1 : g = true ∨ s = 1) (hsat : Sat P ι H w) (hsh : ShOk ι H w)
    (he : aop ev H (.loadS g s a) = some (v, H')) (ha : VR ι (ev a) (ρ a)) :
    H' = H ∧ Big P ι H w (execOp ρ ⟨dst, .load t a, ty, pos, after, guard⟩) v H' := by
  simp only [aop] at he
  cases hv : ev a with
  | pointer p =>
    cases p with
    | none => simp [hv] at he
    | some p =>
      simp only [hv] at he ha
      obtain ⟨hsp, b, d, e, hb, hρ⟩ := ptr_inv ha
      obtain ⟨cs, hc, he⟩ := bind_some he
      obtain ⟨v1, hl, he⟩ := bind_some he
      cases he
      obtain ⟨b', d', e', hb', hlen, cs', hA, hcell⟩ := readS_ok hsat hsh _ _ _ _ _ hc
      rw [hb] at hb'; cases hb'
      have hl' := loadL_ok hl hA (fun hgf => by rcases h1 with h1 | h1 <;> simp_all)
      have hlen' : cs'.length = s := hA.length.symm.trans hlen
      have key : ∀ v', (if g then v' = Value.agg ⟨cs'⟩ else cs' = [v']) → Sem.run P (execOp ρ ⟨dst, .load t a, ty, pos, after, guard⟩) w = .ok (.value v') w := by
        intro v' hv'
        simp only [execOp, Instr.loadAt, hρ, Instr.sureAddr]
        have := run_loadVar_of (w := w) (a := ⟨b, d + p.off, none⟩) hg hs hlen' (fun j v hj => by
          have := hcell j v hj
          unfold Addr.add; split
          · rename_i h0; subst h0; simpa using this
          · exact this) v' hv'
        simp [this]
      refine ⟨rfl, ?_⟩
      cases g with
      | true => exact ⟨ι, _, w, .inl (key (.agg ⟨cs'⟩) (by simp)), by simpa using hl', Step.refl hsat⟩
      | false =>
        simp at hl'
        obtain ⟨x', e1, e2⟩ := hl'
        exact ⟨ι, _, w, .inl (key x' (by simpa using e1)), e2, Step.refl hsat⟩
  | _ => simp [hv] at he
end
/- ===== what stays of the notes ===== -/
def plainOp : AOp → Bool
  | .loadS .. | .appendS .. | .clrS | .call .. | .callv .. => false
  | _ => true
theorem writeCells_sh {r off : Nat} {vs : List Value} (h : writeCells H r off vs = some H') : H'.sh = H.sh := by
  unfold writeCells at h
  split at h
  · cases hb : Nat.ble (off + vs.length) ‹List Value›.length <;> rw [hb] at h <;> cases h; rfl
  · cases h
theorem putCells_sh {a : Option Addr} {off : Nat} {vs : List Value} (h : putCells H a off vs = some H') : H'.sh = H.sh := by
  cases a with
  | none => cases h; rfl
  | some p => exact writeCells_sh h
theorem letGo_sh {p : Addr} {c es : Nat} (h : letGo H p c es = some H') : H'.sh = H.sh := by
  unfold letGo at h
  split at h
  · cases h; rfl
  · split at h
    · revert h; rename_i cs es' _; cases hb : (Nat.beq es' es && Nat.ble (p.off + c * es) cs.length) <;> intro h <;> cases h; rfl
    · cases h
theorem growCells_sh {a : Option Addr} {n m c es : Nat} {new : List Value} {v : Value} (h : growCells H a n m c es new = some (v, H')) : H'.sh = H.sh := by
  cases a with
  | none => cases h; rfl
  | some p =>
    obtain ⟨old, _, h⟩ := bind_some h
    simp only [Option.map_eq_some_iff] at h
    obtain ⟨H1, h1, h2⟩ := h
    cases h2
    show H1.sh = H.sh
    exact letGo_sh h1
theorem appendL_sh {bytes es : Nat} {a : Option Addr} {n c m : Nat} {new : List Value} {v : Value} (h : appendL H bytes es a n c m new = some (v, H')) : H'.sh = H.sh := by
  unfold appendL at h
  cases hb : Nat.ble ((n + m) * bytes) 140737488355328 with
  | false => rw [hb] at h; cases h
  | true =>
    rw [hb] at h
    simp only [cond_true] at h
    cases hc : Nat.ble (n + m) c with
    | false => rw [hc] at h; exact growCells_sh h
    | true =>
      rw [hc] at h
      simp only [cond_true, Option.map_eq_some_iff] at h
      obtain ⟨H1, h1, h2⟩ := h
      cases h2
      exact putCells_sh h1
theorem aop_sh {ev : Operand → Value} {v : Value} {a : AOp} (hp : plainOp a = true) (hsm : smallOp a = false) (h : aop ev H a = some (v, H')) : H'.sh = H.sh := by
  cases a
  case append bytes es s x =>
    simp only [aop] at h
    split at h
    · obtain ⟨new, _, h⟩ := bind_some h
      exact appendL_sh h
    · cases h
  case appendZ bytes es zs s x =>
    simp only [aop, Bool.cond_eq_ite] at h
    split at h
    · split at h
      · exact appendL_sh h
      · cases h
    · cases h
  case copy es d s =>
    simp only [aop] at h
    split at h
    · obtain ⟨new, _, h⟩ := bind_some h
      simp only [Option.map_eq_some_iff] at h
      obtain ⟨H1, h1, h2⟩ := h
      cases h2
      exact putCells_sh h1
    · cases h
  case loadS => cases hp
  case appendS => cases hp
  case clrS => cases hp
  case call => cases hp
  case callv => cases hp
  case store sz a v =>
    simp only [aop, Bool.cond_eq_ite] at h
    split at h
    · split at h
      · obtain ⟨H1, h1, h⟩ := bind_some h
        cases h
        exact writeCells_sh h1
      · cases h
    · cases h
  case clear zs x =>
    simp only [aop] at h
    split at h
    · obtain ⟨H1, h1, h⟩ := bind_some h
      cases h
      exact writeCells_sh h1
    · cases h; rfl
    · cases h
  case rangeM =>
    simp only [aop, Bool.cond_eq_ite] at h
    (repeat' split at h) <;> cases h <;> rfl
  case nextM =>
    simp only [aop, Bool.cond_eq_ite] at h
    (repeat' split at h) <;> cases h <;> rfl
  case markS =>
    simp only [aop, Bool.cond_eq_ite] at h
    (repeat' split at h) <;> cases h <;> rfl
  case toBytes =>
    simp only [aop, Bool.cond_eq_ite] at h
    (repeat' split at h) <;> cases h <;> rfl
  case mapUpdate =>
    simp only [aop, Bool.cond_eq_ite] at h
    (repeat' split at h) <;> cases h <;> rfl
  case delete =>
    simp only [aop, Bool.cond_eq_ite] at h
    (repeat' split at h) <;> cases h <;> rfl
  all_goals cases hsm
end
/- ===== the operations that look behind ===== -/
def shOp : AOp → AOp
  | .load g s a => .loadS g s a
  | .append b e s x => .appendS b e s x
  | o => o
def shOper (o : AOper) : AOper := { o with op := shOp o.op }
section
variable {P : Program}
theorem comp_append {op : Op} {by_ es : Nat} {so xo : Operand} (hc : compOp P op = some (.append by_ es so xo)) : ∃ t u1 e e2 z, op = .call ⟨.builtin .append, #[so, xo], #[t, u1]⟩ ∧ P.underlying t = some (.slice e) ∧ P.underlying u1 = some (.slice e2) ∧
    szOf P e = some es ∧ byOf P e = some by_ ∧ zeroOf P e = some z ∧ z.cells.toList.length = es ∧ 1 ≤ es ∧ 1 ≤ by_ ∧ by_ ≤ 4294967296 := by
  cases op
  case call c =>
    obtain ⟨callee, args, ts⟩ := c
    cases callee with
    | value f =>
      cases f <;> simp only [compOp] at hc
      case func f => split at hc <;> cases hc
      all_goals cases hc
    | invoke r m => simp only [compOp] at hc; cases hc
    | builtin b =>
      simp only [compOp] at hc
      obtain ⟨l⟩ := args
      obtain ⟨tl⟩ := ts
      simp only at hc
      unfold compBuiltin at hc
      split at hc
      case h_5 =>
        split at hc
        · rename_i hu hu2
          obtain ⟨sz, hsz, hc⟩ := bind_some hc
          obtain ⟨by_, hby, hc⟩ := bind_some hc
          obtain ⟨z, hz, hc⟩ := bind_some hc
          split at hc
          · rename_i hcond
            cases hc
            exact ⟨_, _, _, _, z, rfl, hu, hu2, hsz, hby, hz, hcond.2.2.2, hcond.1, hcond.2.1, hcond.2.2.1⟩
          · cases hc
        · rename_i hu hu2
          obtain ⟨sz, hsz, hc⟩ := bind_some hc
          obtain ⟨by_, hby, hc⟩ := bind_some hc
          obtain ⟨z, hz, hc⟩ := bind_some hc
          split at hc <;> cases hc
        · cases hc
      all_goals repeat' first | (cases hc; done) | split at hc | (obtain ⟨_, _, hc⟩ := bind_some hc)
  case convert =>
    simp only [compOp, Bool.cond_eq_ite] at hc
    repeat' first | (cases hc; done) | split at hc | (obtain ⟨_, _, hc⟩ := bind_some hc)
  case next x str => cases str <;> simp only [compOp] at hc <;> cases hc
  case binOp op _ _ _ _ =>
    cases op <;> simp only [compOp] at hc <;> (repeat' first | (cases hc; done) | split at hc | (obtain ⟨_, _, hc⟩ := bind_some hc))
  case makeFunc f _ _ => cases f <;> simp only [compOp] at hc <;> cases hc
  case makeMap t n =>
    cases n with
    | none => simp only [compOp] at hc; cases hc
    | some n =>
      cases n with
      | const v => cases v <;> simp only [compOp] at hc <;> first | (cases hc; done) | (split at hc <;> cases hc)
      | _ => simp only [compOp] at hc; cases hc
  all_goals simp only [compOp] at hc
  all_goals (repeat' first | (cases hc; done) | split at hc | (obtain ⟨_, _, hc⟩ := bind_some hc))
def sOp : AOp → Prop
  | .loadS .. | .appendS .. | .clrS => True
  | _ => False
theorem noS {op : Op} {a : AOp} (hc : compOp P op = some a) (h : sOp a := by trivial) : False := by
  cases op
  case call c =>
    obtain ⟨callee, args, ts⟩ := c
    cases callee with
    | value f =>
      cases f <;> simp only [compOp] at hc
      case func f => split at hc <;> cases hc; exact h
      all_goals (cases hc; exact h)
    | invoke r m => simp only [compOp] at hc; cases hc
    | builtin b =>
      simp only [compOp] at hc
      obtain ⟨l⟩ := args
      obtain ⟨tl⟩ := ts
      simp only at hc
      unfold compBuiltin at hc
      split at hc
      all_goals repeat' first | (cases hc; done) | (cases hc; exact h) | split at hc | (obtain ⟨_, _, hc⟩ := bind_some hc)
  case convert =>
    simp only [compOp, Bool.cond_eq_ite] at hc
    repeat' first | (cases hc; done) | (cases hc; exact h) | split at hc | (obtain ⟨_, _, hc⟩ := bind_some hc)
  case next x str => cases str <;> simp only [compOp] at hc <;> cases hc; exact h
  case binOp op _ _ _ _ =>
    cases op <;> simp only [compOp] at hc <;> (repeat' first | (cases hc; done) | (cases hc; exact h) | split at hc | (obtain ⟨_, _, hc⟩ := bind_some hc))
  case makeFunc f _ _ => cases f <;> simp only [compOp] at hc <;> cases hc; exact h
  case makeMap t n =>
    cases n with
    | none => simp only [compOp] at hc; cases hc; exact h
    | some n =>
      cases n with
      | const v => cases v <;> simp only [compOp] at hc <;> first | (cases hc; done) | (split at hc <;> cases hc; exact h)
      | _ => simp only [compOp] at hc; cases hc
  all_goals simp only [compOp] at hc
  all_goals (repeat' first | (cases hc; done) | (cases hc; exact h) | split at hc | (obtain ⟨_, _, hc⟩ := bind_some hc))
theorem comp_load {op : Op} {g : Bool} {s : Nat} {a : Operand} (hc : compOp P op = some (.load g s a)) : ∃ t, op = .load t a ∧ aggOf P t = some g ∧ szOf P t = some s ∧ (g = true ∨ s = 1) := by
  cases op
  case load t a' =>
    simp only [compOp] at hc
    obtain ⟨g', hg, hc⟩ := bind_some hc
    obtain ⟨s', hs, hc⟩ := bind_some hc
    split at hc
    · rename_i h1
      cases hc
      exact ⟨t, rfl, hg, hs, h1⟩
    · cases hc
  case call c =>
    obtain ⟨callee, args, ts⟩ := c
    cases callee with
    | value f =>
      cases f <;> simp only [compOp] at hc
      case func f => split at hc <;> cases hc
      all_goals cases hc
    | invoke r m => simp only [compOp] at hc; cases hc
    | builtin b =>
      simp only [compOp] at hc
      obtain ⟨l⟩ := args
      obtain ⟨tl⟩ := ts
      simp only at hc
      unfold compBuiltin at hc
      split at hc
      all_goals repeat' first | (cases hc; done) | split at hc | (obtain ⟨_, _, hc⟩ := bind_some hc)
  case convert =>
    simp only [compOp, Bool.cond_eq_ite] at hc
    repeat' first | (cases hc; done) | split at hc | (obtain ⟨_, _, hc⟩ := bind_some hc)
  case next x str => cases str <;> simp only [compOp] at hc <;> cases hc
  case binOp op _ _ _ _ =>
    cases op <;> simp only [compOp] at hc <;> (repeat' first | (cases hc; done) | split at hc | (obtain ⟨_, _, hc⟩ := bind_some hc))
  case makeFunc f _ _ => cases f <;> simp only [compOp] at hc <;> cases hc
  case makeMap t n =>
    cases n with
    | none => simp only [compOp] at hc; cases hc
    | some n =>
      cases n with
      | const v => cases v <;> simp only [compOp] at hc <;> first | (cases hc; done) | (split at hc <;> cases hc)
      | _ => simp only [compOp] at hc; cases hc
  all_goals simp only [compOp] at hc
  all_goals (repeat' first | (cases hc; done) | split at hc | (obtain ⟨_, _, hc⟩ := bind_some hc))
theorem comp_plain {op : Op} {a : AOp} (hc : compOp P op = some a) (hcall : isCall a = false) : plainOp a = true := by
  cases a
  case call => cases hcall
  case callv => cases hcall
  case loadS => exact (noS hc).elim
  case appendS => exact (noS hc).elim
  case clrS => exact (noS hc).elim
  all_goals rfl
end
/- ===== one operation, a region ===== -/
section
variable {P : Program} {N : Nat} {ι : Emb} {w : World}
theorem ShOk.noteS {H H1 : Heap} {ι' : Emb} {w' : World} {a : Option Addr} {n c m es : Nat} (hs : Sat P ι H w) (h : ShOk ι H w) (st : Step P ι H w ι' H1 w') (hsh : H1.sh = H.sh)
    (hn : ∀ (r off n2 c2 : Nat) (old : List Value), (Value.slice a n c) = .slice (some ⟨r, off, none⟩) n2 c2 → c2 < n2 + m → readCells H r off (n2 * es) = some old → ShE ι' H1 w' r off old H.next) :
    ShOk ι' (Go.Proofs.YtdlfdieehioolaaDoor.noteS H H1 a n c m es) w' ∧ Step P ι H w ι' (Go.Proofs.YtdlfdieehioolaaDoor.noteS H H1 a n c m es) w' := by
  have h0 := h.step hs st hsh
  unfold Go.Proofs.YtdlfdieehioolaaDoor.noteS
  split
  · rename_i r off
    cases hb : Nat.ble (n + m) c with
    | true => exact ⟨h0, st⟩
    | false =>
      simp only [cond_false]
      have hlt : c < n + m := by
        rcases Nat.lt_or_ge c (n + m) with h | h
        · exact h
        · rw [Nat.ble_eq_true_of_le h] at hb; cases hb
      split
      · rename_i old hr
        refine ⟨fun x hx => ?_, ⟨st.ext, ⟨st.sat.obj, st.sat.apart, st.sat.fresh⟩, st.dom, st.next, st.frame, st.size, st.os, st.tape, st.output, st.old, st.ro⟩⟩
        rcases List.mem_cons.1 hx with rfl | hx
        · exact hn r off n c old rfl hlt hr
        · exact h0 x hx
      · exact ⟨h0, st⟩
  · exact ⟨h0, st⟩
theorem opS_sound {o : Oper} {a : AOp} {ev : Operand → Value} {act : Act} {H H' : Heap} {v : Value} {F : Fence} (hF : FOk F)
    (hc : compOp P o.op = some a) (hcall : isCall a = false) (hcs : smallSrc o.op = true → smallOp a = true) (hs : Sat P ι H w) (hsh : ShOk ι H w) (hev : EvOk P ι ev act.eval o.op.operands.toList)
    (he : aop ev H (shOp a) = some (v, H')) {next : Act → World → Prop} {Q : Exit → Act → World → Prop}
    (hk : ∀ ι' v' w', VR ι' v v' → Step P ι H w ι' H' w' → ShOk ι' H' w' → next (act.put o.dst v') w') : o.wpIn F 0 P act w next Q := by
  refine ⟨fun f _ => hF.fn f, ?_⟩
  have hsem : o.semAt F.round act.eval = execOp act.eval o := by
    unfold Oper.semAt
    split
    · rename_i c hop; rw [hop] at hc; simp only [compOp] at hc; cases hc
    · rfl
  rw [hsem]
  obtain ⟨dst, op, ty, pos, after, guard⟩ := o
  simp only at hc hcs hev hk
  have key : ∃ ι' v' w', Runs P (execOp act.eval ⟨dst, op, ty, pos, after, guard⟩) w v' w' ∧ VR ι' v v' ∧ Step P ι H w ι' H' w' ∧ ShOk ι' H' w' := by
    have gen : aop ev H a = some (v, H') → ∃ ι' v' w', Runs P (execOp act.eval ⟨dst, op, ty, pos, after, guard⟩) w v' w' ∧ VR ι' v v' ∧ Step P ι H w ι' H' w' ∧ ShOk ι' H' w' := by
      intro he
      obtain ⟨ι', v', w', h1, h2, h3⟩ := big_sound (dst := dst) (ty := ty) (pos := pos) (after := after) (guard := guard) hc hcall hcs hs he hev.rel hev.const
      refine ⟨ι', v', w', h1, h2, h3, hsh.step hs h3 ?_⟩
      cases hsm : smallOp a with
      | true =>
        rcases small_sound (dst := dst) (ty := ty) (pos := pos) (after := after) (guard := guard) hc hsm he hev.rel hev.const (hs.reads _) with ⟨rfl, _⟩ | ⟨ob, c, e, _, rfl, _⟩
        · rfl
        · rfl
      | false => exact aop_sh (comp_plain hc hcall) hsm he
    cases a
    case load g sz x =>
      obtain ⟨t, rfl, hg, hz, h1⟩ := comp_load hc
      obtain ⟨rfl, ι', v', w', h2, h3, h4⟩ := b_loadS (dst := dst) (ty := ty) (pos := pos) (after := after) (guard := guard) hg hz h1 hs hsh he (hev.rel x (by simp [Op.operands]))
      exact ⟨ι', v', w', h2, h3, h4, hsh.step hs h4 rfl⟩
    case append by_ es so xo =>
      obtain ⟨t, u1, e, e2, z, rfl, hu, hu2, hsz, hb, hz, hzl, hes, hby, hby2⟩ := comp_append hc
      simp only [shOp, aop] at he
      cases hvs : ev so with
      | slice a n c =>
        cases hvx : ev xo with
        | slice b m c2 =>
          simp only [hvs, hvx] at he
          obtain ⟨new, h1, he⟩ := bind_some he
          simp only [Option.map_eq_some_iff] at he
          obtain ⟨⟨v1, H1⟩, h2, he⟩ := he
          cases he
          have he0 : aop ev H (.append by_ es so xo) = some (v1, H1) := by
            simp only [aop, hvs, hvx, h1, Option.bind_some]
            exact h2
          obtain ⟨m', ⟨b', c', hm⟩, ι', v', w', q1, q2, q3, q4⟩ := b_appendA (dst := dst) (ty := ty) (pos := pos) (after := after) (guard := guard) hu hu2 hsz hb hz hzl hes hby hby2 hs he0
            (hev.rel so (by simp [Op.operands, Call.operands])) (hev.rel xo (by simp [Op.operands, Call.operands]))
          rw [hvx] at hm; cases hm
          rw [hvs] at q4
          have hs1 : H1.sh = H.sh := appendL_sh h2
          obtain ⟨g1, g2⟩ := hsh.noteS (m := m) (es := es) hs q3 hs1 q4
          exact ⟨ι', v', w', q1, q2, g2, g1⟩
        | _ => simp [hvs, hvx] at he
      | _ => simp [hvs] at he
    all_goals exact gen he
  obtain ⟨ι', v', w', h1, h2, h3, h4⟩ := key
  rcases h1 with h1 | ⟨h1, rfl⟩
  · rw [h1]; exact hk ι' v' w' h2 h3 h4
  · rw [h1]; exact hk ι' _ w' h2 h3 h4
theorem ops_soundS {self : Self} {F : Fence} (hF : FOk F) {ops : Array Oper} {Q : Exit → Act → World → Prop} : ∀ (l : List Oper) (k : Nat) (xs : List AOper) (s s' : St) (ι : Emb) (a : Act) (w : World),
    (∀ j, l[j]? = ops[k + j]?) → mapM? (compOper P N ops) l = some xs → (xs.all fun o => !isCall o.op) = true → opsRun self (xs.map shOper) s = some s' → ActR P ι N s a w → ShOk ι s.h w →
    (∀ ι' a' w', Step P ι s.h w ι' s'.h w' → ActR P ι' N s' a' w' → ShOk ι' s'.h w' → Q .normal a' w') →
    wpOpsIn F 0 P ops Q (List.range' k l.length) a w := by
  intro l
  induction l with
  | nil =>
    intro k xs s s' ι a w hl hm hnc hr ha hsh hQ
    simp [mapM?] at hm; subst hm
    simp [opsRun] at hr; subst hr
    simp only [List.length_nil, List.range'_zero, wpOpsIn]
    exact hQ ι a w (Step.refl ha.sat) ha hsh
  | cons o l ih =>
    intro k xs s s' ι a w hl hm hnc hr ha hsh hQ
    have ho : ops[k]? = some o := by simpa using (hl 0).symm
    simp only [mapM?] at hm
    cases hc : compOper P N ops o with
    | none => simp [hc] at hm
    | some x =>
      cases hm' : mapM? (compOper P N ops) l with
      | none => simp [hc, hm'] at hm
      | some xs' =>
        simp only [hc, hm', Option.some.injEq] at hm; subst hm
        obtain ⟨c1, c2, c3, c4, c5, c6⟩ := compOper_inv hc
        simp only [List.all_cons, Bool.and_eq_true, Bool.not_eq_true'] at hnc
        obtain ⟨hn1, hn2⟩ := hnc
        simp only [List.map_cons, opsRun] at hr
        cases hx : operRun self (shOper x) s with
        | none => simp [hx] at hr
        | some s1 =>
          simp only [hx] at hr
          have hl' : ∀ j, l[j]? = ops[k + 1 + j]? := fun j => by have := hl (j + 1); simpa [Nat.add_assoc, Nat.add_comm 1 j] using this
          simp only [List.length_cons, List.range'_succ, wpOpsIn, ho]
          have hw := wanted_rel (ι := ι) (tm := s.tm) (a := a) hc (fun t _ => ha.tm t)
          rw [hw]
          have hd := dstOk_le c3 ha.size
          unfold operRun at hx
          have hg1 : (shOper x).guard = x.guard := rfl
          have hg2 : (shOper x).dst = x.dst := rfl
          rw [hg1, hg2] at hx
          cases hwa : wantedA s.tm x.guard with
          | true =>
            rw [hwa] at hx
            simp only [cond_true] at hx
            simp only [if_true]
            have hop' : opRun self (St.val s.tm) s.h (shOper x).op = aop (St.val s.tm) s.h (shOp x.op) := by
              show opRun self (St.val s.tm) s.h (shOp x.op) = _
              cases hxo : x.op <;> first | rfl | (rw [hxo] at hn1; cases hn1)
            rw [hop'] at hx
            cases hop : aop (St.val s.tm) s.h (shOp x.op) with
            | none => simp [hop] at hx
            | some r =>
              obtain ⟨v, H1⟩ := r
              simp only [hop, Option.some.injEq] at hx; subst hx
              refine opS_sound hF c1 hn1 c5 ha.sat hsh (evOk ha.tm ha.glob c4) hop ?_
              intro ι' v' w' hv hst hsh'
              have ha' : ActR P ι' N { s with tm := setDst s.tm x.dst v, h := H1 } (a.put o.dst v') w' :=
                ⟨by rw [c2]; exact put_rel (fun t => (ha.tm t).mono hst.ext) hv hd, by rw [put_size]; exact ha.size, by rw [put_defers']; exact DefR.mono hst.ext ha.ds, hst.sat, ha.glob.mono hst.ext⟩
              refine ih (k + 1) xs' _ s' ι' _ w' hl' hm' hn2 hr ha' hsh' ?_
              intro ι2 a2 w2 hst2 ha2 hsh2
              exact hQ ι2 a2 w2 (hst.trans hst2) ha2 hsh2
          | false =>
            rw [hwa] at hx
            simp only [cond_false, Option.some.injEq] at hx; subst hx
            simp only [Bool.false_eq_true, if_false]
            refine ⟨fun f _ => hF.fn f, ?_⟩
            have ha' : ActR P ι N { s with tm := setDst s.tm x.dst undef } (a.put o.dst undef) w :=
              ⟨by rw [c2]; exact put_rel ha.tm (VR.undef _) hd, by rw [put_size]; exact ha.size, by rw [put_defers']; exact ha.ds, ha.sat, ha.glob⟩
            refine ih (k + 1) xs' _ s' ι _ w hl' hm' hn2 hr ha' hsh ?_
            intro ι2 a2 w2 hst2 ha2 hsh2
            exact hQ ι2 a2 w2 hst2 ha2 hsh2
/- ===== code ===== -/
def clrO : AOper := ⟨none, .clrS, none⟩
def clrC : AC := .reg [clrO]
def shFence (x : AC) : AC := .seq clrC (.seq x clrC)
def shAC : AC → AC
  | .reg ops => bif ops.all (fun o => !isCall o.op) then .reg (ops.map shOper) else shFence (.reg ops)
  | .regd ops => shFence (.regd ops)
  | .seq a b => .seq (shAC a) (shAC b)
  | .cond c a b => .cond c (shAC a) (shAC b)
  | .block id b => .block id (shAC b)
  | .loop b => .loop (shAC b)
  | .range _ _ _ _ => .bad
  | x => x
def shBody (x : AC) : AC := .seq clrC (shAC x)
def St.clr (s : St) : St := { s with h := { s.h with sh := [] } }
theorem run_clr {self : Self} {n : Nat} {rd : Option Nat} {s : St} : run self n rd clrC s = some (.normal, s.clr) := rfl
theorem Step.clrL {H H' : Heap} {ι' : Emb} {w' : World} {l : List (Nat × Nat × List Value × Nat)} (h : Step P ι { H with sh := l } w ι' H' w') : Step P ι H w ι' H' w' :=
  ⟨h.ext, h.sat, h.dom, h.next, h.frame, h.size, h.os, h.tape, h.output, h.old, h.ro⟩
theorem Step.clrR {H H' : Heap} {ι' : Emb} {w' : World} {l : List (Nat × Nat × List Value × Nat)} (h : Step P ι H w ι' H' w') : Step P ι H w ι' { H' with sh := l } w' :=
  ⟨h.ext, ⟨h.sat.obj, h.sat.apart, h.sat.fresh⟩, h.dom, h.next, h.frame, h.size, h.os, h.tape, h.output, h.old, h.ro⟩
theorem ActR.clr {s : St} {a : Act} (h : ActR P ι N s a w) : ActR P ι N s.clr a w := ⟨h.tm, h.size, h.ds, ⟨h.sat.obj, h.sat.apart, h.sat.fresh⟩, h.glob⟩
theorem loopN_soundS {F : Fence} {c : Code} {f : St → Option (AExit × St)} {Q : Exit → Act → World → Prop} {rd : Option Nat}
    (hb : ∀ (s : St) (e : AExit) (s' : St) (ι : Emb) (a : Act) (w : World) (Q : Exit → Act → World → Prop), f s = some (e, s') → ActR P ι N s a w → ShOk ι s.h w → RdOk ι F rd →
      (∀ ι' a' w', Step P ι s.h w ι' s'.h w' → ActR P ι' N s' a' w' → ShOk ι' s'.h w' → Q e.toExit a' w') → c.wpIn F 0 P Q a w) :
    ∀ (k : Nat) (s : St) (e : AExit) (s' : St) (ι : Emb) (a : Act) (w : World), loopN f k s = some (e, s') → ActR P ι N s a w → ShOk ι s.h w → RdOk ι F rd →
      (∀ ι' a' w', Step P ι s.h w ι' s'.h w' → ActR P ι' N s' a' w' → ShOk ι' s'.h w' → Q e.toExit a' w') → Code.roundsIn F 0 P c Q k a w := by
  intro k
  induction k with
  | zero => intro s e s' ι a w h; simp [loopN] at h
  | succ k ih =>
    intro s e s' ι a w h ha hsh hrd hQ
    simp only [loopN] at h
    rw [roundsIn_succ]
    cases hf : f s with
    | none => simp [hf] at h
    | some r =>
      obtain ⟨e1, s1⟩ := r
      refine hb s e1 s1 ι a w _ hf ha hsh hrd ?_
      intro ι' a' w' hst ha' hsh'
      cases e1 with
      | normal =>
        simp only [hf] at h
        exact ih s1 e s' ι' a' w' h ha' hsh' (hrd.mono hst.ext) fun ι2 a2 w2 hst2 ha2 hsh2 => hQ ι2 a2 w2 (hst.trans hst2) ha2 hsh2
      | exit id =>
        simp only [hf, Option.some.injEq, Prod.mk.injEq] at h
        obtain ⟨rfl, rfl⟩ := h
        exact hQ ι' a' w' hst ha' hsh'
      | ret =>
        simp only [hf, Option.some.injEq, Prod.mk.injEq] at h
        obtain ⟨rfl, rfl⟩ := h
        exact hQ ι' a' w' hst ha' hsh'
theorem run_soundS {self : Self} (hself : SelfOk P self) (hm : P.follows .mixedOrders = true) (n : Nat) : ∀ (c : Code) (x : AC) (rd : Option Nat) (F : Fence), compCode P N c = some x →
    ∀ (s : St) (e : AExit) (s' : St) (ι : Emb) (a : Act) (w : World) (Q : Exit → Act → World → Prop), run self n rd (shAC x) s = some (e, s') → ActR P ι N s a w → ShOk ι s.h w → RdOk ι F rd →
      (∀ ι' a' w', Step P ι s.h w ι' s'.h w' → ActR P ι' N s' a' w' → ShOk ι' s'.h w' → Q e.toExit a' w') → c.wpIn F 0 P Q a w := by
  -- a piece that is fenced off
  have fenced : ∀ (c : Code) (x : AC) (rd : Option Nat) (F : Fence), compCode P N c = some x → ∀ (s : St) (e : AExit) (s' : St) (ι : Emb) (a : Act) (w : World) (Q : Exit → Act → World → Prop), run self n rd (shFence x) s = some (e, s') →
      (∀ s0 e0 s1, run self n rd x s0 = some (e0, s1) → e0 = .normal) → ActR P ι N s a w → RdOk ι F rd → (∀ ι' a' w', Step P ι s.h w ι' s'.h w' → ActR P ι' N s' a' w' → ShOk ι' s'.h w' → Q e.toExit a' w') → c.wpIn F 0 P Q a w := by
    intro c x rd F hc s e s' ι a w Q hr hnorm ha hrd hQ
    simp only [shFence, run, run_clr] at hr
    cases hf : run self n rd x s.clr with
    | none => simp [hf] at hr
    | some r =>
      obtain ⟨e1, s1⟩ := r
      obtain rfl := hnorm _ _ _ hf
      simp only [hf, run_clr, Option.some.injEq, Prod.mk.injEq] at hr
      obtain ⟨rfl, rfl⟩ := hr
      refine run_sound hself hm n c x rd F hc s.clr .normal s1 ι a w Q hf ha.clr hrd ?_
      intro ι' a' w' hst ha'
      exact hQ ι' a' w' (Step.clrR (Step.clrL hst)) ha'.clr (ShOk.nil rfl)
  intro c
  induction c with
  | skip =>
    intro x rd F hc s e s' ι a w Q hr ha hsh hrd hQ
    simp only [compCode, Option.some.injEq] at hc; subst hc
    simp only [shAC, run, Option.some.injEq, Prod.mk.injEq] at hr
    obtain ⟨rfl, rfl⟩ := hr
    exact wpIn_skip (hQ ι a w (Step.refl ha.sat) ha hsh)
  | label l =>
    intro x rd F hc s e s' ι a w Q hr ha hsh hrd hQ
    simp only [compCode, Option.some.injEq] at hc; subst hc
    simp only [shAC, run, Option.some.injEq, Prod.mk.injEq] at hr
    obtain ⟨rfl, rfl⟩ := hr
    exact wpIn_label (hQ ι a w (Step.refl ha.sat) ha hsh)
  | exit id =>
    intro x rd F hc s e s' ι a w Q hr ha hsh hrd hQ
    simp only [compCode, Option.some.injEq] at hc; subst hc
    simp only [shAC, run, Option.some.injEq, Prod.mk.injEq] at hr
    obtain ⟨rfl, rfl⟩ := hr
    exact wpIn_exit (hQ ι a w (Step.refl ha.sat) ha hsh)
  | ret =>
    intro x rd F hc s e s' ι a w Q hr ha hsh hrd hQ
    simp only [compCode, Option.some.injEq] at hc; subst hc
    simp only [shAC, run, Option.some.injEq, Prod.mk.injEq] at hr
    obtain ⟨rfl, rfl⟩ := hr
    exact wpIn_ret (hQ ι a w (Step.refl ha.sat) ha hsh)
  | goto l =>
    intro x rd F hc s e s' ι a w Q hr ha hsh hrd hQ
    simp only [compCode, Option.some.injEq] at hc; subst hc
    simp [shAC, run] at hr
  | refuse r =>
    intro x rd F hc s e s' ι a w Q hr ha hsh hrd hQ
    simp only [compCode, Option.some.injEq] at hc; subst hc
    simp [shAC, run] at hr
  | scope c ih =>
    intro x rd F hc s e s' ι a w Q hr ha hsh hrd hQ
    simp only [compCode] at hc
    exact wpIn_scope (ih x rd F hc s e s' ι a w _ hr ha hsh hrd fun ι' a' w' h1 h2 h3 => ⟨fun l h => (by cases e <;> cases h), hQ ι' a' w' h1 h2 h3⟩)
  | region id ops draw =>
    intro x rd F hc s e s' ι a w Q hr ha hsh hrd hQ
    have hc0 := hc
    cases draw with
    | false =>
      simp only [compCode] at hc
      cases hos : mapM? (compOper P N ops) ops.toList with
      | none =>
        simp only [hos, Option.some.injEq] at hc; subst hc
        simp [shAC, run] at hr
      | some os =>
      simp only [hos, Option.some.injEq] at hc; subst hc
      simp only [shAC] at hr
      cases hnc : (os.all fun o => !isCall o.op) with
      | true =>
        rw [hnc] at hr
        simp only [cond_true, run] at hr
        cases hrr : opsRun self (os.map shOper) s with
        | none => simp [hrr] at hr
        | some s1 =>
          simp only [hrr, Option.some.injEq, Prod.mk.injEq] at hr
          obtain ⟨rfl, rfl⟩ := hr
          refine wpIn_region ?_
          rw [List.range_eq_range']
          have := ops_soundS (self := self) (ops := ops) (Q := Q) hrd.fok ops.toList 0 os s s1 ι a w (fun j => by simp) hos hnc hrr ha hsh (fun ι' a' w' h1 h2 h3 => hQ ι' a' w' h1 h2 h3)
          simpa using this
      | false =>
        rw [hnc] at hr
        simp only [cond_false] at hr
        refine fenced _ _ rd F hc0 s e s' ι a w Q hr (fun s0 e0 s1 h => ?_) ha hrd hQ
        simp only [run] at h
        split at h <;> cases h
        rfl
    | true =>
      simp only [compCode] at hc
      cases hds : mapM? (fun p : Oper × Nat => doperOf P N ops (ancs ops) p.2 p.1) ops.toList.zipIdx with
      | none =>
        simp only [hds, Option.some.injEq] at hc; subst hc
        simp [shAC, run] at hr
      | some ds =>
      simp only [hds] at hc
      split at hc
      · rename_i hp
        simp only [Option.some.injEq] at hc; subst hc
        simp only [shAC] at hr
        refine fenced _ _ rd F hc0 s e s' ι a w Q hr (fun s0 e0 s1 h => ?_) ha hrd hQ
        simp only [run] at h
        split at h <;> cases h
        rfl
      · simp only [Option.some.injEq] at hc; subst hc
        simp [shAC, run] at hr
  | seq c d ihc ihd =>
    intro x rd F hc s e s' ι a w Q hr ha hsh hrd hQ
    simp only [compCode] at hc
    obtain ⟨xc, hxc, hc⟩ := bind_some hc
    obtain ⟨xd, hxd, hc⟩ := bind_some hc
    simp only [Option.some.injEq] at hc; subst hc
    simp only [shAC, run] at hr
    cases hf : run self n rd (shAC xc) s with
    | none => simp [hf] at hr
    | some r =>
      obtain ⟨e1, s1⟩ := r
      refine wpIn_seq (ihc xc rd F hxc s e1 s1 ι a w _ hf ha hsh hrd ?_)
      intro ι' a' w' hst ha' hsh'
      cases e1 with
      | normal =>
        simp only [hf] at hr
        exact ihd xd rd F hxd s1 e s' ι' a' w' Q hr ha' hsh' (hrd.mono hst.ext) fun ι2 a2 w2 hst2 ha2 hsh2 => hQ ι2 a2 w2 (hst.trans hst2) ha2 hsh2
      | exit id =>
        simp only [hf, Option.some.injEq, Prod.mk.injEq] at hr
        obtain ⟨rfl, rfl⟩ := hr
        exact hQ ι' a' w' hst ha' hsh'
      | ret =>
        simp only [hf, Option.some.injEq, Prod.mk.injEq] at hr
        obtain ⟨rfl, rfl⟩ := hr
        exact hQ ι' a' w' hst ha' hsh'
  | cond t c d ihc ihd =>
    intro x rd F hc s e s' ι a w Q hr ha hsh hrd hQ
    simp only [compCode] at hc
    obtain ⟨xc, hxc, hc⟩ := bind_some hc
    obtain ⟨xd, hxd, hc⟩ := bind_some hc
    simp only [Option.some.injEq] at hc; subst hc
    simp only [shAC, run] at hr
    split at hr
    · rename_i ht
      exact wpIn_cond_true (bool_val ha.tm ht) (ihc xc rd F hxc s e s' ι a w Q hr ha hsh hrd hQ)
    · rename_i ht
      exact wpIn_cond_false (bool_val ha.tm ht) (ihd xd rd F hxd s e s' ι a w Q hr ha hsh hrd hQ)
    · cases hr
  | block id c ih =>
    intro x rd F hc s e s' ι a w Q hr ha hsh hrd hQ
    simp only [compCode] at hc
    obtain ⟨xc, hxc, hc⟩ := bind_some hc
    simp only [Option.some.injEq] at hc; subst hc
    simp only [shAC, run] at hr
    cases hf : run self n rd (shAC xc) s with
    | none => simp [hf] at hr
    | some r =>
      obtain ⟨e1, s1⟩ := r
      refine wpIn_block (ih xc rd F hxc s e1 s1 ι a w _ hf ha hsh hrd ?_)
      intro ι' a' w' hst ha' hsh'
      cases e1 with
      | normal =>
        simp only [hf, Option.some.injEq, Prod.mk.injEq] at hr
        obtain ⟨rfl, rfl⟩ := hr
        exact hQ ι' a' w' hst ha' hsh'
      | exit id' =>
        simp only [hf] at hr
        show if id' = id then Q .normal a' w' else Q (.exit id') a' w'
        by_cases hid : id' = id
        · rw [if_pos hid]
          have : Nat.beq id' id = true := by rw [hid]; exact Nat.beq_refl id
          rw [this] at hr
          simp only [cond_true, Option.some.injEq, Prod.mk.injEq] at hr
          obtain ⟨rfl, rfl⟩ := hr
          exact hQ ι' a' w' hst ha' hsh'
        · rw [if_neg hid]
          have : Nat.beq id' id = false := by
            cases hb : Nat.beq id' id with
            | false => rfl
            | true => exact absurd (Nat.eq_of_beq_eq_true hb) hid
          rw [this] at hr
          simp only [cond_false, Option.some.injEq, Prod.mk.injEq] at hr
          obtain ⟨rfl, rfl⟩ := hr
          exact hQ ι' a' w' hst ha' hsh'
      | ret =>
        simp only [hf, Option.some.injEq, Prod.mk.injEq] at hr
        obtain ⟨rfl, rfl⟩ := hr
        exact hQ ι' a' w' hst ha' hsh'
  | loop c ih =>
    intro x rd F hc s e s' ι a w Q hr ha hsh hrd hQ
    simp only [compCode] at hc
    obtain ⟨xc, hxc, hc⟩ := bind_some hc
    simp only [Option.some.injEq] at hc; subst hc
    simp only [shAC, run] at hr
    exact wpIn_loop_rounds n (loopN_soundS (f := run self n rd (shAC xc)) (fun s e s' ι a w Q => ih xc rd F hxc s e s' ι a w Q) n s e s' ι a w hr ha hsh hrd hQ)
  | rangeFunc g ps as bd iha ihb =>
    intro x rd F hc s e s' ι a w Q hr ha hsh hrd hQ
    simp only [compCode] at hc
    obtain ⟨xas, hxas, hc⟩ := bind_some hc
    obtain ⟨xbd, hxbd, hc⟩ := bind_some hc
    split at hc
    · simp only [Option.some.injEq] at hc; subst hc
      simp only [shAC, run] at hr
      cases hr
    · cases hc
theorem run_soundB {self : Self} (hself : SelfOk P self) (hm : P.follows .mixedOrders = true) (n : Nat) (c : Code) (x : AC) (rd : Option Nat) (F : Fence) (hc : compCode P N c = some x)
    (s : St) (e : AExit) (s' : St) (ι : Emb) (a : Act) (w : World) (Q : Exit → Act → World → Prop) (hr : run self n rd (shBody x) s = some (e, s')) (ha : ActR P ι N s a w) (hrd : RdOk ι F rd)
    (hQ : ∀ ι' a' w', Step P ι s.h w ι' s'.h w' → ActR P ι' N s' a' w' → Q e.toExit a' w') : c.wpIn F 0 P Q a w := by
  simp only [shBody, run, run_clr] at hr
  exact run_soundS hself hm n c x rd F hc s.clr e s' ι a w Q hr ha.clr (ShOk.nil rfl) hrd fun ι' a' w' h1 h2 _ => hQ ι' a' w' (Step.clrL h1) h2
end
end Go.Proofs.YtdlfdieehioolaaDoor
