/- The second semantics' runs are runs of the first one: operations and regions. -/
import Derived.Test.YtdlfdieehioolaaDoorB3
namespace Go.Proofs.YtdlfdieehioolaaDoor
open Go
set_option linter.unusedVariables false
set_option linter.unusedSimpArgs false
def RR (l : Nat) : Option Rg → Option Value → Prop
  | some (.val v), x => x = some v
  | some .ym, x => x = some (.func (.yield l) #[] #[])
  | none, _ => True
def TmR (l : Nat) (t2 : Rt) (tm : Tr Value) : Prop := ∀ k, RR l (t2.get k) (tm.get k)
section
variable {l : Nat} {t2 : Rt} {tm : Tr Value}
theorem TmR.set (h : TmR l t2 tm) (d : Nat) (v : Value) : TmR l (t2.set d (some (.val v))) (tm.set d (some v)) := fun k => by
  rw [Tr.get_set, Tr.get_set]
  by_cases e : k = d
  · rw [if_pos e, if_pos e]; rfl
  · rw [if_neg e, if_neg e]; exact h k
theorem TmR.dst (h : TmR l t2 tm) (d : Option Nat) (v : Value) : TmR l (dstB t2 d v) (setDst tm d v) := by
  cases d with
  | none => exact h
  | some d => exact h.set d v
theorem TmR.ym (h : TmR l t2 tm) (d : Option Nat) : TmR l (dstYm t2 d) (setDst tm d (.func (.yield l) #[] #[])) := by
  cases d with
  | none => exact h
  | some d =>
    intro k
    simp only [dstYm, setDst, Tr.get_set]
    by_cases e : k = d
    · rw [if_pos e, if_pos e]; rfl
    · rw [if_neg e, if_neg e]; exact h k
theorem get_delR : ∀ {ds : List Nat} {t2 : Rt} {k : Nat}, (delR t2 ds).get k = if k ∈ ds then none else t2.get k := by
  intro ds
  induction ds with
  | nil => intro t2 k; simp [delR]
  | cons d ds ih =>
    intro t2 k
    rw [delR, ih, Tr.get_set]
    by_cases h1 : k ∈ ds
    · simp [h1]
    · by_cases h2 : k = d
      · simp [h1, h2]
      · simp [h1, h2]
theorem TmR.del {ds : List Nat} {tm' : Tr Value} (h : TmR l t2 tm) (hk : ∀ k, k ∉ ds → tm'.get k = tm.get k) : TmR l (delR t2 ds) tm' := fun k => by
  rw [get_delR]
  by_cases hm : k ∈ ds
  · rw [if_pos hm]; trivial
  · rw [if_neg hm, hk k hm]; exact h k
theorem TmR.setR (h : TmR l t2 tm) : ∀ {ps : List Nat} {vs : List Value} {t2 : Rt} {tm : Tr Value}, TmR l t2 tm → TmR l (setR t2 ps vs) (setAll tm ps vs) := by
  intro ps
  induction ps with
  | nil => intro vs t2 tm h; exact h
  | cons p ps ih =>
    intro vs t2 tm h
    cases vs with
    | nil => exact h
    | cons v vs => exact ih (h.set p v)
theorem rgVal_some {x : Option Rg} {v : Value} (h : rgVal x = some v) : x = some (.val v) := by
  unfold rgVal at h
  split at h
  · cases h; rfl
  · cases h
theorem vl_eq (h : TmR l t2 tm) {x : Operand} (hs : isSet t2 x = true) : vl t2 x = St.val tm x := by
  cases x with
  | tmp t =>
    simp only [isSet] at hs
    cases hr : rgVal (t2.get t) with
    | none => rw [hr] at hs; cases hs
    | some v =>
      have h1 := rgVal_some hr
      have h2 := h t
      rw [h1] at h2
      have h3 : tm.get t = some v := h2
      simp only [vl, h1, St.val, h3]; rfl
  | const v => rfl
  | global g => rfl
  | func f => rfl
theorem aop_vl (h : TmR l t2 tm) {op : AOp} (hs : (opds op).all (isSet t2) = true) {H : Heap} : aop (St.val tm) H op = aop (vl t2) H op :=
  (aop_congr fun x hx => vl_eq h (List.all_eq_true.1 hs x hx)).symm
theorem map_vl (h : TmR l t2 tm) {args : List Operand} (hs : args.all (isSet t2) = true) : args.map (vl t2) = args.map (St.val tm) :=
  List.map_congr_left fun x hx => vl_eq h (List.all_eq_true.1 hs x hx)
theorem Lv.get_put : ∀ {lv : Lv} {x : lv.T} {t3 t4 : Rt}, lv.get t3 = some x → TmR l t3 tm → TmR l t4 tm → TmR l (lv.put x t4) tm := by
  intro lv
  induction lv with
  | nil => intro x t3 t4 _ _ h; exact h
  | cons y ys ih =>
    intro x t3 t4 hx h3 h4
    obtain ⟨v, e1, hx⟩ := bindS hx
    obtain ⟨a, e2, hx⟩ := bindS hx
    obtain ⟨as, e3, hx⟩ := bindS hx
    cases hx
    refine ih (t4 := t4.set y.1 (some (.val (y.2.val a)))) e3 h3 fun k => ?_
    rw [Tr.get_set]
    by_cases e : k = y.1
    · rw [if_pos e]
      have := h3 y.1
      rw [rgVal_some e1] at this
      rw [prj_val e2, e]; exact this
    · rw [if_neg e]; exact h4 k
end
def Ev (P : Nat → Prop) : Prop := ∃ N, ∀ m, N ≤ m → P m
theorem Ev.of {P : Nat → Prop} (h : ∀ m, P m) : Ev P := ⟨0, fun m _ => h m⟩
theorem Ev.two {P Q R : Nat → Prop} (h : Ev P) (k : Ev Q) (f : ∀ m, P m → Q m → R m) : Ev R := by
  obtain ⟨a, h⟩ := h
  obtain ⟨b, k⟩ := k
  exact ⟨max a b, fun m hm => f m (h m (by omega)) (k m (by omega))⟩
theorem Ev.mono {P R : Nat → Prop} (h : Ev P) (f : ∀ m, P m → R m) : Ev R := by
  obtain ⟨a, h⟩ := h
  exact ⟨a, fun m hm => f m (h m hm)⟩
theorem Ev.succ {P : Nat → Prop} (h : Ev fun m => P (m + 1)) : Ev P := by
  obtain ⟨a, h⟩ := h
  refine ⟨a + 1, fun m hm => ?_⟩
  obtain ⟨k, rfl⟩ : ∃ k, m = k + 1 := ⟨m - 1, by omega⟩
  exact h k (by omega)
structure WdOk (ex : Nat → Self) (l base : Nat) (X : Wd) (Xc : Nat → Prop) (Inv : X.W → Heap → Prop) : Prop where
  hu : ∀ w h, X.hp (X.up w h) = h
  hle : ∀ w H, Inv w H → HLe (X.hp w) H
  st : ∀ w H h' H', Inv w H → HLe h' H' → Stp No (X.hp w) H h' H' → Inv (X.up w h') H'
  ext : ∀ w H H', Inv w H → (∀ r, (r < base ∨ (X.hp w).get r ≠ none) → H'.get r = H.get r) → H'.next = H.next → H'.sh = H.sh → Inv w H'
  yl : ∀ args w b w' H, X.yl args w = some (b, w') → Inv w H → ∃ H', Ev (fun m => ex m (.yield l) args H = some (.bool b, H')) ∧ Inv w' H' ∧ Stp Xc (X.hp w) H (X.hp w') H'
def SfOk (ex : Nat → Self) (sf : Sf) : Prop := ∀ (g : Nat) (args : List Value) (h : Heap) (R : Type) (k : Value → Heap → Option R) (r : R), sf g args h k = some r →
  ∀ H, HLe h H → ∃ v h' H', Ev (fun m => ex m (.fn g) args H = some (v, H')) ∧ k v h' = some r ∧ HLe h' H' ∧ Stp No h H h' H'
theorem opRun_aop {self : Self} {ev : Operand → Value} {H : Heap} {op : AOp} (h : okOf op ≠ .call) (h2 : okOf op ≠ .callv) : opRun self ev H op = aop ev H op := by
  cases op <;> first | rfl | exact absurd rfl h | exact absurd rfl h2
section
variable {self : Self} {ex : Nat → Self} {l base : Nat} {X : Wd} {Xc : Nat → Prop} {Inv : X.W → Heap → Prop} {sf : Sf} {t2 : Rt} {tm : Tr Value} {w : X.W} {H : Heap} {R : Type} {r : R}
theorem opB_set {hr : Heap} {op : AOp} {ty : Ty} {k : Value → X.W → Option R} (hk : okOf op ≠ .callv) (e : opB X sf t2 hr w op ty k = some r) : (opds op).all (isSet t2) = true := by
  unfold opB at e
  cases ho : okOf op with
  | callv => exact absurd ho hk
  | _ =>
    rw [ho] at e
    simp only at e
    cases hs : (opds op).all (isSet t2) with
    | true => rfl
    | false => rw [hs] at e; cases e
theorem opB_rd {hr Hr : Heap} {op : AOp} {ty : Ty} {k : Value → X.W → Option R} (hk : okOf op = .rd) (e : opB X sf t2 hr w op ty k = some r) (ht : TmR l t2 tm) (hh : HLe hr Hr) :
    ∃ v, (∀ self, opRun self (St.val tm) Hr op = some (v, Hr)) ∧ k v w = some r := by
  have hs := opB_set (by rw [hk]; simp) e
  unfold opB at e
  rw [hk] at e
  simp only [hs, cond_true] at e
  obtain ⟨v, h1, h2⟩ := rdB_sound (ev := vl t2) (fun _ => rfl) hh e
  exact ⟨v, fun self => by rw [opRun_aop (by rw [hk]; simp) (by rw [hk]; simp), aop_vl ht hs, h1], h2⟩
theorem opB_nw {hr : Heap} {op : AOp} {ty : Ty} {k : Value → X.W → Option R} (hk : okOf op = .nw) (e : opB X sf t2 hr w op ty k = some r) (ht : TmR l t2 tm) :
    ∃ v o, (∀ (self : Self) (G : Heap), G.next = (X.hp w).next → opRun self (St.val tm) G op = some (v, G.new o)) ∧ k v (X.up w ((X.hp w).new o)) = some r := by
  have hs := opB_set (by rw [hk]; simp) e
  unfold opB at e
  rw [hk] at e
  simp only [hs, cond_true] at e
  obtain ⟨v, o, h1, h2⟩ := nwB_sound (H := X.hp w) e
  refine ⟨v, o, fun self G hG => ?_, h2⟩
  rw [← hG] at e
  obtain ⟨v', o', h3, h4⟩ := nwB_sound (H := G) (k := fun v o => some (v, o)) (r := (v, o)) (by
    have : ∀ {R R' : Type} {nx : Nat} {k : Value → AObj → Option R} {k' : Value → AObj → Option R'} {z : R}, nwB (vl t2) nx op k = some z → ∃ v o, k v o = some z ∧ nwB (vl t2) nx op k' = k' v o := by
      intro R R' nx k k' z hz
      cases op <;> simp only [nwB] at hz ⊢ <;> try cases hz
      case alloc => exact ⟨_, _, hz, rfl⟩
      case box x =>
        cases hb : (cellsOf (vl t2 x)).all isCell with
        | false => rw [hb] at hz; cases hz
        | true => rw [hb] at hz; exact ⟨_, _, hz, rfl⟩
      case buildSlice =>
        obtain ⟨cs, e1, e2⟩ := bindS hz
        exact ⟨_, _, e2, by rw [e1]; rfl⟩
      case makeMap => exact ⟨_, _, hz, rfl⟩
      case toBytes x =>
        obtain ⟨p, e1, e2⟩ := bindS hz
        exact ⟨_, _, e2, by rw [e1]; rfl⟩
      case makeSlice =>
        obtain ⟨p, e1, e2⟩ := bindS hz
        exact ⟨_, _, e2, by rw [e1]; rfl⟩
    obtain ⟨v1, o1, a1, a2⟩ := this (k' := fun v o => some (v, o)) e
    rw [a2]
    have h5 : aop (vl t2) (X.hp w) op = some (v, (X.hp w).new o) := h1
    rw [hG] at a2
    obtain ⟨v6, o6, h6, h7⟩ := nwB_sound (H := X.hp w) a2
    simp only [Option.some.injEq, Prod.mk.injEq] at h7
    obtain ⟨rfl, rfl⟩ := h7
    rw [h5] at h6
    simp only [Option.some.injEq, Prod.mk.injEq] at h6
    obtain ⟨rfl, h8⟩ := h6
    have h9 : ((X.hp w).new o).get (X.hp w).next = ((X.hp w).new o6).get (X.hp w).next := by rw [h8]
    rw [Heap.get_new, if_pos rfl, Heap.get_new, if_pos rfl] at h9
    cases h9; rfl)
  simp only [Option.some.injEq, Prod.mk.injEq] at h4
  obtain ⟨rfl, rfl⟩ := h4
  rw [opRun_aop (by rw [hk]; simp) (by rw [hk]; simp), aop_vl ht hs, h3]
theorem opB_all (hX : WdOk ex l base X Xc Inv) (hsf : SfOk ex sf) {op : AOp} {ty : Ty} {k : Value → X.W → Option R} (e : opB X sf t2 (X.hp w) w op ty k = some r) (ht : TmR l t2 tm) (hi : Inv w H) :
    ∃ v w' H', Ev (fun m => opRun (ex m) (St.val tm) H op = some (v, H')) ∧ k v w' = some r ∧ Inv w' H' ∧ Stp Xc (X.hp w) H (X.hp w') H' := by
  have hle := hX.hle _ _ hi
  have fromSf : ∀ {g : Nat} {args : List Value} {k : Value → Heap → Option R}, sf g args (X.hp w) k = some r → ∃ v h' H', Ev (fun m => ex m (.fn g) args H = some (v, H')) ∧ k v h' = some r ∧ Inv (X.up w h') H' ∧ Stp Xc (X.hp w) H (X.hp (X.up w h')) H' := by
    intro g args k hk
    obtain ⟨v, h', H', a1, a2, a3, a4⟩ := hsf _ _ _ _ _ _ hk H hle
    exact ⟨v, h', H', a1, a2, hX.st _ _ _ _ hi a3 a4, by rw [hX.hu]; exact a4.mono (fun _ h => h.elim)⟩
  cases ho : okOf op with
  | rd =>
    obtain ⟨v, h1, h2⟩ := opB_rd ho e ht hle
    exact ⟨v, w, H, Ev.of fun m => h1 (ex m), h2, hi, .refl⟩
  | nw =>
    obtain ⟨v, o, h1, h2⟩ := opB_nw ho e ht
    obtain ⟨g1, g2⟩ := hle.new o
    exact ⟨v, _, _, Ev.of fun m => h1 (ex m) H hle.nx.symm, h2, hX.st _ _ _ _ hi g1 g2, by rw [hX.hu]; exact g2.mono (fun _ h => h.elim)⟩
  | bg =>
    have hs := opB_set (by rw [ho]; simp) e
    unfold opB at e
    rw [ho] at e
    simp only [hs, cond_true] at e
    obtain ⟨v, h', H', a1, a2, a3, a4⟩ := bgB_sound hle e
    exact ⟨v, _, H', Ev.of fun m => by rw [opRun_aop (by rw [ho]; simp) (by rw [ho]; simp), aop_vl ht hs, a1], a2, hX.st _ _ _ _ hi a3 a4, by rw [hX.hu]; exact a4.mono (fun _ h => h.elim)⟩
  | call =>
    have hs := opB_set (by rw [ho]; simp) e
    unfold opB at e
    rw [ho] at e
    simp only [hs, cond_true] at e
    split at e
    · rename_i f args
      obtain ⟨v, h', H', a1, a2, a3, a4⟩ := fromSf e
      refine ⟨v, _, H', ?_, a2, a3, a4⟩
      exact a1.mono fun m a1 => by rw [opRun_call, ← map_vl ht (by simpa [opds] using hs), a1]
    · cases e
  | callv =>
    unfold opB at e
    rw [ho] at e
    simp only at e
    split at e
    · rename_i f args
      cases hs : args.all (isSet t2) with
      | false => rw [hs] at e; cases e
      | true =>
        rw [hs] at e
        simp only [cond_true] at e
        have ha := map_vl ht hs
        cases hy : isYm t2 f with
        | true =>
          rw [hy] at e
          simp only [cond_true] at e
          obtain ⟨⟨b, w'⟩, e1, e2⟩ := bindS e
          obtain ⟨H', a1, a2, a3⟩ := hX.yl _ _ _ _ _ e1 hi
          refine ⟨_, w', H', ?_, e2, a2, a3⟩
          have hf : St.val tm f = .func (.yield l) #[] #[] := by
            unfold isYm at hy
            split at hy
            · rename_i t
              split at hy
              · rename_i hg
                have := ht t
                rw [hg] at this
                have h3 : tm.get t = some (.func (.yield l) #[] #[]) := this
                simp only [St.val, h3]; rfl
              · cases hy
            · cases hy
          exact a1.mono fun m a1 => by rw [opRun_callv, hf, ← ha, callVal, a1]
        | false =>
          rw [hy] at e
          simp only [cond_false] at e
          cases hf : isSet t2 f with
          | false => rw [hf] at e; cases e
          | true =>
            rw [hf] at e
            simp only [cond_true] at e
            unfold callB at e
            split at e
            · rename_i g first captured hv
              obtain ⟨v, h', H', a1, a2, a3, a4⟩ := fromSf e
              refine ⟨v, _, H', ?_, a2, a3, a4⟩
              exact a1.mono fun m a1 => by rw [opRun_callv, ← vl_eq ht hf, hv, ← ha, callVal, a1]
            · cases e
    · cases e
theorem guardB_sound {dst : Option Nat} {g : Option (Nat × Bool)} {go no : Rt → Option R} (e : guardB t2 dst g go no = some r) (ht : TmR l t2 tm) :
    (wantedA tm g = true ∧ ∃ t3, go t3 = some r ∧ TmR l t3 tm) ∨ (wantedA tm g = false ∧ ∃ t3, no t3 = some r ∧ TmR l t3 (setDst tm dst undef)) := by
  unfold guardB at e
  split at e
  · exact .inl ⟨rfl, _, e, ht⟩
  · rename_i t want
    have at_ := ht t
    split at e
    · rename_i b hg
      rw [hg] at at_
      have hb : tm.get t = some (.bool b) := at_
      have same : TmR l (t2.set t (some (.val (.bool b)))) tm := fun k => by
        rw [Tr.get_set]
        by_cases e : k = t
        · rw [if_pos e, e]; exact at_
        · rw [if_neg e]; exact ht k
      have dst' : ∀ b', b' = b → TmR l (dstB (t2.set t (some (.val (.bool b')))) dst undef) (setDst tm dst undef) := by
        rintro _ rfl; exact same.dst dst undef
      cases b <;> cases want <;> simp only [cond_true, cond_false] at e
      · exact .inl ⟨by simp [wantedA, hb], _, e, same⟩
      · exact .inr ⟨by simp [wantedA, hb], _, e, dst' _ rfl⟩
      · exact .inr ⟨by simp [wantedA, hb], _, e, dst' _ rfl⟩
      · exact .inl ⟨by simp [wantedA, hb], _, e, same⟩
    · rename_i v hnb hg
      rw [hg] at at_
      have hb : tm.get t = some v := at_
      refine .inr ⟨?_, _, e, ht.dst dst undef⟩
      simp only [wantedA, hb]
      cases v <;> first | rfl | exact absurd rfl (hnb _)
    · cases e
theorem moveYm {op : AOp} (hm : isMoveYm t2 op = true) (ht : TmR l t2 tm) {H : Heap} : opRun self (St.val tm) H op = some (.func (.yield l) #[] #[], H) := by
  unfold isMoveYm at hm
  split at hm
  · rename_i x
    unfold isYm at hm
    split at hm
    · rename_i t
      split at hm
      · rename_i hg
        have := ht t
        rw [hg] at this
        have h3 : tm.get t = some (.func (.yield l) #[] #[]) := this
        rw [opRun_move]; simp only [St.val, h3]; rfl
      · cases hm
    · cases hm
  · cases hm
theorem setDst_ne {d : Option Nat} {v : Value} {q : Nat} (h : q ∉ d.toList) : (setDst tm d v).get q = tm.get q := by
  cases d with
  | none => rfl
  | some d => simp only [setDst, Tr.get_set]; rw [if_neg]; simpa using h
theorem opsB_sound (hX : WdOk ex l base X Xc Inv) (hsf : SfOk ex sf) {ds : List Nat} : ∀ (ops : List (AOper × Ty)) {t2 : Rt} {tm : Tr Value} {w : X.W} {H : Heap} {k : Rt → X.W → Option R}, opsB X sf ops t2 w k = some r → TmR l t2 tm → Inv w H →
    ∃ t3 tm' w' H', Ev (fun m => opsRun (ex m) (ops.map (·.1)) ⟨tm, H, ds⟩ = some ⟨tm', H', ds⟩) ∧ k t3 w' = some r ∧ TmR l t3 tm' ∧ Inv w' H' ∧ Stp Xc (X.hp w) H (X.hp w') H' ∧ ∀ q, q ∉ (ops.flatMap fun o => o.1.dst.toList) → tm'.get q = tm.get q := by
  intro ops
  induction ops with
  | nil => intro t2 tm w H k e ht hi; exact ⟨t2, tm, w, H, Ev.of fun _ => rfl, e, ht, hi, .refl, fun _ _ => rfl⟩
  | cons o rest ih =>
    obtain ⟨⟨dst, op, g⟩, ty⟩ := o
    intro t2 tm w H k e ht hi
    have wrap : ∀ {tm1 : Tr Value} {w1 : X.W} {H1 : Heap} {t1 : Rt} {v : Value}, tm1 = setDst tm dst v → Ev (fun m => operRun (ex m) ⟨dst, op, g⟩ ⟨tm, H, ds⟩ = some ⟨tm1, H1, ds⟩) → opsB X sf rest t1 w1 k = some r → TmR l t1 tm1 → Inv w1 H1 → Stp Xc (X.hp w) H (X.hp w1) H1 →
        ∃ t3 tm' w' H', Ev (fun m => opsRun (ex m) (((⟨⟨dst, op, g⟩, ty⟩ : AOper × Ty) :: rest).map (·.1)) ⟨tm, H, ds⟩ = some ⟨tm', H', ds⟩) ∧ k t3 w' = some r ∧ TmR l t3 tm' ∧ Inv w' H' ∧ Stp Xc (X.hp w) H (X.hp w') H' ∧ ∀ q, q ∉ (((⟨⟨dst, op, g⟩, ty⟩ : AOper × Ty) :: rest).flatMap fun o => o.1.dst.toList) → tm'.get q = tm.get q := by
      intro tm1 w1 H1 t1 v hv h1 h2 h3 h4 h5
      obtain ⟨t3, tm', w', H', a1, a2, a3, a4, a5, a6⟩ := ih h2 h3 h4
      refine ⟨t3, tm', w', H', ?_, a2, a3, a4, h5.trans a5, fun q hq => ?_⟩
      · exact h1.two a1 fun m h1 a1 => by rw [List.map_cons, opsRun_cons, h1, opsK_some, a1]
      · simp only [List.flatMap_cons, List.mem_append, not_or] at hq
        rw [a6 q hq.2, hv, setDst_ne hq.1]
    simp only [opsB] at e
    rcases guardB_sound e ht with ⟨hw, t3, e, ht3⟩ | ⟨hw, t3, e, ht3⟩
    · cases hm : isMoveYm t3 op with
      | true =>
        rw [hm] at e
        simp only [cond_true] at e
        exact wrap rfl (Ev.of fun m => by simp only [operRun, hw, cond_true, moveYm hm ht3]) e (ht3.ym dst) hi .refl
      | false =>
        rw [hm] at e
        simp only [cond_false] at e
        obtain ⟨v, w', H', a1, a2, a3, a4⟩ := opB_all hX hsf e ht3 hi
        exact wrap rfl (a1.mono fun m a1 => by simp only [operRun, hw, cond_true, a1]) a2 (ht3.dst dst v) a3 a4
    · exact wrap rfl (Ev.of fun m => by simp only [operRun, hw, cond_false]) e ht3 hi .refl
end
end Go.Proofs.YtdlfdieehioolaaDoor
