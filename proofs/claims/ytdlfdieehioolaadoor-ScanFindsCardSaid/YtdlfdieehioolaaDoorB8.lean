/- Functions as plain typed functions. -/
import Derived.Test.YtdlfdieehioolaaDoorB7
namespace Go.Proofs.YtdlfdieehioolaaDoor
open Go
set_option linter.unusedVariables false
set_option linter.unusedSimpArgs false
def Tys.prj : (ts : List Ty) → List Value → Option (Tys.T ts)
  | [], [] => some ()
  | t :: ts, v :: vs => (t.prj v).bind fun a => (Tys.prj ts vs).bind fun as => some (a, as)
  | _, _ => none
theorem Tys.prj_vals : ∀ {ts : List Ty} {vs : List Value} {a : Tys.T ts}, Tys.prj ts vs = some a → Tys.vals ts a = vs := by
  intro ts
  induction ts with
  | nil => intro vs a h; cases vs with
    | nil => rfl
    | cons v vs => cases h
  | cons t ts ih =>
    intro vs a h
    cases vs with
    | nil => cases h
    | cons v vs =>
      obtain ⟨x, e1, h⟩ := bindS h
      obtain ⟨as, e2, h⟩ := bindS h
      cases h
      simp only [Tys.vals, prj_val e1, ih e2]
theorem Ty.prj_of {t : Ty} {x : t.T} : t.prj (t.val x) = some x := by
  cases t with
  | int k => simp [Ty.prj, Ty.val]
  | bool => rfl
  | ptr => rfl
  | any => rfl
  | fn g c =>
    have key : ∀ {c : Nat} {a : Ptrs c}, Ptrs.prj c (Ptrs.vals c a) = some a := by
      intro c
      induction c with
      | zero => intro a; rfl
      | succ c ih => intro a; obtain ⟨a, as⟩ := a; simp only [Ptrs.vals, Ptrs.prj, ih]; rfl
    simp [Ty.prj, Ty.val, key]
abbrev Rs := List (ARes × Ty)
@[reducible] def Rs.T : Rs → Type
  | [] => Unit
  | r :: rs => r.2.T × Rs.T rs
def Rs.vals : (rs : Rs) → rs.T → List Value
  | [], _ => []
  | r :: rs, a => r.2.val a.1 :: Rs.vals rs a.2
def resT (a : ARes) (ty : Ty) (t : Rt) (h : Heap) {R : Type} (k : ty.T → Option R) : Option R := match a with
  | .tmp q => ((rgVal (t.get q)).bind ty.prj).bind k
  | .cell agg sz q => match rgVal (t.get q) with
    | some (.pointer p) => bif agg then (ldA sz h p).bind fun cs => (ty.prj (.agg ⟨cs⟩)).bind k else bif Nat.beq sz 1 then (ldT ty h p).bind k else none
    | _ => none
def okR : (ty : Ty) → ty.T → Bool
  | .any, v => !isTuple v
  | _, _ => true
def endB : (rs : Rs) → Rt → Heap → {R : Type} → (rs.T → Option R) → Option R
  | [], _, _, _, k => k ()
  | r :: rs, t, h, _, k => resT r.1 r.2 t h fun x => bif okR r.2 x then endB rs t h (fun xs => k (x, xs)) else none
def initR : Nat → Rt → List Rg → Rt
  | _, tm, [] => tm
  | i, tm, v :: vs => initR (i + 1) (tm.set i (some v)) vs
def fB (sf : Sf) (it : It) (n : Nat) (c : C2) (rs : Rs) (ps : List Ty) (a : Tys.T ps) (h : Heap) : Option (rs.T × Heap) :=
  run2 sf it n plain false c (initR 0 .nil ((Tys.vals ps a).map .val)) h (fun t w => endB rs t w fun x => some (x, w)) fun e t w => match e with
    | .ret => endB rs t w fun x => some (x, w)
    | _ => none
def fI (sf : Sf) (it : It) (n : Nat) (c : C2) (p1 p2 yt : List Ty) {V : Type} (hp : V → Heap) (up : V → Heap → V) (y : Tys.T yt → V → Option (Bool × V)) (a1 : Tys.T p1) (a2 : Tys.T p2) (v : V) : Option V :=
  run2 sf it n ⟨V, hp, up, fun args v => (Tys.prj yt args).bind fun a => y a v⟩ false c (initR 0 .nil ((Tys.vals p1 a1).map .val ++ [.ym] ++ (Tys.vals p2 a2).map .val)) v (fun _ w => some w) fun e _ w => match e with
    | .ret => some w
    | _ => none
abbrev Sf1 := List Value → Heap → {R : Type} → (Value → Heap → Option R) → Option R
abbrev It1 := List Value → List Value → {V : Type} → (V → Heap) → (V → Heap → V) → (List Value → V → Option (Bool × V)) → V → Option V
def mkSf (ps : List Ty) (rs : Rs) (f : Tys.T ps → Heap → Option (rs.T × Heap)) : Sf1 := fun args h _ k => (Tys.prj ps args).bind fun a => (f a h).bind fun p => k (endVal (Rs.vals rs p.1)) p.2
def mkIt (p1 p2 yt : List Ty) (f : {V : Type} → (V → Heap) → (V → Heap → V) → (Tys.T yt → V → Option (Bool × V)) → Tys.T p1 → Tys.T p2 → V → Option V) : It1 := fun first captured _ hp up yV v =>
  (Tys.prj p1 first).bind fun a1 => (Tys.prj p2 captured).bind fun a2 => f hp up (fun a v => yV (Tys.vals yt a) v) a1 a2 v
def Sf1Ok (T : Nat → Option AFun) (g : Nat) (s : Sf1) : Prop := ∀ (args : List Value) (h : Heap) (R : Type) (k : Value → Heap → Option R) (r : R), s args h k = some r →
  ∀ H, HLe h H → ∃ v h' H', Ev (fun m => exec T m (.fn g) args H = some (v, H')) ∧ k v h' = some r ∧ HLe h' H' ∧ Stp No h H h' H'
def It1Ok (T : Nat → Option AFun) (g : Nat) (s : It1) : Prop := ∀ (first captured : List Value) (V : Type) (hp : V → Heap) (up : V → Heap → V) (yV : List Value → V → Option (Bool × V)) (v v' : V), s first captured hp up yV v = some v' →
  ∀ (l base : Nat) (Xc : Nat → Prop) (Inv : V → Heap → Prop), WdOk (exec T) l base ⟨V, hp, up, yV⟩ Xc Inv → base ≤ (hp v).next → (∀ q, Xc q → q < base) → ∀ H, Inv v H →
    ∃ val H', Ev (fun m => exec T m (.fn g) (first ++ [.func (.yield l) #[] #[]] ++ captured) H = some (val, H')) ∧ Inv v' H' ∧ Stp Xc (hp v) H (hp v') H'
def sfOf : List (Nat × Sf1) → Sf
  | [], _, _, _, _, _ => none
  | x :: xs, g, args, h, _, k => bif Nat.beq g x.1 then x.2 args h k else sfOf xs g args h k
def itOf : List (Nat × It1) → It
  | [], _, _, _, _, _, _, _, _ => none
  | x :: xs, g, first, captured, _, hp, up, y, v => bif Nat.beq g x.1 then x.2 first captured hp up y v else itOf xs g first captured hp up y v
section
variable {T : Nat → Option AFun}
theorem sfOk_nil : SfOk (exec T) (sfOf []) := fun g args h R k r e => by cases e
theorem sfOk_cons {k : Nat} {s : Sf1} {l : List (Nat × Sf1)} (h : Sf1Ok T k s) (hl : SfOk (exec T) (sfOf l)) : SfOk (exec T) (sfOf ((k, s) :: l)) := by
  intro g args h' R kk r e
  simp only [sfOf] at e
  cases hb : Nat.beq g k with
  | true => rw [hb] at e; obtain rfl := Nat.eq_of_beq_eq_true hb; exact h args h' R kk r e
  | false => rw [hb] at e; exact hl g args h' R kk r e
theorem itOk_nil : ItOk (exec T) (itOf []) := fun g first captured V hp up yV v v' e => by cases e
theorem itOk_cons {k : Nat} {s : It1} {l : List (Nat × It1)} (h : It1Ok T k s) (hl : ItOk (exec T) (itOf l)) : ItOk (exec T) (itOf ((k, s) :: l)) := by
  intro g first captured V hp up yV v v' e
  simp only [itOf] at e
  cases hb : Nat.beq g k with
  | true => rw [hb] at e; obtain rfl := Nat.eq_of_beq_eq_true hb; exact h first captured V hp up yV v v' e
  | false => rw [hb] at e; exact hl g first captured V hp up yV v v' e
theorem initB_rel {l : Nat} : ∀ {rs : List Rg} {vs : List Value} {i : Nat} {t2 : Rt} {tm : Tr Value}, TmR l t2 tm → All2 (fun a v => RR l (some a) (some v)) rs vs → TmR l (initR i t2 rs) (initTm i tm vs) := by
  intro rs
  induction rs with
  | nil => intro vs i t2 tm h h2; cases h2; exact h
  | cons r rs ih =>
    intro vs i t2 tm h h2
    cases h2 with
    | cons h3 h4 =>
      refine ih (fun k => ?_) h4
      rw [Tr.get_set, Tr.get_set]
      by_cases e : k = i
      · rw [if_pos e, if_pos e]; exact h3
      · rw [if_neg e, if_neg e]; exact h k
theorem all2_vals {l : Nat} : ∀ {vs : List Value}, All2 (fun a v => RR l (some a) (some v)) (vs.map .val) vs := by
  intro vs
  induction vs with
  | nil => exact .nil
  | cons v vs ih => exact .cons rfl ih
theorem all2_append {α β : Type} {P : α → β → Prop} : ∀ {a : List α} {b : List β} {c : List α} {d : List β}, All2 P a b → All2 P c d → All2 P (a ++ c) (b ++ d) := by
  intro a
  induction a with
  | nil => intro b c d h k; cases h; exact k
  | cons x xs ih =>
    intro b c d h k
    cases h with
    | cons h1 h2 => exact .cons h1 (ih h2 k)
theorem takeAll_ok : ∀ {ds : List Nat} {H : Heap}, ds.Nodup → (∀ d ∈ ds, H.get d = some .defr) → ∃ H', takeAll ds H = some H' ∧ (H'.next = H.next ∧ H'.sh = H.sh) ∧ ∀ r, H'.get r = if r ∈ ds then none else H.get r := by
  intro ds
  induction ds with
  | nil => intro H _ _; exact ⟨H, rfl, ⟨rfl, rfl⟩, fun r => by simp⟩
  | cons d ds ih =>
    intro H hn hd
    rw [List.nodup_cons] at hn
    obtain ⟨H', a1, a2, a3⟩ := ih (H := H.drop d) hn.2 fun x hx => by
      rw [Heap.get_drop, if_neg (by rintro rfl; exact hn.1 hx)]; exact hd x (List.mem_cons_of_mem _ hx)
    refine ⟨H', by simp only [takeAll, hd d (List.mem_cons_self ..), a1], a2, fun r => ?_⟩
    rw [a3, Heap.get_drop]
    by_cases h1 : r ∈ ds
    · simp [h1]
    · by_cases h2 : r = d
      · simp [h2]
      · simp [h1, h2]
theorem rel_val {l : Nat} {t2 : Rt} {tm : Tr Value} (ht : TmR l t2 tm) {q : Nat} {v : Value} (h : rgVal (t2.get q) = some v) : tm.get q = some v := by
  have := ht q
  rw [rgVal_some h] at this; exact this
theorem resB_ok {l : Nat} {t2 : Rt} {tm : Tr Value} (ht : TmR l t2 tm) {h H : Heap} (hh : HLe h H) : ∀ {rs : Rs} {R : Type} {k : rs.T → Option R} {z : R}, endB rs t2 h k = some z → ∃ x, k x = some z ∧ results? tm H (rs.map (·.1)) = some (Rs.vals rs x) := by
  intro rs
  induction rs with
  | nil => intro R k z e; exact ⟨(), e, rfl⟩
  | cons r rs ih =>
    intro R k z e
    obtain ⟨a, ty⟩ := r
    have hr : ∃ y, resOf tm H a = some (ty.val y) ∧ (bif okR ty y then endB rs t2 h (fun xs => k (y, xs)) else none) = some z := by
      simp only [endB] at e
      cases a with
      | tmp q =>
        obtain ⟨y, e1, e⟩ := bindS e
        obtain ⟨v, e3, e4⟩ := bindS e1
        exact ⟨y, by simp only [resOf, rel_val ht e3, Option.getD_some, prj_val e4], e⟩
      | cell agg sz q =>
        simp only [resT] at e
        split at e
        · rename_i p hp
          cases agg with
          | true =>
            simp only [cond_true] at e
            obtain ⟨cs, e3, e9⟩ := bindS e
            obtain ⟨y, e4, e8⟩ := bindS e9
            clear e e9
            obtain ⟨q', rfl, e5⟩ := bindS e3
            exact ⟨y, by simp only [resOf, rel_val ht hp, Option.getD_some, readCells_mono hh e5, loadL_agg, prj_val e4], e8⟩
          | false =>
            simp only [cond_false] at e
            cases hs : Nat.beq sz 1 with
            | false => rw [hs] at e; cases e
            | true =>
              rw [hs] at e
              obtain rfl := Nat.eq_of_beq_eq_true hs
              simp only [cond_true] at e
              obtain ⟨y, e1, e9⟩ := bindS e
              clear e
              obtain ⟨q', rfl, e5⟩ := bindS e1
              obtain ⟨cs, e6, e5⟩ := bindS e5
              obtain ⟨v, e7, e5⟩ := bindS e5
              exact ⟨y, by simp only [resOf, rel_val ht hp, Option.getD_some, readCells_mono hh e6, e7, prj_val e5], e9⟩
        · cases e
    obtain ⟨y, hr, e⟩ := hr
    cases hk : okR ty y with
    | false => rw [hk] at e; cases e
    | true =>
      rw [hk] at e
      simp only [cond_true] at e
      obtain ⟨ys, e0, e2⟩ := ih e
      have ht : isTuple (ty.val y) = false := by
        cases ty with
        | any => show isTuple y = false; simpa [okR] using hk
        | _ => rfl
      exact ⟨(y, ys), e0, by simp only [List.map_cons, results?, hr, e2, ht, cond_false, Rs.vals]⟩
theorem plain_ok {h H : Heap} : WdOk (exec T) 0 h.next plain No (fun w G => HLe w G ∧ Stp No h H w G) := by
  refine ⟨fun _ _ => rfl, fun _ _ hi => hi.1, fun w G h' G' hi hl hs => ⟨hl, hi.2.trans hs⟩, fun w G G' hi hg hn hsh => ⟨⟨hi.1.nx.trans hn.symm, fun r o hr => ?_, hi.1.sh.trans hsh.symm⟩, hi.2.nx, hi.2.dead, fun r hr hn hx => ?_⟩, fun args w b w' G hy => by cases hy⟩
  · have hr' : w.get r = some o := hr
    rw [hg r (.inr (by show w.get r ≠ none; rw [hr']; simp))]; exact hi.1.le _ _ hr
  · rw [hg r (.inl hr)]; exact hi.2.keep r hr hn hx
theorem fB_ok {sf : Sf} {it : It} {n : Nat} {c : C2} {rs : Rs} {ps : List Ty} {a : Tys.T ps} {h h' : Heap} {x : rs.T} {g : Nat} (hT : T g = some ⟨rs.map (·.1), c.erase, none⟩) (hsf : SfOk (exec T) sf) (hit : ItOk (exec T) it)
    (e : fB sf it n c rs ps a h = some (x, h')) {H : Heap} (hh : HLe h H) :
    ∃ H', Ev (fun m => exec T m (.fn g) (Tys.vals ps a) H = some (endVal (Rs.vals rs x), H')) ∧ HLe h' H' ∧ Stp No h H h' H' := by
  obtain ⟨e1, t3, tm', w', H', ds', a1, a2, a3, a4, a5, a6, a7, a8⟩ := run2_sound hsf hit c (rd := none) (ds := []) (l := 0) (base := h.next) (Xc := No) (Inv := fun w G => HLe w G ∧ Stp No h H w G) (tm := initTm 0 .nil (Tys.vals ps a)) (H := H) e
    plain_ok (fun _ _ _ _ h => by cases h) (fun _ h => h.elim) (initB_rel (fun k => by simp [RR]) all2_vals) ⟨hh, .refl⟩ ⟨List.nodup_nil, Nat.le_refl _, fun _ h => absurd h List.not_mem_nil⟩
  have fin : endB rs t3 w' (fun x => some (x, w')) = some (x, h') → (e1 = .normal ∨ e1 = .ret) → ∃ H', Ev (fun m => exec T m (.fn g) (Tys.vals ps a) H = some (endVal (Rs.vals rs x), H')) ∧ HLe h' H' ∧ Stp No h H h' H' := by
    intro hm he
    obtain ⟨H2, b1, b2, b3⟩ := takeAll_ok a7.nodup fun d hd => (a7.at_ d hd).2.2.2
    have hle : HLe w' H2 := ⟨a5.1.nx.trans b2.1.symm, fun r o hr => by
      rw [b3, if_neg]
      · exact a5.1.le _ _ hr
      · intro hm
        have := (a7.at_ r hm).2.2.1
        have hr' : w'.get r = some o := hr
        have h2 : w'.get r = none := this
        exact (nomatch hr'.symm.trans h2), a5.1.sh.trans b2.2.symm⟩
    obtain ⟨y, e3, e2⟩ := resB_ok a4 hle hm
    obtain ⟨rfl, rfl⟩ := Prod.mk.inj (Option.some.inj e3)
    refine ⟨H2, Ev.succ (a1.mono fun m a1 => ?_), hle, a5.2.nx, a5.2.dead, fun r hr hn hx => ?_⟩
    · rw [exec_fn hT, a1]
      rcases he with rfl | rfl
      · simp only [endK_normal, endOf, b1, e2]
      · simp only [endK_ret, endOf, b1, e2]
    · rw [b3, if_neg, a5.2.keep r hr hn hx]
      intro hm
      have := (a7.at_ r hm).1
      omega
  cases e1 with
  | normal => exact fin (a2 rfl) (.inl rfl)
  | ret => exact fin (a3 (by simp)) (.inr rfl)
  | exit i => cases a3 (by simp)
theorem mkSf_ok {sf : Sf} {it : It} {n : Nat} {c : C2} {rs : Rs} {ps : List Ty} {g : Nat} {f : Tys.T ps → Heap → Option (rs.T × Heap)} (hT : T g = some ⟨rs.map (·.1), c.erase, none⟩) (hsf : SfOk (exec T) sf) (hit : ItOk (exec T) it)
    (hf : ∀ a h, f a h = fB sf it n c rs ps a h) : Sf1Ok T g (mkSf ps rs f) := by
  intro args h R k r e H hh
  obtain ⟨a, e1, e⟩ := bindS e
  obtain ⟨⟨x, h'⟩, e2, e⟩ := bindS e
  rw [hf] at e2
  obtain ⟨H', a1, a2, a3⟩ := fB_ok hT hsf hit e2 hh
  rw [Tys.prj_vals e1] at a1
  exact ⟨_, h', H', a1, e, a2, a3⟩
theorem mkIt_ok {sf : Sf} {it : It} {n : Nat} {c : C2} {p1 p2 yt : List Ty} {g : Nat} {f : {V : Type} → (V → Heap) → (V → Heap → V) → (Tys.T yt → V → Option (Bool × V)) → Tys.T p1 → Tys.T p2 → V → Option V}
    (hT : T g = some ⟨[], c.erase, none⟩) (hsf : SfOk (exec T) sf) (hit : ItOk (exec T) it)
    (hf : ∀ (V : Type) hp up (y : Tys.T yt → V → Option (Bool × V)) a1 a2 v, f hp up y a1 a2 v = fI sf it n c p1 p2 yt hp up y a1 a2 v) : It1Ok T g (mkIt p1 p2 yt f) := by
  intro first captured V hp up yV v v' e l base Xc Inv hW hb hxc H hi
  obtain ⟨a1, e1, e⟩ := bindS e
  obtain ⟨a2, e2, e⟩ := bindS e
  change f hp up (fun a v => yV (Tys.vals yt a) v) a1 a2 v = some v' at e
  rw [hf] at e
  have hW2 : WdOk (exec T) l (hp v).next ⟨V, hp, up, fun args v => (Tys.prj yt args).bind fun a => yV (Tys.vals yt a) v⟩ Xc Inv := by
    have hU := hW.up hb
    refine ⟨hU.hu, hU.hle, hU.st, hU.ext, fun args w b w' H hy => ?_⟩
    obtain ⟨a, e3, e4⟩ := bindS hy
    rw [Tys.prj_vals e3] at e4
    exact hU.yl args w b w' H e4
  have hxc' : ∀ q, Xc q → q < (hp v).next := fun q hq => Nat.lt_of_lt_of_le (hxc q hq) hb
  obtain ⟨e3, t3, tm', w', H', ds', b1, b2, b3, b4, b5, b6, b7, b8⟩ := run2_sound hsf hit c (rd := none) (ds := []) (l := l) (base := (hp v).next) (Xc := Xc) (Inv := Inv) (tm := initTm 0 .nil (Tys.vals p1 a1 ++ [.func (.yield l) #[] #[]] ++ Tys.vals p2 a2)) (H := H) e
    hW2 (fun _ _ _ _ h => by cases h) hxc' (initB_rel (fun k => by simp [RR]) (all2_append (all2_append all2_vals (.cons (show RR l (some .ym) (some (.func (.yield l) #[] #[])) from rfl) .nil)) all2_vals)) hi ⟨List.nodup_nil, Nat.le_refl _, fun _ h => absurd h List.not_mem_nil⟩
  obtain ⟨H2, c1, c2, c3⟩ := takeAll_ok b7.nodup fun d hd => (b7.at_ d hd).2.2.2
  have fin : some w' = some v' → (e3 = .normal ∨ e3 = .ret) → ∃ val H', Ev (fun m => exec T m (.fn g) (first ++ [.func (.yield l) #[] #[]] ++ captured) H = some (val, H')) ∧ Inv v' H' ∧ Stp Xc (hp v) H (hp v') H' := by
    intro hm he
    cases hm
    refine ⟨.tuple ⟨[]⟩, H2, Ev.succ (b1.mono fun m b1 => ?_), ?_, b6.nx, b6.dead, fun r hr hn hx => ?_⟩
    · rw [Tys.prj_vals e1, Tys.prj_vals e2] at b1
      rw [exec_fn hT, b1]
      rcases he with rfl | rfl
      · simp only [endK_normal, endOf, c1, results?]; rfl
      · simp only [endK_ret, endOf, c1, results?]; rfl
    · refine hW2.ext _ _ _ b5 (fun r hr => ?_) c2.1 c2.2
      rw [c3, if_neg]
      intro hm
      obtain ⟨x1, x2, x3, x4⟩ := b7.at_ r hm
      rcases hr with hr | hr
      · omega
      · exact hr x3
    · rw [c3, if_neg]
      · exact b6.keep r hr hn hx
      · intro hm
        have x1 := (b7.at_ r hm).1
        have hr' : r < (hp v).next := hr
        omega
  cases e3 with
  | normal => exact fin (b2 rfl) (.inl rfl)
  | ret => exact fin (b3 (by simp)) (.inr rfl)
  | exit i => cases b3 (by simp)
theorem primSf_ok {g : Nat} {p : Prim} {s : Sf1} (hT : T g = some ⟨[], .skip, some p⟩)
    (hs : ∀ (args : List Value) (h : Heap) (R : Type) (k : Value → Heap → Option R) (r : R), s args h k = some r → ∀ H, HLe h H → ∃ v h' H', p args H = some (v, H') ∧ k v h' = some r ∧ HLe h' H' ∧ Stp No h H h' H') : Sf1Ok T g s := by
  intro args h R k r e H hh
  obtain ⟨v, h', H', a1, a2, a3, a4⟩ := hs args h R k r e H hh
  exact ⟨v, h', H', Ev.succ (Ev.of fun m => by rw [exec_prim hT rfl, a1]), a2, a3, a4⟩
end
end Go.Proofs.YtdlfdieehioolaaDoor
