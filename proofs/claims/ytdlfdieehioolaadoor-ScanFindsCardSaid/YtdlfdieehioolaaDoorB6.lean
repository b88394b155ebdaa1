/- The second semantics' runs are runs of the first one: all code. -/
import Derived.Test.YtdlfdieehioolaaDoorB5
namespace Go.Proofs.YtdlfdieehioolaaDoor
open Go
set_option linter.unusedVariables false
set_option linter.unusedSimpArgs false
def ItOk (ex : Nat → Self) (it : It) : Prop := ∀ (g : Nat) (first captured : List Value) (V : Type) (hp : V → Heap) (up : V → Heap → V) (yV : List Value → V → Option (Bool × V)) (v v' : V), it g first captured hp up yV v = some v' →
  ∀ (l base : Nat) (Xc : Nat → Prop) (Inv : V → Heap → Prop), WdOk ex l base ⟨V, hp, up, yV⟩ Xc Inv → base ≤ (hp v).next → (∀ q, Xc q → q < base) → ∀ H, Inv v H →
    ∃ val H', Ev (fun m => ex m (.fn g) (first ++ [.func (.yield l) #[] #[]] ++ captured) H = some (val, H')) ∧ Inv v' H' ∧ Stp Xc (hp v) H (hp v') H'
structure DsOk (base : Nat) (h H : Heap) (ds : List Nat) : Prop where
  nodup : ds.Nodup
  le : base ≤ h.next
  at_ : ∀ d ∈ ds, base ≤ d ∧ d < h.next ∧ h.get d = none ∧ H.get d = some .defr
theorem DsOk.step {base : Nat} {h H h' H' : Heap} {ds : List Nat} {Xc : Nat → Prop} (hd : DsOk base h H ds) (hs : Stp Xc h H h' H') (hx : ∀ r, Xc r → r < base) : DsOk base h' H' ds :=
  ⟨hd.nodup, Nat.le_trans hd.le hs.nx, fun d hm => by
    obtain ⟨h1, h2, h3, h4⟩ := hd.at_ d hm
    exact ⟨h1, Nat.lt_of_lt_of_le h2 hs.nx, hs.dead d h2 h3, by rw [hs.keep d h2 h3 fun h => by have := hx d h; omega]; exact h4⟩⟩
theorem hole_get {h : Heap} {r : Nat} : h.hole.get r = if r = h.next then none else h.get r := by
  simp only [Heap.hole, Heap.get, Tr.get_set]
theorem HLe.hole {h H : Heap} (hh : HLe h H) (o : AObj) : HLe h.hole (H.new o) ∧ Stp No h H h.hole (H.new o) := by
  refine ⟨⟨by show h.next + 1 = H.next + 1; rw [hh.nx], fun r u hr => ?_, hh.sh⟩, Nat.le_succ _, fun r hr hn => ?_, fun r hr hn _ => ?_⟩
  · rw [hole_get] at hr
    split at hr
    · cases hr
    · rename_i hne
      rw [Heap.get_new, if_neg (by rw [← hh.nx]; exact hne)]; exact hh.le _ _ hr
  · rw [hole_get]; split <;> first | rfl | exact hn
  · rw [Heap.get_new, if_neg (by rw [← hh.nx]; omega)]
section
variable {ex : Nat → Self} {T : Nat → Option AFun} {sf : Sf} {it : It} {n : Nat}
theorem pend_of {es : List AExit} {e : AExit} {i j : Nat} (h : pendOf es e i = some j) {R : Type} {ke : AExit → Option R} : i ≤ j ∧ pendK ke es i j = ke e := by
  induction es generalizing i with
  | nil => simp [pendOf] at h
  | cons a es ih =>
    have skip : pendOf es e (i + 1) = some j → i ≤ j ∧ pendK ke (a :: es) i j = ke e := by
      intro h
      obtain ⟨h1, h2⟩ := ih h
      refine ⟨by omega, ?_⟩
      have : Nat.beq j i = false := by
        cases hb : Nat.beq j i with
        | false => rfl
        | true => have := Nat.eq_of_beq_eq_true hb; omega
      rw [pendK, this]; exact h2
    have hit : i = j → a = e → i ≤ j ∧ pendK ke (a :: es) i j = ke e := by
      rintro rfl rfl
      refine ⟨Nat.le_refl _, ?_⟩
      rw [pendK, Nat.beq_refl]; rfl
    cases a with
    | normal => cases e <;> exact skip (by simpa [pendOf] using h)
    | ret =>
      cases e with
      | ret => exact hit (by simpa [pendOf] using h) rfl
      | normal => exact skip (by simpa [pendOf] using h)
      | exit b => exact skip (by simpa [pendOf] using h)
    | exit a =>
      cases e with
      | normal => exact skip (by simpa [pendOf] using h)
      | ret => exact skip (by simpa [pendOf] using h)
      | exit b =>
        simp only [pendOf] at h
        cases hb : Nat.beq a b with
        | true =>
          rw [hb] at h
          simp only [cond_true, Option.some.injEq] at h
          exact hit h (by rw [Nat.eq_of_beq_eq_true hb])
        | false => rw [hb] at h; exact skip h
theorem run_range_of {self : Self} {m : Nat} {rd : Option Nat} {f : Operand} {ps : List Nat} {as bd : AC} {s : St} {g : Nat} {first captured : Array Value} {s1 : St} {val : Value} {H2 : Heap} {e : AExit}
    (hf : St.val s.tm f = .func (.func g) first captured) (ho : openLoop rd s = some s1)
    (hc : self (.fn g) (first.toList ++ [.func (.yield s1.h.next) #[] #[]] ++ captured.toList) (s1.h.new (.loop s.tm ps as bd .ready none)) = some (val, H2))
    (hl : (e = .normal ∧ ∃ tm ps as bd, H2.get s1.h.next = some (.loop tm ps as bd .ready none)) ∨ (∃ tm ps as bd, H2.get s1.h.next = some (.loop tm ps as bd .done (some e)))) :
    run self m rd (.range f ps as bd) s = some (e, { s1 with h := H2.drop s1.h.next }) := by
  simp only [run, hf, ho, hc]
  rcases hl with ⟨rfl, _, _, _, _, hl⟩ | ⟨_, _, _, _, hl⟩
  · simp only [shutLoop, hl]
  · simp only [shutLoop, hl]
theorem yield_of {n : Nat} {l : Nat} {args : List Value} {H H1 H2 : Heap} {tm tm1 tm2 : Tr Value} {ps : List Nat} {as bd : AC} {ds1 ds2 : List Nat} {e : AExit}
    (hl : H.get l = some (.loop tm ps as bd .ready none)) (hlen : args.length = ps.length)
    (ha : run (exec T n) n (some l) as ⟨setAll tm ps args, H, []⟩ = some (.normal, ⟨tm1, H1, ds1⟩)) (hl1 : H1.get l = some (.loop tm ps as bd .ready none))
    (hb : run (exec T n) n (some l) bd ⟨tm1, H1.put l (.loop tm ps as bd .busy none), ds1⟩ = some (e, ⟨tm2, H2, ds2⟩)) (hl2 : H2.get l = some (.loop tm ps as bd .busy none)) :
    exec T (n + 1) (.yield l) args H = match e with
      | .normal => some (.bool true, H2.put l (.loop tm ps as bd .ready none))
      | e => some (.bool false, H2.put l (.loop tm ps as bd .done (some e))) := by
  have hq : Nat.beq args.length ps.length = true := by rw [hlen]; exact Nat.beq_refl _
  simp only [exec, hl, hq, cond_true, ha, hl1, hb, hl2]
  cases e <;> rfl
end
end Go.Proofs.YtdlfdieehioolaaDoor
