/- One operation within code, and a region carried out in its order. -/
import Derived.Test.YtdlfdieehioolaaDoorOps9
namespace Go.Proofs.YtdlfdieehioolaaDoor
open Go
set_option linter.unusedVariables false
set_option linter.unusedSimpArgs false
section
variable {P : Program} {ι : Emb} {H H' : Heap} {w : World} {ev ρ : Operand → Value} {v : Value}
theorem big_builtin {b : Builtin} {args : Array Operand} {ts : Array TypeId} {a : AOp} {dst : Option Tmp} {ty : TypeId} {pos : String} {after : Array Edge} {guard : Option (Nat × Bool)}
    (hc : compBuiltin P b args.toList ts.toList = some a) (hs : Sat P ι H w) (hsm : smallOp a = false)
    (he : aop ev H a = some (v, H')) (hx : ∀ x ∈ args.toList, VR ι (ev x) (ρ x)) : Big P ι H w (execOp ρ ⟨dst, .call ⟨.builtin b, args, ts⟩, ty, pos, after, guard⟩) v H' := by
  obtain ⟨l⟩ := args
  obtain ⟨tl⟩ := ts
  simp only at hc hx
  unfold compBuiltin at hc
  split at hc
  · (repeat' split at hc) <;> cases hc <;> cases hsm
  · (repeat' split at hc) <;> cases hc <;> cases hsm
  · cases hc; cases hsm
  · cases hc; cases hsm
  · split at hc
    · rename_i hu hu2
      obtain ⟨sz, hsz, hc⟩ := bind_some hc
      obtain ⟨by_, hby, hc⟩ := bind_some hc
      obtain ⟨z, hz, hc⟩ := bind_some hc
      split at hc
      · rename_i hcond
        cases hc
        exact b_append hu hu2 hsz hby hz hcond.2.2.2 hcond.1 hcond.2.1 hcond.2.2.1 hs he (hx _ (by simp)) (hx _ (by simp))
      · cases hc
    · rename_i hu hu2
      obtain ⟨sz, hsz, hc⟩ := bind_some hc
      obtain ⟨by_, hby, hc⟩ := bind_some hc
      obtain ⟨z, hz, hc⟩ := bind_some hc
      split at hc
      · rename_i hcond
        cases hc
        exact b_appendZ hu hu2 hsz hby hz hcond.2.2.2 hcond.1 hcond.2.1 hcond.2.2.1 hs he (hx _ (by simp)) (hx _ (by simp))
      · cases hc
    · cases hc
  · split at hc
    · rename_i hu hu2
      obtain ⟨sz, hsz, hc⟩ := bind_some hc
      split at hc
      · rename_i h1; cases hc; exact b_copy (e2 := 0) hu hsz h1 hs he (hx _ (by simp)) (hx _ (by simp))
      · cases hc
    · cases hc
  · split at hc
    · rename_i hu
      obtain ⟨z, hz, hc⟩ := bind_some hc
      obtain ⟨sz, hsz, hc⟩ := bind_some hc
      split at hc
      · rename_i h1; cases hc; exact b_clear hu hz hsz h1.1 h1.2 hs he (hx _ (by simp))
      · cases hc
    · cases hc
  · split at hc
    · rename_i hu
      obtain ⟨k, hk, hc⟩ := bind_some hc
      cases hc; exact b_delete (u1 := 0) hu hk hs he (hx _ (by simp)) (hx _ (by simp))
    · cases hc
  · cases hc
def isCall : AOp → Bool
  | .call _ _ | .callv _ _ => true
  | _ => false
theorem big_sound {op : Op} {a : AOp} {dst : Option Tmp} {ty : TypeId} {pos : String} {after : Array Edge} {guard : Option (Nat × Bool)} (hc : compOp P op = some a) (hcall : isCall a = false) (hcs : smallSrc op = true → smallOp a = true) (hs : Sat P ι H w)
    (he : aop ev H a = some (v, H')) (hx : ∀ x ∈ op.operands.toList, VR ι (ev x) (ρ x)) (hρ : ∀ c, ρ (.const c) = c) : Big P ι H w (execOp ρ ⟨dst, op, ty, pos, after, guard⟩) v H' := by
  cases hsm : smallOp a with
  | true => exact (small_sound hc hsm he hx hρ (hs.reads _)).big hs
  | false =>
    cases op with
    | store t x y =>
      simp only [compOp] at hc
      obtain ⟨s, hs', hc⟩ := bind_some hc
      cases hc; exact b_store hs' hs he (hx x (by simp [Op.operands])) (hx y (by simp [Op.operands]))
    | convert s d x =>
      simp only [compOp] at hc
      split at hc
      · cases hc; cases hsm
      · cases hf : fromBytes P s d with
        | true => rw [hf] at hc; cases hc; cases hsm
        | false =>
          rw [hf] at hc
          simp only [cond_false] at hc
          cases hf2 : intoBytes P s d with
          | true => rw [hf2] at hc; cases hc; exact b_toBytes hf2 hs he (hx x (by simp [Op.operands]))
          | false =>
            rw [hf2] at hc
            simp only [cond_false] at hc
            cases hf3 : sameBytes P s d with
            | true => rw [hf3] at hc; cases hc; exact b_markS hf3 hs he (hx x (by simp [Op.operands]))
            | false => rw [hf3] at hc; cases hc
    | range t x =>
      simp only [compOp] at hc
      split at hc
      · rename_i hu; cases hc; exact b_rangeM hu hs he (hx x (by simp [Op.operands]))
      · cases hc
    | next x str =>
      cases str <;> simp only [compOp] at hc
      · cases hc; exact b_nextM hs he (hx x (by simp [Op.operands]))
      · cases hc
    | mapUpdate t m k x =>
      simp only [compOp] at hc
      split at hc
      · rename_i hu
        obtain ⟨k', hk, hc⟩ := bind_some hc
        cases hc; exact (b_mapUpdate hu hk hs he (hx m (by simp [Op.operands])) (hx k (by simp [Op.operands])) (hx x (by simp [Op.operands]))).1
      · cases hc
    | insert t m k x =>
      simp only [compOp] at hc
      split at hc
      · rename_i hu
        obtain ⟨k', hk, hc⟩ := bind_some hc
        cases hc; exact (b_mapUpdate hu hk hs he (hx m (by simp [Op.operands])) (hx k (by simp [Op.operands])) (hx x (by simp [Op.operands]))).2
      · cases hc
    | call c =>
      obtain ⟨callee, args, ts⟩ := c
      cases callee with
      | value f =>
        cases f <;> simp only [compOp] at hc
        case func f => split at hc <;> cases hc; cases hcall
        all_goals (cases hc; cases hcall)
      | invoke r m => simp only [compOp] at hc; cases hc
      | builtin b =>
        simp only [compOp] at hc
        exact big_builtin hc hs hsm he (fun x h => hx x (by simp only [Op.operands, Call.operands, Array.toList_append, List.mem_append]; exact .inr h))
    | _ => have := hcs rfl; rw [hsm] at this; cases this
end
end Go.Proofs.YtdlfdieehioolaaDoor
