/- Every small operation, as it was compiled. -/
import Derived.Test.YtdlfdieehioolaaDoorOps6
namespace Go.Proofs.YtdlfdieehioolaaDoor
open Go
set_option linter.unusedVariables false
set_option linter.unusedSimpArgs false
section
variable {P : Program} {ι : Emb} {H H' : Heap} {w : World} {ev ρ : Operand → Value} {v : Value} {dst : Option Tmp} {ty : TypeId} {pos : String} {after : Array Edge} {guard : Option (Nat × Bool)}
theorem small_builtin {b : Builtin} {args : Array Operand} {ts : Array TypeId} {a : AOp} (hc : compBuiltin P b args.toList ts.toList = some a) (hs : smallOp a = true)
    (he : aop ev H a = some (v, H')) (hx : ∀ x ∈ args.toList, VR ι (ev x) (ρ x)) (hr : ReadOk P ι H w (readsOf ev a)) :
    Small P ι H w (execOp ρ ⟨dst, .call ⟨.builtin b, args, ts⟩, ty, pos, after, guard⟩) v H' := by
  obtain ⟨l⟩ := args
  obtain ⟨tl⟩ := ts
  simp only at hc hx
  unfold compBuiltin at hc
  split at hc
  · -- len
    have hx0 := hx _ (List.mem_singleton.2 rfl)
    split at hc
    · rename_i hu; cases hc; exact s_lenS hu he hx0
    · rename_i hu; cases hc; exact s_lenStr hu he hx0
    · rename_i hu; cases hc; exact s_lenC (.inl ⟨_, hu⟩) he
    · rename_i hu
      split at hc
      · rename_i hu'; cases hc; exact s_lenC (.inr ⟨_, _, hu, hu'⟩) he
      · cases hc
    · rename_i hu; cases hc; exact s_lenM hu he hx0 hr
    · cases hc
  · -- cap
    have hx0 := hx _ (List.mem_singleton.2 rfl)
    split at hc
    · rename_i hu; cases hc; exact s_capS hu he hx0
    · cases hc
  · cases hc; exact s_minmax (isMax := false) (args := ⟨l⟩) he hx
  · cases hc; exact s_minmax (isMax := true) (args := ⟨l⟩) he hx
  · split at hc
    · obtain ⟨_, _, hc⟩ := bind_some hc
      obtain ⟨_, _, hc⟩ := bind_some hc
      obtain ⟨_, _, hc⟩ := bind_some hc
      split at hc <;> cases hc
      cases hs
    · obtain ⟨_, _, hc⟩ := bind_some hc
      obtain ⟨_, _, hc⟩ := bind_some hc
      obtain ⟨_, _, hc⟩ := bind_some hc
      split at hc <;> cases hc
      cases hs
    · cases hc
  · split at hc
    · obtain ⟨_, _, hc⟩ := bind_some hc
      split at hc <;> cases hc
      cases hs
    · cases hc
  · split at hc
    · obtain ⟨_, _, hc⟩ := bind_some hc
      obtain ⟨_, _, hc⟩ := bind_some hc
      split at hc <;> cases hc
      cases hs
    · cases hc
  · split at hc
    · obtain ⟨_, _, hc⟩ := bind_some hc
      cases hc; cases hs
    · cases hc
  · cases hc
theorem small_sound {op : Op} {a : AOp} (hc : compOp P op = some a) (hs : smallOp a = true) (he : aop ev H a = some (v, H'))
    (hx : ∀ x ∈ op.operands.toList, VR ι (ev x) (ρ x)) (hρ : ∀ c, ρ (.const c) = c) (hr : ReadOk P ι H w (readsOf ev a)) :
    Small P ι H w (execOp ρ ⟨dst, op, ty, pos, after, guard⟩) v H' := by
  cases op with
  | move x => simp only [compOp] at hc; cases hc; exact (s_move he (hx x (by simp [Op.operands]))).1
  | assign x => simp only [compOp] at hc; cases hc; exact (s_move he (hx x (by simp [Op.operands]))).2
  | pick c x y => simp only [compOp] at hc; cases hc; exact s_pick he (hx c (by simp [Op.operands])) (hx x (by simp [Op.operands])) (hx y (by simp [Op.operands]))
  | alloc e =>
    simp only [compOp] at hc
    obtain ⟨z, hz, hc⟩ := bind_some hc
    cases hc; exact s_alloc hz he
  | box e x => simp only [compOp] at hc; cases hc; exact s_box he (hx x (by simp [Op.operands]))
  | build t ps =>
    simp only [compOp] at hc
    obtain ⟨z, hz, hc⟩ := bind_some hc
    have hps : ∀ p ∈ ps.toList, VR ι (ev p.2) (ρ p.2) := fun p hp => hx p.2 (by simp only [Op.operands]; exact List.mem_map.2 ⟨p, hp, rfl⟩)
    split at hc
    · rename_i fs hu
      obtain ⟨qs, hq, hc⟩ := bind_some hc
      split at hc
      · rename_i hall; cases hc; exact s_build_struct hz hu hq hall he hps
      · cases hc
    · rename_i hu
      obtain ⟨s, hs', hc⟩ := bind_some hc
      cases hc; exact s_build_arr hz hu hs' he hps
    · cases hc
  | buildSlice t n ps =>
    simp only [compOp] at hc
    have hps : ∀ p ∈ ps.toList, VR ι (ev p.2) (ρ p.2) := fun p hp => hx p.2 (by simp only [Op.operands]; exact List.mem_map.2 ⟨p, hp, rfl⟩)
    split at hc
    · rename_i e hu
      obtain ⟨s, hs', hc⟩ := bind_some hc
      obtain ⟨z, hz, hc⟩ := bind_some hc
      split at hc
      · rename_i hcond; cases hc; exact s_buildSlice hu hs' hz hcond.1 hcond.2.1 hcond.2.2 he hps
      · cases hc
    · cases hc
  | load t x =>
    simp only [compOp] at hc
    obtain ⟨g, hg, hc⟩ := bind_some hc
    obtain ⟨s, hs', hc⟩ := bind_some hc
    split at hc
    · rename_i hcond; cases hc; exact s_load hg hs' hcond he (hx x (by simp [Op.operands])) hr
    · cases hc
  | store t x y =>
    simp only [compOp] at hc
    obtain ⟨s, hs', hc⟩ := bind_some hc
    cases hc; cases hs
  | nilCheck x => simp only [compOp] at hc; cases hc; exact s_nilCheck he (hx x (by simp [Op.operands]))
  | binOp op t x y yt =>
    have h1 := hx x (by simp [Op.operands])
    have h2 := hx y (by simp [Op.operands])
    cases op <;> simp only [compOp] at hc <;> split at hc <;> first | (cases hc; exact s_bin he h1 h2) | (cases hc; exact s_bins he h1 h2) | skip
    · split at hc
      · rename_i k hk; cases hc; exact s_eqv (neg := false) hk he h1 h2 hr
      · cases hc; exact s_bins he h1 h2
    · split at hc
      · rename_i k hk; cases hc; exact s_eqv (neg := true) hk he h1 h2 hr
      · cases hc; exact s_bins he h1 h2
  | unOp op t x => simp only [compOp] at hc; cases hc; exact s_un he (hx x (by simp [Op.operands]))
  | convert s d x =>
    simp only [compOp] at hc
    split at hc
    · rename_i hk0 hk; cases hc; exact s_conv hk0 hk he (hx x (by simp [Op.operands]))
    · cases hf : fromBytes P s d with
      | true => rw [hf] at hc; cases hc; exact s_toStr hf he (hx x (by simp [Op.operands])) hr
      | false =>
        rw [hf] at hc
        simp only [cond_false] at hc
        cases hf2 : intoBytes P s d with
        | true => rw [hf2] at hc; cases hc; cases hs
        | false =>
          rw [hf2] at hc
          simp only [cond_false] at hc
          cases hf3 : sameBytes P s d with
          | true => rw [hf3] at hc; cases hc; cases hs
          | false => rw [hf3] at hc; cases hc
  | range t x =>
    simp only [compOp] at hc
    split at hc
    · cases hc; cases hs
    · cases hc
  | next x str =>
    cases str <;> simp only [compOp] at hc
    · cases hc; cases hs
    · cases hc
  | sliceToArrayPointer t x =>
    simp only [compOp] at hc
    split at hc
    · rename_i hu; cases hc; exact s_arrAt hu he (hx x (by simp [Op.operands]))
    · cases hc
  | makeFunc fn first captured =>
    cases fn with
    | func f =>
      simp only [compOp] at hc; cases hc
      exact s_makeFunc he (fun x h => hx x (by simp only [Op.operands, Array.toList_append, List.mem_append]; exact .inl h)) (fun x h => hx x (by simp only [Op.operands, Array.toList_append, List.mem_append]; exact .inr h))
    | _ => simp only [compOp] at hc; cases hc
  | makeMap t r =>
    cases r with
    | none => simp only [compOp] at hc; cases hc; exact s_makeMap (.inl rfl) hρ he
    | some o =>
      cases o with
      | const c =>
        cases c with
        | int k n =>
          simp only [compOp] at hc
          split at hc
          · rename_i hu; cases hc; exact s_makeMap (.inr ⟨_, _, _, _, hu, rfl⟩) hρ he
          · cases hc
        | _ => simp only [compOp] at hc; cases hc
      | _ => simp only [compOp] at hc; cases hc
  | makeSlice t l c =>
    simp only [compOp] at hc
    split at hc
    · rename_i hu
      obtain ⟨s, hs', hc⟩ := bind_some hc
      obtain ⟨z, hz, hc⟩ := bind_some hc
      obtain ⟨b, hb, hc⟩ := bind_some hc
      split at hc
      · rename_i hcond; cases hc; exact s_makeSlice hu hs' hz hb hcond.1 hcond.2.1 he (hx l (by simp [Op.operands])) (hx c (by simp [Op.operands]))
      · cases hc
    · cases hc
  | slice t x lo hi mx =>
    simp only [compOp] at hc
    have h1 := hx x (by simp [Op.operands])
    have h2 : ∀ y, lo = some y → VR ι (ev y) (ρ y) := fun y h => hx y (by subst h; simp [Op.operands])
    have h3 : ∀ y, hi = some y → VR ι (ev y) (ρ y) := fun y h => hx y (by subst h; simp [Op.operands])
    have h4 : ∀ y, mx = some y → VR ι (ev y) (ρ y) := fun y h => hx y (by subst h; simp [Op.operands])
    split at hc
    · rename_i hu
      obtain ⟨s, hs', hc⟩ := bind_some hc
      cases hc; exact s_slice hu hs' he h1 h2 h3 h4
    · rename_i hu
      obtain ⟨s, hs', hc⟩ := bind_some hc
      split at hc
      · rename_i hcond
        cases hc
        have : mx = none := by simpa using hcond.2
        subst this
        exact s_sliceArr hu hs' he h1 h2 h3
      · cases hc
    · cases hc
  | fieldAddr t x i =>
    simp only [compOp] at hc
    split at hc
    · rename_i hu
      obtain ⟨f, hf, hc⟩ := bind_some hc
      obtain ⟨s, hs', hc⟩ := bind_some hc
      split at hc
      · rename_i h0; cases hc; exact s_fieldAddr hu hf hs' h0 he (hx x (by simp [Op.operands]))
      · cases hc
    · cases hc
  | field t x i =>
    simp only [compOp] at hc
    split at hc
    · rename_i hu
      obtain ⟨f, hf, hc⟩ := bind_some hc
      obtain ⟨s, hs', hc⟩ := bind_some hc
      obtain ⟨g, hg, hc⟩ := bind_some hc
      split at hc
      · rename_i h0; cases hc; exact s_field hu hf hs' hg h0 he (hx x (by simp [Op.operands]))
      · cases hc
    · cases hc
  | indexAddr t x i =>
    simp only [compOp] at hc
    split at hc
    · rename_i hu
      obtain ⟨s, hs', hc⟩ := bind_some hc
      cases hc; exact s_idxSlice hu hs' he (hx x (by simp [Op.operands])) (hx i (by simp [Op.operands]))
    · rename_i hu
      obtain ⟨s, hs', hc⟩ := bind_some hc
      cases hc; exact s_idxArr hu hs' he (hx x (by simp [Op.operands])) (hx i (by simp [Op.operands]))
    · cases hc
  | index t x i =>
    simp only [compOp] at hc
    split at hc
    · rename_i hu
      obtain ⟨s, hs', hc⟩ := bind_some hc
      obtain ⟨g, hg, hc⟩ := bind_some hc
      split at hc
      · rename_i h0; cases hc; exact s_index hu hs' hg h0 he (hx x (by simp [Op.operands])) (hx i (by simp [Op.operands]))
      · cases hc
    · rename_i hu; cases hc; exact s_indexStr hu he (hx x (by simp [Op.operands])) (hx i (by simp [Op.operands]))
    · cases hc
  | lookup t m k ok =>
    simp only [compOp] at hc
    split at hc
    · rename_i hu
      obtain ⟨k', hk, hc⟩ := bind_some hc
      obtain ⟨z, hz, hc⟩ := bind_some hc
      cases hc; exact s_lookup hu hk hz he (hx m (by simp [Op.operands])) (hx k (by simp [Op.operands])) hr
    · cases hc
  | mapUpdate t m k x =>
    simp only [compOp] at hc
    split at hc
    · obtain ⟨k', hk, hc⟩ := bind_some hc
      cases hc; cases hs
    · cases hc
  | insert t m k x =>
    simp only [compOp] at hc
    split at hc
    · obtain ⟨k', hk, hc⟩ := bind_some hc
      cases hc; cases hs
    · cases hc
  | extract x i => simp only [compOp] at hc; cases hc; exact s_extract he (hx x (by simp [Op.operands]))
  | call c =>
    obtain ⟨callee, args, ts⟩ := c
    cases callee with
    | value f =>
      cases f <;> simp only [compOp] at hc
      case func f => split at hc <;> cases hc; cases hs
      all_goals (cases hc; cases hs)
    | invoke r m => simp only [compOp] at hc; cases hc
    | builtin b =>
      simp only [compOp] at hc
      exact small_builtin hc hs he (fun x h => hx x (by simp only [Op.operands, Call.operands, Array.toList_append, List.mem_append]; exact .inr h)) hr
  | _ => simp only [compOp] at hc; cases hc
end
end Go.Proofs.YtdlfdieehioolaaDoor
