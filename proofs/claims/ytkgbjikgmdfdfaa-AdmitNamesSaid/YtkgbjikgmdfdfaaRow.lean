/- From the abstract machine to a row. -/
import Derived.Test.YtkgbjikgmdfdfaaCode8
import Derived.WalkKit
import Derived.ProofKit
import Derived.OpenShut
namespace Go.Proofs.Ytkgbjikgmdfdfaa
open Go Go.ChangeShapes Go.WideShapes Go.ChangeAt Go.RowKit
set_option linter.unusedVariables false
set_option linter.unusedSimpArgs false

/-- The table of all functions that compile. -/
def tableOf (P : Program) (f : Nat) : Option AFun := bif oneBody P f then (match P.funcs[f]? with | some fn => compFun P fn | none => none) else none

theorem tableOf_ok (P : Program) : TOk P (tableOf P) := by
  intro f af h
  unfold tableOf at h
  cases h1 : oneBody P f with
  | false => rw [h1] at h; cases h
  | true =>
    rw [h1] at h
    simp only [cond_true] at h
    cases h2 : P.funcs[f]? with
    | none => simp [h2] at h
    | some fn =>
      simp only [h2] at h
      refine ⟨rfl, .inr ⟨?_, fn, rfl, .inl h⟩⟩
      unfold compFun at h
      obtain ⟨c, _, h⟩ := bind_some h
      obtain ⟨b, _, h⟩ := bind_some h
      obtain ⟨rs, _, h⟩ := bind_some h
      cases h; rfl

def isTrue : Option (Value × Heap) → Bool
  | some (.bool true, _) => true
  | _ => false

theorem isTrue_inv {x : Option (Value × Heap)} (h : isTrue x = true) : ∃ H', x = some (.bool true, H') := by
  unfold isTrue at h
  split at h
  · exact ⟨_, rfl⟩
  · cases h

/-- What was there is as it was. -/
def Kept (w w' : World) : Prop := w'.os = w.os ∧ w'.output = w.output ∧ w.heap.size ≤ w'.heap.size ∧ ∀ b, b < w.heap.size → w'.heap[b]? = w.heap[b]?

theorem Kept.keptBut {W w' : World} (h : Kept W w') (may : MemPlace → Prop) : W.keptBut w' may := by
  refine ⟨h.1, h.2.1, fun i hi => ?_⟩
  rw [h.2.2.2 i hi]
  exact (World.keptBut_refl W may).2.2 i hi

theorem Kept.frozen {W w' : World} (h : Kept W w') {a : Addr} (ha : a.block < W.heap.size) : w'.frozen? a = W.frozen? a := by
  unfold World.frozen?
  rw [h.2.2.2 _ ha]

def glob0 (P : Program) : Emb := fun g => if g < P.globals.size then some (g, 0, 0) else none
def heap0 (P : Program) : Heap := { tr := .nil, next := P.globals.size }

/-- A law without arguments. -/
theorem closed_calls {P : Program} {T : Nat → Option AFun} (hT : TOk P T) (hm : P.follows .mixedOrders = true) {k n : Nat} (he : isTrue (exec T n (.fn k) [] (heap0 P)) = true) (w : World) :
    Calls P k #[] w fun e w' => e = .returned (.bool true) ∧ Kept w w' := by
  obtain ⟨H', he⟩ := isTrue_inv he
  have hnone : ∀ r, (heap0 P).get r = none := fun r => by simp [heap0, Heap.get, Tr.get]
  have hs : Sat P (glob0 P) (heap0 P) w := by
    refine ⟨fun r o h => (by rw [hnone] at h; cases h), fun r r' o o' x x' h => (by rw [hnone] at h; cases h), fun r x h => ?_⟩
    unfold glob0 at h
    split at h
    · rename_i hlt; exact hlt
    · cases h
  have hg : Glob P (glob0 P) := fun g hg => by simp [glob0, hg]
  obtain ⟨_, hc⟩ := exec_sound hT hm n (.fn k) [] _ _ _ he _ w [] hs hg .nil
  refine (callsIn_wide.1 hc).mono ?_
  rintro e w' ⟨v', ι', rfl, hv, hst⟩
  refine ⟨?_, hst.os, hst.output, hst.size, fun b hb => hst.frame b hb fun r o x hr => by rw [hnone] at hr; cases hr⟩
  cases hv with
  | val h => cases h with
    | cell h => cases h with
      | atom h => cases h; rfl

/-- The answer of a law without arguments. -/
theorem closed_post {H : Type} {enc : TypeId × Value → H} {P : Program} {f : Func} {s : ChangeSpec} {apart fresh handsOn again : Bool} {W W' : World} {ty : TypeId} {ds gs : List (DataW H)} {before : List MemPlace}
    (hW : DataW.Whole enc P f.params.toList s.vars apart W [] ds gs before)
    (hp : f.params.toList = []) (hv : s.vars = []) (hr : f.resultTypes = #[ty]) (hb : P.underlying ty = some .bool)
    (hfn : s.fn H [] = { results := [.lit (.bool true)], args := [] }) (hk : Kept W W') : s.post enc P f apart fresh handsOn again W #[] (.bool true) W' := by
  have hW' := hW
  obtain ⟨p, q, hA, hV, rfl, _, _⟩ := hW
  rw [hp] at hA
  obtain ⟨_, rfl, rfl⟩ := trodAll_nil hA
  rw [hv] at hV
  obtain ⟨rfl, rfl⟩ := trodVars_none hV
  have hone : (Value.bool true).resultList f.resultTypes.size = [.bool true] := by rw [hr]; rfl
  have hres : ∀ b sp hd, DataW.TrodAll enc P W' b sp hd f.resultTypes.toList ((Value.bool true).resultList f.resultTypes.size) (s.fn H ([] ++ [])).results [] := by
    intro b sp hd
    rw [hone, hr, List.append_nil, hfn]
    exact trodAll_mk1 (shut_bool hb true)
  have hargs : ∀ sp, DataW.TrodAll enc P W' 0 sp true f.params.toList [] (s.fn H ([] ++ [])).args [] := by
    intro sp; rw [hp, List.append_nil, hfn]; exact trodAll_mk0
  refine ⟨[], [], [], [], [], [], hW', hres _ _ _, hargs _, ?_, hk.keptBut _, fun _ => ⟨ok_one hr rfl (okWide_bool_mk hb true), (s.fn H ([] ++ [])).results ++ [], [], [], ⟨[], [], ?_, ?_, rfl, fun _ _ h => absurd h List.not_mem_nil, fun _ => List.nodup_nil⟩, fun _ h => absurd h List.not_mem_nil⟩⟩
  · rw [hv, List.append_nil, hfn]; rfl
  · have h0 : DataW.TrodAll enc P W' 0 (fun _ => true) true f.params.toList (#[] : Array Value).toList [] [] := by rw [hp]; exact trodAll_mk0
    exact trodAll_append h0 (hres _ _ _)
  · rw [hv]; rfl

end Go.Proofs.Ytkgbjikgmdfdfaa
