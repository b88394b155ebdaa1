/- maps.Clone, by the kit's contract. -/
import Derived.Test.YtkgbjikgmdfdfaaPrim
namespace Go.Proofs.Ytkgbjikgmdfdfaa
open Go
set_option linter.unusedVariables false
set_option linter.unusedSimpArgs false

/-- Another map with the same entries. -/
def cloneM : Prim := fun args H => match args with
  | [.map none] => some (.map none, H)
  | [.map (some r)] => match H.get r with
    | some (.map kvs) => some (.map (some H.next), H.new (.map kvs))
    | _ => none
  | _ => none

theorem cloneM_ok {P : Program} {k : Nat} (h1 : ∀ (b : Nat) (es : Array MapEntry) (clock : Nat) (w : World), w.heap[b]? = some (.map es clock) → Calls P k #[.map (some b)] w fun e w' => e = .returned (.map (some w.heap.size)) ∧ w' = w.alloc (.map es clock))
    (h0 : ∀ w : World, Calls P k #[.map none] w fun e w' => e = .returned (.map none) ∧ w' = w) : PrimOk P k cloneM := by
  intro args H v H' h ι w args' hs hg ha
  cases ha with
  | nil => simp [cloneM] at h
  | cons ha hr =>
    cases hr with
    | cons _ _ =>
      rename_i a _ _ _ _ _ _
      simp only [cloneM] at h
      cases h
    | nil =>
      cases ha with
      | val hv => cases hv with
        | cell hc => cases hc with
          | atom ha => cases ha with
            | nilm =>
              simp only [cloneM, Option.some.injEq, Prod.mk.injEq] at h
              obtain ⟨rfl, rfl⟩ := h
              refine callsIn_wide.2 ((h0 w).mono ?_)
              rintro e w' ⟨rfl, rfl⟩
              exact ⟨_, ι, rfl, .atom .nilm, Step.refl hs⟩
            | @map r b d e hi =>
              simp only [cloneM] at h
              cases hgr : H.get r with
              | none => rw [hgr] at h; cases h
              | some o =>
                rw [hgr] at h
                cases o with
                | map kvs =>
                  simp only [Option.some.injEq, Prod.mk.injEq] at h
                  obtain ⟨rfl, rfl⟩ := h
                  obtain ⟨b', d', e', c, g1, g2, g3⟩ := hs.obj _ _ hgr
                  rw [hi] at g1
                  cases g1
                  cases c with
                  | map es clock =>
                    refine callsIn_wide.2 ((h1 b es clock w g2).mono ?_)
                    rintro x w' ⟨rfl, rfl⟩
                    have hnone : ι H.next = none := by
                      cases hx : ι H.next with
                      | none => rfl
                      | some x => have := hs.fresh _ _ hx; omega
                    have hst := Step.new (e := 0) hs (.map kvs) (.map es clock) hnone (ObjR.mono (o := .map kvs) (c := .map es clock) (d := 0) (e := 0) g3 (Ext.set hnone))
                    exact ⟨_, _, rfl, .atom (@AtomR.map _ H.next w.heap.size 0 0 (by simp [Emb.set])), hst⟩
                  | _ => exact g3.elim
                | _ => cases h
            | _ => simp [cloneM] at h
          | fn => simp [cloneM] at h
        | agg _ => simp [cloneM] at h
      | tuple _ => simp [cloneM] at h
end Go.Proofs.Ytkgbjikgmdfdfaa
